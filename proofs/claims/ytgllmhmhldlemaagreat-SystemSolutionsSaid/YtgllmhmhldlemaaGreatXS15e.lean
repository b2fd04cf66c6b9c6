/- The law SystemSolutions holds for every input: a part of its proof (what the code does, plain models, and what they return). No condition. -/
import Derived.Test.YtgllmhmhldlemaaGreatXS15d
import Derived.Test.YtgllmhmhldlemaaGreatXS15c
import Derived.Test.YtgllmhmhldlemaaGreatXS15b
set_option linter.unusedVariables false
set_option linter.unusedSimpArgs false
namespace Go.Proofs.YtgllmhmhldlemaaGreat
open Go.IntKind (i8 i16 i32 i64 u8 u16 u32 u64)
open Go.Proofs.Tryz
open Go Go.EL Go.RowKit Go.Proofs
theorem cI'{k r}(hr:(ZaI k).Ret r):CtrL prog 59 #[.slice none 0 0,i' k] [] (fun _=>True) (fun G L v=>∃ s t f,L=[(7000,f)]/\v=sv0 s r t/\RowR (Rp.sl g') 54 G (sv0 s r t) r f):=by
 obtain⟨⟨C,D⟩,hr⟩:=hr
 replace hr:[]=r:=hr
 subst hr
 obtain⟨m,rfl⟩:∃ m:Nat,k=m:=⟨k.toNat,by omega⟩
 refine bl' (args:=[_,_]) (N:=27) func59 z z z fun n e u _=>sr<|sx1 z<|c'<|sr<|mw0 z<|ls0 z<|nx<|bJ' (by rw[show decide ((m:Int)<0)=false from decide_eq_false (by omega)]; rfl)<|t'<|b'<|c'<|sr<|mw0 z<|mw0 z<|yw0 (Y0.capS al' z)<|mw0 z<|yw0 (Y0.lenC al' z)<|yw0 (ap' z z)<|yw0 (ap' z z) ?_
 have y:i64.wrap ((m:Int)-i64.wrap (((0:Nat):Int)-((0:Nat):Int)))=m:=by simp only[IntKind.wrap_i64]; omega
 rw[y]
 refine sx1 z<|sr<|mw0 z<|yw0 (aL' z z)<|nx<|WC.condD (p:=(0:Int)<(m:Int)) z (fun A=>?_) (fun A=>?_)
 .refine w'<|mw0 z<|mw0 z<|yw0 (Y0.capS al' z)<|yw0 (Y0.nilH al' sz54 z z)<|mw0 z<|WL.appendZ0 (sz:=1) (bytes:=24) (m:=m) 7001 z z al' aC' el54 z (by decide) (by decide) z z (by omega) (by simp only[small]; omega) fun q c g x B=>mw0 z<|yw0 (Y0.lenC al' z)<|yw0 (Y0.slc (l:=0) (h:=0) (m:=c) (b:=q) (o:=0) al' sz54 z z ⟨_,z⟩ z (Nat.le_refl _) (Nat.zero_le _) (Nat.le_refl _)) ?_
  simp only[Nat.zero_mul,Nat.add_zero,ite_self,Nat.sub_zero]
  refine sw0 z<|p'<|b'<|sr<|mw0 z<|sx1 z<|q'<|bh' (S':=St n e e [(7000,bk0 q g 54)]) (fun w d=>?_) (o' z z ⟨_,_,_,z,z,⟨c,[],g,z,z,z,z,B,x,Nat.zero_le _⟩⟩)
  have d:=d.rekey (i:=7001) (j:=7000) z (by rw[u]; rfl)
  exact d.weaken (lc z ln)
 refine t'<|b'<|sr<|mw0 z<|sx1 z<|q'<|bh' (S':=St n e e [(7000,none)]) (fun w d=>d.weaken (lw ln)) (o' z z ⟨_,_,_,z,z,RowR.nil⟩)
theorem dk'{l i r}(hr:(Zbd l i).Ret r):Ctr prog 95 #[.agg (vi8 l).toArray,.agg (vi8 i).toArray] (fun G=>True) (fun G v=>v=i' r):=by
 refine B' (args:=[_,_]) (N:=25) func95 z z z fun u g C B=>sr<|ah' 2 z z z fun k=>ah' 3 z z z fun j=>sx1 z<|c'<|sr<|yw0 (C' 2 bt' z z (an' _ _ _))<|yw0 (C' 3 bt' z z (an' _ _ _))<|yw0 (Y0.eqlV av' aC' sc3 sz3 eg77 z z)<|nx<|I' hr z (fun y hr=>?_) (fun y hr=>?_)
 .refine sr<|sx1 z<|q'<|j' (k0' hr z z)
 refine t'<|b'<|sr<|sx1 z<|c'<|aa' (X:=Int×Mem) hr (fun ⟨f,d⟩=>⟨f,[(2,pt0 k),(3,pt0 j),(5,i' f)],Mem.le g d,St u g d [(2,bk0 k (vi8 l) 77),(3,bk0 j (vi8 i) 77)]⟩) (fun (⟨s,h⟩:Int×Mem)=>⟨s,[(2,pt0 k),(3,pt0 j),(5,i' s)],Mem.le g h,St u g h [(2,bk0 k (vi8 l) 77),(3,bk0 j (vi8 i) 77)]⟩) ⟨0,g⟩ z (fz0 z) mr (w2 z z) ?_ ?_
 .rintro _ ⟨f,d⟩ e hr
  refine c'<|c'<|aj' [ff,ff,ff,ff,ff,ff] mix (by kernel_rfl) fun q=>cm0 z<|oA hr fun p hr=>cn (fun _ c=>bn' av' sz3 z z p)<|cn (fun _ c=>A' 2 sc3 z z (br' _ _ _ p))<|cm0 z<|oA hr fun o hr=>cn (fun _ c=>bn' av' sz3 z z o)<|cn (fun _ c=>A' 3 sc3 z z (br' _ _ _ o))<|am' q<|yw0 (aK' z z)<|p'<|ar'<|b'<|I' hr z (fun x hr=>?_) (fun x hr=>?_)
  .refine t'<|b'<|U'<|w'<|mw0 z<|ad0 z<|sw0 z<|p'<|E'<|O' ⟨i64.wrap (f+1),d⟩ hr e (fz0 z) (w2 z z)
  refine Z'<|f'<|f'<|F'<|ab' ⟨f,d⟩ ⟨hr,e⟩ (fz0 z) (w2 z z)
 rintro⟨s,h⟩ ⟨hr,A⟩
 refine b'<|c'<|c'<|aj' [ff,ff,ff,ff,ff,ff] mix (by kernel_rfl) fun q=>cm0 z<|oA hr fun m hr=>cn (fun _ c=>bn' av' sz3 z z m)<|cn (fun _ c=>A' 2 sc3 z z (br' _ _ _ m))<|cm0 z<|oA hr fun n hr=>cn (fun _ c=>bn' av' sz3 z z n)<|cn (fun _ c=>A' 3 sc3 z z (br' _ _ _ n))<|am' q<|ls0 z<|p'<|ar'<|b'<|I' hr z (fun t hr=>?_) (fun t hr=>?_)
 .refine sr<|sx1 z<|q'<|j' (k0' hr z z)
 refine t'<|b'<|sr<|sx1 z<|q' (k0' hr z z)
theorem dX'{l k j h g f i d c e r}(hr:(Zc9 l k).Ret r):Ctr prog 138 #[.agg (((v40' l.c j h g f):List Value)++(vi8 l.m)).toArray,.agg (((v40' k.c i d c e):List Value)++(vi8 k.m)).toArray] (fun G=>sl (Rp.int .u32) G j h l.c.num.mag/\sl (Rp.int .u32) G g f l.c.den.mag/\sl (Rp.int .u32) G i d k.c.num.mag/\sl (Rp.int .u32) G c e k.c.den.mag) (fun G v=>v=i' r):=by
 refine B' (args:=[_,_]) (N:=10) func138 z z z (fun A y u q=>?_)
 obtain⟨m,n,p,o⟩:=q
 refine sr<|ah' 2 z z z fun B=>ah' 3 z z z fun x=>sw0 z<|nr<|yw0 (bb' z)<|yw0 (ag' (vi8 k.m).toArray 3 bt' z z (an' _ _ _) (aq' ((v40' k.c i d c e)) (vi8 k.m) ([])))<|yw0 (bb' z)<|yw0 (ag' (vi8 l.m).toArray 2 bt' z z (an' _ _ _) (aq' ((v40' l.c j h g f)) (vi8 l.m) ([])))<|oE hr fun t s hr=>T' z z (k' E95 z) (dk' s) z (trivial)<|sx1 z<|q' (k0' hr z z)
theorem fN':Go.Sort.SWO (Go.Proofs.ltOf (fun a b:Za=>cmpM b.m a.m)):=⟨fun x=>swoR.irrefl x.m,fun x y z=>swoR.trans x.m y.m z.m,fun x y z=>swoR.ntrans x.m y.m z.m⟩
theorem bV'{l a b i p c n C r}(hr:(ZV l a b i).Ret r):CtrL prog 158 #[.slice p n c,i' a,i' b,i' i,.func (.func 138) #[] #[]] [(5000,C)] (fun G=>RowR g' 91 G (.slice p n c) l C) (fun G L v=>∃ s,L=[(5000,s)]/\v = .tuple #[]/\RowR g' 91 G (.slice p n c) r s):=by
 obtain⟨⟨rfl,rfl,⟨R,U⟩,Q⟩,hr⟩:=hr
 obtain⟨k,rfl⟩:∃ k:Nat,i=k:=⟨i.toNat,by omega⟩
 refine (pdqR (r:=g') (sz:=12) z (by decide) fN' Tryz.sortL z (fun _=>by kernel_rfl) (fun _=>by kernel_rfl) (fun x y T S w G O K=>?_) E138 91 p n c l C k (by omega) (by omega)).mono (fun _ h=>h) (fun G L v ⟨E,D,H,P,I,N,J⟩=>?_)
 .obtain⟨M,F⟩:=K
  obtain⟨u,B,o,j,rfl,g,d⟩:=ZhW M
  obtain⟨A,m,t,q,rfl,f,e⟩:=ZhW F
  exact dX' (show (Zc9 x y).Ret (cmpM y.m x.m) from ⟨_,ZcA y.m x.m,z⟩) w G O ⟨g,d,f,e⟩
 have:E=r:=hr E ⟨N,J.imp (fun h=>by simpa [Go.Proofs.ltOf] using h)⟩
 subst this
 exact⟨D,H,P,I⟩
theorem cd'{f d c r}(hr:(ZaK f).Ret r):Ctr prog 106 #[.agg ((v38' f d c)).toArray] (fun G=>sl (Rp.int .u32) G d c f.mag) (fun G v=>v=i' r):=by
 refine B' (args:=[_]) (N:=9) func106 z z z (fun l m j g=>?_)
 have e:=g
 refine sr<|ah' 1 z z z fun k=>sx1 z<|c'<|sr<|yw0 (ai' z)<|yw0 (A' 1 aE' z z z)<|yw0 (D' a' e z)<|yw0 (aK' z z)<|nx<|I' hr z (fun i hr=>?_) (fun i hr=>?_)
 .refine sr<|sx1 z<|q'<|j' (k0' hr z z)
 refine t'<|b'<|c'<|sr<|yw0 (aw' z)<|yw0 (A' 1 sc4 z z z)<|nx<|aX' hr z (fun h hr=>?_) (fun h hr=>?_)
 .refine sr<|sx1 z<|q'<|j' (k0' hr z z)
 refine t'<|b'<|sr<|sx1 z<|q' (k0' hr z z)
theorem bK'{h d c f e r}(hr:(ZH h).Ret r):Ctr prog 66 #[.agg ((v40' h d c f e)).toArray] (fun G=>sl (Rp.int .u32) G d c h.num.mag/\sl (Rp.int .u32) G f e h.den.mag) (fun G v=>v=i' r):=by
 refine B' (args:=[_]) (N:=6) func66 z z z (fun o p m j=>?_)
 obtain⟨g,i⟩:=j
 refine sr<|ah' 1 z z z fun n=>sw0 z<|nr<|yw0 (aT' z)<|yw0 (ag' ((v38' h.num d c)).toArray 1 W' z z z (aq' ([]) ((v38' h.num d c)) ((v38' h.den f e))))<|oE hr fun l k hr=>T' z z (k' E106 z) (cd' k) z (g)<|sx1 z<|q' (k0' hr z z)
theorem bp'{h f g r}(hr:(Z9 h).Ret r):Ctr prog 100 #[sv0 f h g] (fun G=>sl (Rp.int .u32) G f g h) (wl' (Rp.int .u32) r):=by
 refine B' (args:=[_]) (N:=21) func100 z z z (fun q j x n=>?_)
 have e:=n
 refine sr<|sw0 z<|nr<|mw0 z<|yw0 (D' a' e z)<|sx1 z<|c'<|aa' (X:=Int×Mem) hr (fun ⟨i,d⟩=>⟨i,[(0,sv0 f h g),(3,i' i)],Mem.le j d,St q j d []⟩) (fun (⟨o,k⟩:Int×Mem)=>⟨o,[(0,sv0 f h g),(3,i' o)],Mem.le j k,St q j k []⟩) ⟨(h.length:Int),j⟩ z (fz0 z) mr (wk ln) ?_ ?_
 .rintro _ ⟨i,d⟩ c hr
  refine c'<|sr<|mw0 z<|aQ' hr z (aL' z z) z (fun t hr=>?_) (fun t hr=>?_)
  .refine mw0 z<|gm0 z<|gm0 z<|gy z z (ap' z z) z<|oE hr fun A m hr=>gy z z (Q' a' R' (e.mono c) z z m) z<|gy z z (ac' au' z (ak' (M' (ad' e m) c))) z<|gy z z (aK' z z) z<|pt00 z<|nx<|I' hr z (fun u hr=>?_) (fun u hr=>?_)
   .refine t'<|b'<|U'<|w'<|mw0 z<|yw0 (ap' z z)<|sw0 z<|p'<|E'<|O' ⟨i64.wrap (i-1),d⟩ hr c (fz0 z) (wk ln)
   refine Z'<|f'<|f'<|F'<|ab' ⟨i,d⟩ ⟨hr,c⟩ (fz0 z) (wk ln)
  refine mw0 z<|sn6 z<|pf00 z<|nx<|bJ' z<|Z'<|f'<|f'<|F'<|ab' ⟨i,d⟩ ⟨hr,c⟩ (fz0 z) (wk ln)
 rintro⟨o,k⟩ ⟨hr,l⟩
 refine b'<|sr<|mw0 z<|mw0 z<|oA hr fun p hr=>dE' (r:=(Rp.int .u32)) z z a' R' z (e.mono l) z z p fun y v s=>sx1 z<|q' ?_
 obtain rfl:_=r:=hr
 exact o' z z ⟨_,_,z,s⟩
theorem cy'{c r}(hr:(Zby c).Ret r):Ctr prog 98 #[.int .u64 c] (fun G=>True) (wl' (Rp.int .u32) r):=by
 refine B' (args:=[_]) (N:=10) func98 z z z fun v t i o=>sr<|sw0 z<|nr<|mw0 z<|yw0 (K' h' m' z)<|mw0 z<|yw0 (bH' z z (by decide))<|yw0 (K' h' m' z)<|aO' (e:=139) (r:=(Rp.int .u32)) (vs:=#[(0,.int .u32 (u32.wrap c)),(1,.int .u32 (u32.wrap (Int.fdiv c (2 ^ (min (32:Int).toNat u64.bits)))))]) (cs:=[.int .u32 (u32.wrap c)]++([.int .u32 (u32.wrap (Int.fdiv c (2 ^ (min (32:Int).toNat u64.bits))))]++([]))) ([u32.wrap c,u32.wrap (Int.fdiv c (2 ^ (min (32:Int).toNat u64.bits)))]:List Int) z z z z z (by decide) (fun _=>by kernel_rfl) ⟨[.int .u32 (u32.wrap c)],[.int .u32 (u32.wrap (Int.fdiv c (2 ^ (min (32:Int).toNat u64.bits))))]++([]),z,z,⟨[.int .u32 (u32.wrap (Int.fdiv c (2 ^ (min (32:Int).toNat u64.bits))))],[],z,z,z⟩⟩ (key:=999) z (by rw[i]; rfl) (fun u p k h=>?_)
 refine oE hr fun q g hr=>y' z z (k' E100 z) (bp' g) z (h) (fun l s j d=>?_)
 obtain⟨n,m,rfl,f⟩:=d
 refine sx1 z<|q' ?_
 obtain rfl:_=r:=hr
 exact o' z z ⟨_,_,z,f⟩
theorem bg'{c d f e r}(hr:(Z3 c d).Ret r):Ctr prog 97 #[.bool c,sv0 f d e] (fun G=>sl (Rp.int .u32) G f e d) (w38' r):=by
 refine B' (args:=[_,_]) (N:=14) func97 z z z (fun A y u n=>?_)
 have l:=n
 refine sr<|P' 4 z z38 z fun x=>nr<|mw0 z<|oE hr fun m o hr=>y' z z (k' E100 z) (bp' o) z (l) (fun s t q g=>?_)
 obtain⟨k,j,rfl,h⟩:=g
 refine sx1 z<|c'<|sr<|mw0 z<|yw0 (D' a' h z)<|yw0 (aK' z z)<|nx<|I' hr z (fun p hr=>?_) (fun p hr=>?_)
 .refine sr<|yw0 (ax' (vs:=#[]) (v:=.agg ([.bool false,.slice none 0 0]).toArray) z z (fun _=>by kernel_rfl))<|stB 4 aA' z<|nx<|q'<|j' ?_
  obtain rfl:_=r:=hr
  exact o' z (af' (i:=4) W' z z z) ⟨_,_,z,(ay' (Rp.int .u32) _)⟩
 refine t'<|b'<|sr<|mw0 z<|mw0 z<|yw0 (ax' (vs:=#[(0,.bool c),(1,sv0 k m j)]) (v:=.agg ([.bool c,sv0 k m j]).toArray) z z (fun _=>by kernel_rfl))<|stB 4 aA' z<|nx<|q' ?_
 obtain rfl:_=r:=hr
 exact o' z (af' (i:=4) W' z z z) ⟨_,_,z,h⟩
theorem cA'{u r}(hr:(Zb7 u).Ret r):Ctr prog 62 #[i' u] (fun G=>True) (w38' r):=by
 refine B' (args:=[_]) (N:=15) func62 z z z fun Y X V K=>sr<|P' 2 z z38 z fun W=>nr<|mw0 z<|yw0 (K' aU' h' z)<|sx1 z<|c'<|sr<|mw0 z<|ls0 z<|nx<|I' hr z (fun v hr=>?_) (fun v hr=>?_)
 .refine w'<|mw0 z<|yw0 (Y0.neg z)<|sw0 z<|nr<|mw0 z<|ls0 z<|mw0 z<|oE hr fun Q o hr=>y' z z (k' E98 z) (cy' o) z (trivial) (fun C M B d=>?_)
  obtain⟨I,F,rfl,n⟩:=d
  refine oE hr fun O j hr=>y' z z (k' E97 z) (bg' j) z (n) (fun L T A g=>?_)
  obtain⟨s,q,rfl,e⟩:=g
  refine stB 2 aA' z<|nx<|q' ?_
  obtain rfl:_=r:=hr
  exact o' z (af' (i:=2) W' z z z) ⟨_,_,z,e⟩
 refine t'<|b'<|sr<|mw0 z<|ls0 z<|mw0 z<|oE hr fun S m hr=>y' z z (k' E98 z) (cy' m) z (trivial) (fun J U y c=>?_)
 obtain⟨D,H,rfl,l⟩:=c
 refine oE hr fun P k hr=>y' z z (k' E97 z) (bg' k) z (l) (fun E R x f=>?_)
 obtain⟨p,t,rfl,h⟩:=f
 refine stB 2 aA' z<|nx<|q' ?_
 obtain rfl:_=r:=hr
 exact o' z (af' (i:=2) W' z z z) ⟨_,_,z,h⟩
theorem bP'{g e d r}(hr:(Zan g).Ret r):Ctr prog 125 #[.agg ((v38' g e d)).toArray] (fun G=>sl (Rp.int .u32) G e d g.mag) (fun G v=>v = .bool r):=by
 refine B' (args:=[_]) (N:=19) func125 z z z (fun m o k h=>?_)
 have c:=h
 refine sr<|ah' 1 z z z fun l=>sw0 z<|nr<|yw0 (aw' z)<|aQ' hr z (Y0.eq (A' 1 sc4 z z z) (congrArg Value.bool (bdec _))) z (fun i hr=>?_) (fun i hr=>?_)
 .refine yw0 (bf' z)<|mw0 z<|sn4 z<|pf00 z<|mw0 z<|sn5 z<|pf00 z<|sx1 z<|q' (k0' hr z z)
 refine yw0 (bf' z)<|mw0 z<|gy z z (ai' z) z<|gy z z (A' 1 aE' z z z) z<|gy z z (D' a' c z) z<|aQ' hr (as' z z) (aK' z z) z (fun j hr=>?_) (fun j hr=>?_)
 .refine pt00 z<|mw0 z<|gy z z (ai' z) z<|gy z z (A' 1 aE' z z z) z<|oE hr fun n f hr=>gy z z (Q' a' R' c z z f) z<|gy z z (ac' au' z (ak' (ad' c f))) z<|gy z z (aK' z z) z<|pt00 z<|sx1 z<|q' (k0' hr z z)
 refine pt00 z<|mw0 z<|sn5 z<|pf00 z<|sx1 z<|q' (k0' hr z z)
theorem ex'{c d t o s u r}(hr:(ZeX c d).Ret r):Ctr prog 105 #[sv0 t c o,sv0 s d u] (fun G=>sl (Rp.int .u32) G t o c/\sl (Rp.int .u32) G s u d) (wl' (Rp.int .u32) r):=by
 refine B' (args:=[_,_]) (N:=70) func105 z z z (fun Y L ap ag=>?_)
 obtain⟨A,p⟩:=ag
 refine sr<|sw0 z<|nr<|mw0 z<|yw0 (D' a' A z)<|mw0 z<|yw0 (D' a' p z)<|ad0 z<|oA hr fun ak hr=>bj' (r:=(Rp.int .u32)) (e:=139) (n:=i64.wrap ((c.length:Int)+(d.length:Int))) (zx:=0) 4016 z z a' bO' z (by decide) (by decide) z z z ak fun J af an=>sx1 z<|c'<|sr<|mw0 z<|yw0 (D' a' A z)<|mw0 z<|nx<|aa' (X:=(List Int)×Option Ow×Int×Mem) hr (fun ⟨E,j,f,x⟩=>⟨(E,f),[(0,sv0 t c o),(1,sv0 s d u),(5,.slice J (i64.wrap ((c.length:Int)+(d.length:Int))).toNat ((i64.wrap ((c.length:Int)+(d.length:Int))).toNat)),(18,i' (c.length:Int)),(19,i' f)],Mem.le L x/\RowR (Rp.int .u32) 139 x (.slice J (i64.wrap ((c.length:Int)+(d.length:Int))).toNat ((i64.wrap ((c.length:Int)+(d.length:Int))).toNat)) E j,St Y L x [(4016,j)]⟩) (fun (⟨K,D,Q⟩:(List Int)×Option Ow×Mem)=>⟨K,[(5,.slice J (i64.wrap ((c.length:Int)+(d.length:Int))).toNat ((i64.wrap ((c.length:Int)+(d.length:Int))).toNat))],Mem.le L Q/\RowR (Rp.int .u32) 139 Q (.slice J (i64.wrap ((c.length:Int)+(d.length:Int))).toNat ((i64.wrap ((c.length:Int)+(d.length:Int))).toNat)) K D,St Y L Q [(4016,D)]⟩) ⟨(List.replicate (i64.wrap ((c.length:Int)+(d.length:Int))).toNat 0),af,0,L⟩ z (fz0 z) ⟨mr,an⟩ (w1 z) ?_ ?_
 .rintro _ ⟨E,j,f,x⟩ ⟨h,O⟩ hr
  refine sr<|ls0 z<|nx<|c'<|I' hr z (fun aq hr=>?_) (fun aq hr=>?_)
  .refine t'<|b'<|c'<|U'<|sr<|mw0 z<|sw0 z<|nr<|sw0 z<|nr<|mw0 z<|mw0 z<|oE hr fun T ac hr=>yw0 (Q' a' R' (A.mono h) z z ac)<|yw0 (ac' au' z (ak' (M' (ad' A ac) h)))<|yw0 (K' m' h' z)<|sx1 z<|c'<|sr<|mw0 z<|yw0 (D' a' (p.mono h) z)<|mw0 z<|nx<|aa' (X:=(List Int)×Option Ow×Int×Int×Mem) hr (fun ⟨B,q,k,l,F⟩=>⟨(B,k,l),[(0,sv0 t c o),(1,sv0 s d u),(5,.slice J (i64.wrap ((c.length:Int)+(d.length:Int))).toNat ((i64.wrap ((c.length:Int)+(d.length:Int))).toNat)),(6,i' f),(7,.int .u64 k),(8,.int .u64 (u64.wrap T)),(18,i' (c.length:Int)),(19,i' f),(28,i' (d.length:Int)),(29,i' l)],Mem.le x F/\RowR (Rp.int .u32) 139 F (.slice J (i64.wrap ((c.length:Int)+(d.length:Int))).toNat ((i64.wrap ((c.length:Int)+(d.length:Int))).toNat)) B q,St Y L F [(4016,q)]⟩) (fun (⟨H,C,v,I⟩:(List Int)×Option Ow×Int×Mem)=>⟨(H,v),[(0,sv0 t c o),(1,sv0 s d u),(5,.slice J (i64.wrap ((c.length:Int)+(d.length:Int))).toNat ((i64.wrap ((c.length:Int)+(d.length:Int))).toNat)),(6,i' f),(7,.int .u64 v),(18,i' (c.length:Int)),(19,i' f)],Mem.le x I/\RowR (Rp.int .u32) 139 I (.slice J (i64.wrap ((c.length:Int)+(d.length:Int))).toNat ((i64.wrap ((c.length:Int)+(d.length:Int))).toNat)) H C,St Y L I [(4016,C)]⟩) ⟨E,j,0,0,x⟩ z (f10 z z z z z z z z z z) ⟨mr,O⟩ (w1 z) ?_ ?_
   .rintro _ ⟨B,q,k,l,F⟩ ⟨y,m⟩ hr
    refine sr<|ls0 z<|nx<|c'<|I' hr z (fun am hr=>?_) (fun am hr=>?_)
    .refine t'<|b'<|c'<|U'<|sr<|mw0 z<|sx1 z<|c'<|aj' [ff,ff,ff,ff,ff,ff,ff,ff,ff,ff,ff,ff,ff,ff,ff,ff] mix (by kernel_rfl) fun hb=>cm0 z<|cm0 z<|cm0 z<|oE hr fun V Z hr=>cn (fun _ g=>Q' a' R' ((p.mono (mx h y)).mono g) z z Z)<|cn (fun _ g=>ac' au' z (ak' (M' (M' (ad' p Z) (mx h y)) g)))<|cn (fun _ g=>K' m' h' z)<|cn (fun _ g=>bE' z z)<|cm0 z<|cm0 z<|cm0 z<|cn (fun _ g=>J' z z)<|oE hr fun U ab hr=>cn (fun _ g=>aB' a' R' (m.mono g) z z ab)<|cn (fun _ g=>cP' au' (m.mono g) (key:=4016) z z (ak' (dl' m ab)))<|cn (fun _ g=>K' m' h' z)<|cn (fun _ g=>J' z z)<|cm0 z<|am' hb<|ad0 z<|sw0 z<|p'<|ar'<|b'<|sr<|mw0 z<|mw0 z<|mw0 z<|ad0 z<|mw0 z<|yw0 (K' h' m' z)<|oE hr fun x5 ad hr=>yw0 (aB' a' R' m z z ad)<|aI' (r:=(Rp.int .u32)) (e:=139) (cs':=[.int .u32 (u32.wrap (u64.wrap ((u64.wrap ((u64.wrap ((u64.wrap T)*(u64.wrap V)))+(u64.wrap U)))+k)))]) (i:=i64.wrap (f+l)) (z':=u32.wrap (u64.wrap ((u64.wrap ((u64.wrap ((u64.wrap T)*(u64.wrap V)))+(u64.wrap U)))+k))) 4016 z R' z m z z z z z ad fun ao ah=>nx<|w'<|mw0 z<|yw0 (bH' z z (by decide))<|sw0 z<|p'<|E'<|b'<|w'<|ad0 z<|mw0 z<|p'<|O' ⟨(B.set (i64.wrap (f+l)).toNat (u32.wrap (u64.wrap ((u64.wrap ((u64.wrap ((u64.wrap T)*(u64.wrap V)))+(u64.wrap U)))+k)))),ao,Int.fdiv (u64.wrap ((u64.wrap ((u64.wrap ((u64.wrap T)*(u64.wrap V)))+(u64.wrap U)))+k)) (2 ^ (min (32:Int).toNat u64.bits)),i64.wrap (l+1),F⟩ hr ⟨y,ah⟩ (f10 z z z z z z z z z z) (w1 z)
    refine Z'<|f'<|f'<|F'<|ab' ⟨B,q,k,F⟩ ⟨hr,y,m⟩ (fz0 z) (w1 z)
   rintro⟨H,C,v,I⟩ ⟨hr,P,M⟩
   refine b'<|w'<|mw0 z<|mw0 z<|mw0 z<|yw0 (D' a' (p.mono (mx h P)) z)<|ad0 z<|mw0 z<|yw0 (K' h' m' z)<|oE hr fun x2 aa hr=>yw0 (aB' a' R' M z z aa)<|aI' (r:=(Rp.int .u32)) (e:=139) (cs':=[.int .u32 (u32.wrap v)]) (i:=i64.wrap (f+(d.length:Int))) (z':=u32.wrap v) 4016 z R' z M z z z z z aa fun al aj=>p'<|E'<|b'<|w'<|ad0 z<|mw0 z<|p'<|O' ⟨(H.set (i64.wrap (f+(d.length:Int))).toNat (u32.wrap v)),al,i64.wrap (f+1),I⟩ hr ⟨(mx h P),aj⟩ (fz0 z) (w1 z)
  refine Z'<|f'<|f'<|F'<|ab' ⟨E,j,x⟩ ⟨hr,h,O⟩ (f1 z) (w1 z)
 rintro⟨K,D,Q⟩ ⟨hr,ar,W⟩
 refine b'<|sr<|mw0 z<|aY' (r:=(Rp.int .u32)) (e:=139) 4016 W z (by rw[ap]; rfl) (fun aC aB aw S au=>?_)
 refine oE hr fun aD ai hr=>y' z z (k' E100 z) (bp' ai) (by rw[bs' S]) ((bq' S)) (fun ay aE av R=>?_)
 obtain⟨aA,az,rfl,ae⟩:=R
 refine sx1 z<|q' ?_
 obtain rfl:_=r:=hr
 exact o' z z ⟨_,_,z,ae⟩
theorem el'{A t j f g e r}(hr:(ZdF A t).Ret r):Ctr prog 65 #[.agg ((v38' A j f)).toArray,.agg ((v38' t g e)).toArray] (fun G=>sl (Rp.int .u32) G j f A.mag/\sl (Rp.int .u32) G g e t.mag) (w38' r):=by
 refine B' (args:=[_,_]) (N:=16) func65 z z z (fun T R M y=>?_)
 obtain⟨o,p⟩:=y
 refine sr<|ah' 2 z z z fun U=>ah' 3 z z z fun Q=>P' 4 z z38 z fun V=>nx<|c'<|aj' [ff,ff,ff,ff,ff,ff,ff,ff,ff,ff] mix (by kernel_rfl) fun P=>cn (fun _ c=>aw' z)<|cn (fun _ c=>A' 2 sc4 z z z)<|cn (fun _ c=>aw' z)<|cn (fun _ c=>A' 3 sc4 z z z)<|cn (fun _ c=>dm' ba' z z)<|cn (fun _ c=>ai' z)<|cn (fun _ c=>A' 2 aE' z z z)<|cn (fun _ c=>ai' z)<|cn (fun _ c=>A' 3 aE' z z z)<|oE hr fun q B hr=>at' (post:=wl' (Rp.int .u32) q) (fun _=>z) (fun _ _=>k' E105 z) (ex' B) z (fun O c=>⟨(o.mono c),(p.mono c)⟩) (fun v W S c h=>?_) ?_
 .obtain⟨x,u,rfl,k⟩:=h
  exact⟨_,_,z,k.mono c⟩
 refine aF' (d:=14) (post:=wl' (Rp.int .u32) q) (fun H J F l=>?_)
 obtain⟨x,u,rfl,k⟩:=l
 refine oE hr fun K s hr=>y' z z (k' E97 z) (bg' s) z (k) (fun I L E n=>?_)
 obtain⟨D,C,rfl,m⟩:=n
 refine stB 4 aA' z<|p'<|ar'<|b'<|q' ?_
 obtain rfl:_=r:=hr
 exact o' z (af' (i:=4) W' z z z) ⟨_,_,z,m⟩
theorem bA'{H F E r}(hr:(ZaP H).Ret r):Ctr prog 90 #[sv0 F H E] (fun G=>sl aH' G F E H) (w38' r):=by
 refine B' (args:=[_]) (N:=25) func90 z z z (fun w0 W ak S=>?_)
 have C:=S
 refine sr<|P' 2 z z38 z fun K=>nr<|oE hr fun V T hr=>y' z z (k' E62 z) (cA' T) z (trivial) (fun af D n u=>?_)
 obtain⟨s,t,rfl,y⟩:=u
 refine P' 3 z z38 z fun M=>stB 3 aA' z<|nx<|c'<|sr<|mw0 z<|yw0 (D' cB' (C.mono n) z)<|mw0 z<|nx<|aa' (X:=Int×Zb×Option Addr×Nat×Mem) hr (fun ⟨j,m,d,c,k⟩=>⟨(j,m),[(2,pt0 K),(3,pt0 M),(7,sv0 F H E),(8,i' (H.length:Int)),(9,i' j)],Mem.le D k/\sl (Rp.int .u32) k d c m.mag,St w0 W k [(2,bk0 K ([.bool false,.slice none 0 0]) 38),(3,bk0 M (v38' m d c) 38)]⟩) (fun (⟨o,g,h,p⟩:Zb×Option Addr×Nat×Mem)=>⟨o,[(2,pt0 K),(3,pt0 M)],Mem.le D p/\sl (Rp.int .u32) p g h o.mag,St w0 W p [(2,bk0 K ([.bool false,.slice none 0 0]) 38),(3,bk0 M (v38' o g h) 38)]⟩) ⟨0,V,s,t,D⟩ z (fz0 z) ⟨mr,y⟩ (w2 z z) ?_ ?_
 .rintro _ ⟨j,m,d,c,k⟩ ⟨f,e⟩ hr
  refine sr<|ls0 z<|nx<|c'<|I' hr z (fun ad hr=>?_) (fun ad hr=>?_)
  .refine t'<|b'<|c'<|U'<|sr<|oE hr fun x1 O hr=>yw0 (Q' cB' aA' (C.mono (mx n f)) z z O) ?_
   obtain⟨I,J,ab,l⟩:=ZfR (M' (ad' C O) (mx n f))
   refine yw0 (aP' _ W' z z ab)<|P' 5 z z38 z fun b3=>stB 5 aA' z<|nx<|U'<|sr<|yw0 (C' 5 W' z z z)<|oE hr fun ai P hr=>T' z z (k' E125 z) (bP' P) z (l)<|sx1 z<|aX' hr z (fun Z hr=>?_) (fun Z hr=>?_)
   .refine t'<|E'<|E'<|b'<|w'<|ad0 z<|mw0 z<|p'<|O' ⟨i64.wrap (j+1),m,d,c,k⟩ hr ⟨f,e⟩ (fz0 z) (w2 z z)
   refine sr<|yw0 (C' 3 W' z z z)<|oE hr fun aj R hr=>T' z z (k' E125 z) (bP' R) z (e)<|sx1 z<|aX' hr z (fun ac hr=>?_) (fun ac hr=>?_)
   .refine w'<|yw0 (C' 5 W' z z z)<|stB 3 aA' z<|p'<|E'<|E'<|b'<|w'<|ad0 z<|mw0 z<|p'<|O' ⟨i64.wrap (j+1),x1,I,J,k⟩ hr ⟨f,l⟩ (fz0 z) (w2 z z)
   refine w'<|yw0 (C' 3 W' z z z)<|yw0 (C' 5 W' z z z)<|oE hr fun U Q hr=>y' z z (k' E65 z) (el' Q) z (⟨e,l⟩) (fun ag Y L x=>?_)
   obtain⟨q,A,rfl,B⟩:=x
   refine stB 3 aA' z<|p'<|E'<|E'<|b'<|w'<|ad0 z<|mw0 z<|p'<|O' ⟨i64.wrap (j+1),U,q,A,Y⟩ hr ⟨(mx f L),B⟩ (fz0 z) (w2 z z)
  refine Z'<|f'<|f'<|F'<|ab' ⟨m,d,c,k⟩ ⟨hr,f,e⟩ (fz0 z) (w2 z z)
 rintro⟨o,g,h,p⟩ ⟨hr,ae,v⟩
 refine b'<|sr<|yw0 (C' 3 W' z z z)<|stB 2 aA' z<|nx<|q' ?_
 obtain rfl:_=r:=hr
 exact o' z (af' (i:=2) W' z z z) ⟨_,_,z,v⟩
theorem co'{m o j n h l r}(hr:(ZbJ m o).Ret r):Ctr prog 126 #[sv0 j m n,sv0 h o l] (fun G=>sl (Rp.int .u32) G j n m/\sl (Rp.int .u32) G h l o) (fun G v=>v=i' r):=by
 refine B' (args:=[_,_]) (N:=41) func126 z z z (fun D i J y=>?_)
 obtain⟨e,f⟩:=y
 refine sr<|sx1 z<|c'<|sr<|mw0 z<|yw0 (D' a' e z)<|mw0 z<|yw0 (D' a' f z)<|yw0 (bU' z z)<|nx<|I' hr z (fun F hr=>?_) (fun F hr=>?_)
 .refine c'<|sr<|mw0 z<|yw0 (D' a' e z)<|mw0 z<|yw0 (D' a' f z)<|ls0 z<|nx<|I' hr z (fun C hr=>?_) (fun C hr=>?_)
  .refine sr<|sx1 z<|q'<|j'<|j' (k0' hr z z)
  refine t'<|b'<|sr<|sx1 z<|q'<|j' (k0' hr z z)
 refine t'<|b'<|c'<|sr<|mw0 z<|yw0 (D' a' e z)<|yw0 (ap' z z)<|sx1 z<|aa' (X:=Int×Mem) hr (fun ⟨p,g⟩=>⟨p,[(0,sv0 j m n),(1,sv0 h o l),(5,i' p)],Mem.le i g,St D i g []⟩) (fun (I:Mem)=>match I with|k=>⟨(.inr ()),[],Mem.le i k,St D i k []⟩) ⟨i64.wrap ((m.length:Int)-1),i⟩ z (fz0 z) mr (wk ln) ?_ ?_
 .rintro _ ⟨p,g⟩ d hr
  refine c'<|sr<|mw0 z<|yw0 (bc' z z)<|nx<|I' hr z (fun E hr=>?_) (fun E hr=>?_)
  .refine t'<|b'<|c'<|U'<|c'<|aj' [ff,ff,ff,ff,ff,ff,ff,ff] mix (by kernel_rfl) fun x=>cm0 z<|cm0 z<|oE hr fun O u hr=>cn (fun _ c=>Q' a' R' ((e.mono d).mono c) z z u)<|cn (fun _ c=>ac' au' z (ak' (M' (M' (ad' e u) d) c)))<|cm0 z<|cm0 z<|oE hr fun M s hr=>cn (fun _ c=>Q' a' R' ((f.mono d).mono c) z z s)<|cn (fun _ c=>ac' au' z (ak' (M' (M' (ad' f s) d) c)))<|am' x<|yw0 (bU' z z)<|p'<|ar'<|b'<|I' hr z (fun B hr=>?_) (fun B hr=>?_)
   .refine c'<|c'<|aj' [ff,ff,ff,ff,ff,ff,ff,ff] mix (by kernel_rfl) fun x=>cm0 z<|cm0 z<|oE hr fun L q hr=>cn (fun _ c=>Q' a' R' ((e.mono d).mono c) z z q)<|cn (fun _ c=>ac' au' z (ak' (M' (M' (ad' e q) d) c)))<|cm0 z<|cm0 z<|oE hr fun K t hr=>cn (fun _ c=>Q' a' R' ((f.mono d).mono c) z z t)<|cn (fun _ c=>ac' au' z (ak' (M' (M' (ad' f t) d) c)))<|am' x<|ls0 z<|p'<|ar'<|b'<|I' hr z (fun A hr=>?_) (fun A hr=>?_)
    .refine sr<|sx1 z<|q'<|j'<|H'<|j'<|j'<|H'<|az'<|j' (k0' hr z z)
    refine t'<|b'<|sr<|sx1 z<|q'<|H'<|j'<|j'<|H'<|az'<|j' (k0' hr z z)
   refine t'<|E'<|b'<|w'<|mw0 z<|yw0 (ap' z z)<|sw0 z<|p'<|O' ⟨i64.wrap (p-1),g⟩ hr d (fz0 z) (wk ln)
  refine Z'<|f'<|f'<|F'<|ab' g ⟨hr,d⟩ fn (wk ln)
 rintro k ⟨hr,H⟩
 refine b'<|sr<|sx1 z<|q' (k0' hr z z)
theorem fg'{o k h f g e r}(hr:(ZhZ o k).Ret r):Ctr prog 136 #[.agg ((v38' o h f)).toArray,.agg ((v38' k g e)).toArray] (fun G=>sl (Rp.int .u32) G h f o.mag/\sl (Rp.int .u32) G g e k.mag) (fun G v=>v=i' r):=by
 refine B' (args:=[_,_]) (N:=29) func136 z z z (fun F E B n=>?_)
 obtain⟨c,d⟩:=n
 refine sr<|ah' 2 z z z fun H=>ah' 3 z z z fun D=>sx1 z<|c'<|aj' [ff,ff,ff] mix (by kernel_rfl) fun t=>cn (fun _ i=>C' 2 W' z z z)<|oE hr fun y p hr=>bR' z (fun _=>k' E106 z) (cd' p) z (fun C i=>(c.mono i))<|cn (fun _ i=>C' 3 W' z z z)<|am' t<|oE hr fun u j hr=>T' z z (k' E106 z) (cd' j) z (d)<|sw0 z<|sw0 z<|p'<|ar'<|b'<|c'<|sr<|mw0 z<|mw0 z<|yw0 (bU' z z)<|nx<|I' hr z (fun s hr=>?_) (fun s hr=>?_)
 .exact (show False from hr).elim
 refine t'<|b'<|c'<|sr<|mw0 z<|ls0 z<|nx<|I' hr z (fun q hr=>?_) (fun q hr=>?_)
 .refine sr<|yw0 (ai' z)<|yw0 (A' 3 aE' z z z)<|yw0 (ai' z)<|yw0 (A' 2 aE' z z z)<|oE hr fun A m hr=>T' z z (k' E126 z) (co' m) z (⟨d,c⟩)<|sx1 z<|q'<|j' (k0' hr z z)
 refine t'<|b'<|sr<|yw0 (ai' z)<|yw0 (A' 2 aE' z z z)<|yw0 (ai' z)<|yw0 (A' 3 aE' z z z)<|oE hr fun x l hr=>T' z z (k' E126 z) (co' l) z (⟨c,d⟩)<|sx1 z<|q' (k0' hr z z)
theorem dY'{q p m l j i n k c g r}(hr:(Zb2 q p).Ret r):Ctr prog 113 #[.agg ((v40' q m l j i)).toArray,.agg ((v40' p n k c g)).toArray] (fun G=>sl (Rp.int .u32) G m l q.num.mag/\sl (Rp.int .u32) G j i q.den.mag/\sl (Rp.int .u32) G n k p.num.mag/\sl (Rp.int .u32) G c g p.den.mag) (fun G v=>v=i' r):=by
 refine B' (args:=[_,_]) (N:=30) func113 z z z (fun w0 G0 aq Y=>?_)
 obtain⟨A,t,x,y⟩:=Y
 refine sr<|ah' 2 z z z fun b2=>ah' 3 z z z fun b3=>sx1 z<|c'<|c'<|aj' [ff,ff,ff] mix (by kernel_rfl) fun hb=>cn (fun _ o=>C' 2 aN' z z z)<|oE hr fun am Z hr=>bR' z (fun _=>k' E66 z) (bK' Z) z (fun L o=>⟨(A.mono o),(t.mono o)⟩)<|cn (fun _ o=>C' 3 aN' z z z)<|am' hb<|oE hr fun al S hr=>T' z z (k' E66 z) (bK' S) z (⟨x,y⟩)<|sw0 z<|sw0 z<|p'<|ar'<|b'<|sr<|mw0 z<|mw0 z<|yw0 (bU' z z)<|nx<|I' hr z (fun ad hr=>?_) (fun ad hr=>?_)
 .refine c'<|sr<|mw0 z<|mw0 z<|ls0 z<|nx<|I' hr z (fun ae hr=>?_) (fun ae hr=>?_)
  .refine sr<|sx1 z<|q'<|j'<|j' (k0' hr z z)
  refine t'<|b'<|sr<|sx1 z<|q'<|j' (k0' hr z z)
 refine t'<|b'<|c'<|aj' [ff,ff,ff,ff,ff,ff,ff,ff,ff,ff,ff] mix (by kernel_rfl) fun hb=>cn (fun _ o=>aT' z)<|cn (fun _ o=>ag' ((v38' q.num m l)).toArray 2 W' z z z (aq' ([]) ((v38' q.num m l)) ((v38' q.den j i))))<|cn (fun _ o=>aM' z)<|cn (fun _ o=>ag' ((v38' p.den c g)).toArray 3 W' z z z (aq' ((v38' p.num n k)) ((v38' p.den c g)) ([])))<|bD' (r:=aH') (e:=38) ([q.num,p.den]:List Zb) (fun _=>z) z (by decide) (fun u L o X=>?_) ?_
 .exact⟨#[(0,.agg ((v38' q.num m l)).toArray),(1,.agg ((v38' p.den c g)).toArray)],(v38' q.num m l)++((v38' p.den c g)++([])),z,z,fun _=>by kernel_rfl,⟨(v38' q.num m l),(v38' p.den c g)++([]),z,⟨[.bool q.num.neg],[sv0 m q.num.mag l],z,z,⟨_,z,(A.mono o)⟩⟩,⟨(v38' p.den c g),[],z,⟨[.bool p.den.neg],[sv0 c p.den.mag g],z,z,⟨_,z,(y.mono o)⟩⟩,z⟩⟩⟩
 refine oE hr fun P U hr=>bd' (f:=90) (φ:=w38' P) (fun _=>z) (fun v G1 G2 o h=>?_) (fun u L o X=>?_) ?_
 .obtain⟨E,K,rfl,s⟩:=h
  exact⟨_,_,z,s.mono o⟩
 .obtain⟨⟨C,B,O,R⟩,_⟩:=(show (fun G v=>∃ C B,v = .slice C 2 2/\SlRd aH' G (.slice C 2 2) B [q.num,p.den]) L.m (u 21)/\True from X)
  exact⟨_,_,_,fun _=>k' E90 z,bA' U,(by simp only[O] <;> rfl),R⟩
 refine cu (fun _ _ o=>aT' z)<|cu (fun _ _ o=>ag' ((v38' p.num n k)).toArray 3 W' z z z (aq' ([]) ((v38' p.num n k)) ((v38' p.den c g))))<|cu (fun _ _ o=>aM' z)<|cu (fun _ _ o=>ag' ((v38' q.den j i)).toArray 2 W' z z z (aq' ((v38' q.num m l)) ((v38' q.den j i)) ([])))<|bD' (r:=aH') (e:=38) ([p.num,q.den]:List Zb) (fun _=>z) z (by decide) (fun u L o X=>?_) ?_
 .exact⟨#[(0,.agg ((v38' p.num n k)).toArray),(1,.agg ((v38' q.den j i)).toArray)],(v38' p.num n k)++((v38' q.den j i)++([])),z,z,fun _=>by kernel_rfl,⟨(v38' p.num n k),(v38' q.den j i)++([]),z,⟨[.bool p.num.neg],[sv0 n p.num.mag k],z,z,⟨_,z,(x.mono o)⟩⟩,⟨(v38' q.den j i),[],z,⟨[.bool q.den.neg],[sv0 j q.den.mag i],z,z,⟨_,z,(t.mono o)⟩⟩,z⟩⟩⟩
 refine Chain.tailU3 (d:=27) (post:=fun G v=>∃ T Q,v = .slice T 2 2/\SlRd aH' G (.slice T 2 2) Q [p.num,q.den]) (d':=22) (post':=w38' P) (d'':=21) (post'':=fun G v=>∃ C B,v = .slice C 2 2/\SlRd aH' G (.slice C 2 2) B [q.num,p.den]) (fun aj ai ak ao ag D I H=>?_)
 obtain⟨T,Q,rfl,af⟩:=D
 obtain⟨E,K,rfl,s⟩:=I
 obtain⟨C,B,rfl,R⟩:=H
 refine oE hr fun an V hr=>y' z z (k' E90 z) (bA' V) z (af) (fun ah ap M J=>?_)
 obtain⟨aa,ab,rfl,F⟩:=J
 refine oE hr fun ar W hr=>T' z z (k' E136 z) (fg' W) z (⟨(s.mono M),F⟩)<|sw0 z<|p'<|ar'<|b'<|q' (k0' hr z z)
theorem er'{l k e i c d g j h f r}(hr:(Zba l k).Ret r):Ctr prog 112 #[.agg (((v40' l.c e i c d):List Value)++(vi8 l.m)).toArray,.agg (((v40' k.c g j h f):List Value)++(vi8 k.m)).toArray] (fun G=>sl (Rp.int .u32) G e i l.c.num.mag/\sl (Rp.int .u32) G c d l.c.den.mag/\sl (Rp.int .u32) G g j k.c.num.mag/\sl (Rp.int .u32) G h f k.c.den.mag) (fun G v=>v=i' r):=by
 refine B' (args:=[_,_]) (N:=20) func112 z z z (fun D C A s=>?_)
 obtain⟨p,o,m,n⟩:=s
 refine sr<|ah' 2 z z z fun B=>ah' 3 z z z fun E=>sx1 z<|c'<|sr<|yw0 (bb' z)<|yw0 (ag' (vi8 l.m).toArray 2 bt' z z (an' _ _ _) (aq' ((v40' l.c e i c d)) (vi8 l.m) ([])))<|yw0 (bb' z)<|yw0 (ag' (vi8 k.m).toArray 3 bt' z z (an' _ _ _) (aq' ((v40' k.c g j h f)) (vi8 k.m) ([])))<|yw0 (Y0.neqV av' aC' sc3 sz3 eg77 z z)<|nx<|I' hr z (fun u hr=>?_) (fun u hr=>?_)
 .refine sr<|yw0 (bb' z)<|yw0 (ag' (vi8 l.m).toArray 2 bt' z z (an' _ _ _) (aq' ((v40' l.c e i c d)) (vi8 l.m) ([])))<|yw0 (bb' z)<|yw0 (ag' (vi8 k.m).toArray 3 bt' z z (an' _ _ _) (aq' ((v40' k.c g j h f)) (vi8 k.m) ([])))<|oE hr fun y t hr=>T' z z (k' E95 z) (dk' t) z (trivial)<|sx1 z<|q'<|j' (k0' hr z z)
 refine t'<|b'<|sr<|yw0 (bu' z)<|yw0 (ag' ((v40' l.c e i c d)).toArray 2 aN' z z z (aq' ([]) ((v40' l.c e i c d)) ((vi8 l.m))))<|yw0 (bu' z)<|yw0 (ag' ((v40' k.c g j h f)).toArray 3 aN' z z z (aq' ([]) ((v40' k.c g j h f)) ((vi8 k.m))))<|oE hr fun x q hr=>T' z z (k' E113 z) (dY' q) z (⟨p,o,m,n⟩)<|sx1 z<|q' (k0' hr z z)
theorem bx'{l F m o y A r}(hr:(Zr l F).Ret r):Ctr prog 111 #[sv0 m l o,sv0 y F A,.func (.func 112) #[] #[]] (fun G=>sl g' G m o l/\sl g' G y A F) (fun G v=>v=i' r):=by
 refine B' (args:=[_,_,_]) (N:=39) func111 z z z (fun U J ab P=>?_)
 obtain⟨C,B⟩:=P
 refine sr<|sx1 z<|c'<|sr<|mw0 z<|yw0 (D' N' C z)<|mw0 z<|nx<|aa' (X:=Int×Mem) hr (fun ⟨t,D⟩=>⟨t,[(0,sv0 m l o),(1,sv0 y F A),(2,.func (.func 112) #[] #[]),(11,sv0 m l o),(12,i' (l.length:Int)),(13,i' t)],Mem.le J D,St U J D []⟩) (fun (Z:Mem)=>match Z with|L=>⟨(.inr ()),[(0,sv0 m l o),(1,sv0 y F A)],Mem.le J L,St U J L []⟩) ⟨0,J⟩ z (fz0 z) mr (wk ln) ?_ ?_
 .rintro _ ⟨t,D⟩ k hr
  refine sr<|ls0 z<|nx<|c'<|I' hr z (fun T hr=>?_) (fun T hr=>?_)
  .refine t'<|b'<|c'<|U'<|sr<|mw0 z<|oE hr fun H O hr=>yw0 (Q' N' by' (C.mono k) z z O) ?_
   obtain⟨g,j,i,e,V,p,q⟩:=bB' (M' (ad' C O) k)
   refine yw0 (aP' _ ag91 z z V)<|P' 8 z z91 z fun b1=>sw0 z<|x' 8 z by' z z z z z (fun u K=>Rp.one g' (G:=D) (x:=H) (cs:=((v40' H.c g j i e):List Value)++(vi8 H.m)) ⟨(v40' H.c g j i e),vi8 H.m,z,⟨(v38' H.c.num g j),(v38' H.c.den i e),z,⟨[.bool H.c.num.neg],[sv0 g H.c.num.mag j],z,z,⟨_,z,p⟩⟩,⟨[.bool H.c.den.neg],[sv0 i H.c.den.mag e],z,z,⟨_,z,q⟩⟩⟩,z⟩ u (by first|simpa using K|simpa [Value.cells] using K))<|nx<|c'<|sr<|mw0 z<|mw0 z<|yw0 (D' N' (B.mono k) z)<|yw0 (bc' z z)<|nx<|I' hr z (fun W hr=>?_) (fun W hr=>?_)
   .refine sr<|sx1 z<|q'<|j'<|H'<|j'<|j'<|H'<|az'<|j' (k0' hr z z)
   refine t'<|b'<|sr<|mw0 z<|mw0 z<|oE hr fun E M hr=>yw0 (Q' N' by' (B.mono k) z z M) ?_
   obtain⟨f,c,h,d,R,s,n⟩:=bB' (M' (ad' B M) k)
   refine yw0 (aP' _ ag91 z z R)<|P' 9 z z91 z fun b2=>x' 9 z by' z z z z z (fun u K=>Rp.one g' (G:=D) (x:=E) (cs:=((v40' E.c f c h d):List Value)++(vi8 E.m)) ⟨(v40' E.c f c h d),vi8 E.m,z,⟨(v38' E.c.num f c),(v38' E.c.den h d),z,⟨[.bool E.c.num.neg],[sv0 f E.c.num.mag c],z,z,⟨_,z,s⟩⟩,⟨[.bool E.c.den.neg],[sv0 h E.c.den.mag d],z,z,⟨_,z,n⟩⟩⟩,z⟩ u (by first|simpa using K|simpa [Value.cells] using K))<|nr<|mw0 z<|yw0 (C' 8 ag91 z z z)<|yw0 (C' 9 ag91 z z z)<|oE hr fun aa Q hr=>T' z z (YC.ofV E112 z z) (er' Q) z (⟨p,q,s,n⟩)<|sw0 z<|nr<|mw0 z<|yw0 (bU' z z)<|nx<|I' hr z (fun S hr=>?_) (fun S hr=>?_)
   .refine sr<|mw0 z<|sx1 z<|q'<|H'<|j'<|j'<|H'<|az'<|j' (k0' hr z z)
   refine t'<|E'<|b'<|w'<|ad0 z<|mw0 z<|p'<|O' ⟨i64.wrap (t+1),D⟩ hr k (fz0 z) (wk ln)
  refine Z'<|f'<|f'<|F'<|ab' D ⟨hr,k⟩ (fz0 z) (wk ln)
 rintro L ⟨hr,I⟩
 refine b'<|c'<|sr<|mw0 z<|yw0 (D' N' (C.mono I) z)<|mw0 z<|yw0 (D' N' (B.mono I) z)<|ls0 z<|nx<|I' hr z (fun Y hr=>?_) (fun Y hr=>?_)
 .refine sr<|sx1 z<|q'<|j' (k0' hr z z)
 refine t'<|b'<|sr<|sx1 z<|q' (k0' hr z z)
theorem Zek(g:(List Za))(i:(List Za))(e:Option Addr)(d:Nat)(c:Option Addr)(f:Nat)(r:Int)(hr:(Zdw g i).Ret r):Ctr prog 74 #[sv0 e g d,sv0 c i f] (fun G=>sl g' G e d g/\sl g' G c f i) (fun G v=>v=i' r):=by
 refine B' (args:=[_,_]) (N:=8) func74 z z z (fun o p n j=>?_)
 obtain⟨l,k⟩:=j
 refine sr<|sw0 z<|nr<|mw0 z<|mw0 z<|oE hr fun m h hr=>T' z z (k' E111 z) (bx' h) z (⟨l,k⟩)<|sx1 z<|q' (k0' hr z z)
theorem ZaT(l:List (List Za))(a b lim:Int)(p:Option Addr)(c n:Nat)(tk:Option Ow)(r:List (List Za))(hr:(Z8 l a b lim).Ret r):CtrL prog 134 #[.slice p n c,.int .i64 a,.int .i64 b,.int .i64 lim,.func (.func 74) #[] #[]] [(5000,tk)] (fun G=>RowR (Rp.sl Zk) 54 G (.slice p n c) l tk) (fun G L v=>∃ zk0,L=[(5000,zk0)]/\v = .tuple #[]/\RowR (Rp.sl Zk) 54 G (.slice p n c) r zk0):=by
 obtain⟨⟨rfl,rfl,⟨h0,h1⟩,h2,h3⟩,hr⟩:=hr
 replace hr:_=r:=hr
 subst hr
 obtain⟨k,rfl⟩:∃ k:Nat,lim=k:=⟨lim.toNat,by omega⟩
 obtain⟨l',rfl⟩:∃ l':List GoodQ,l'.map Subtype.val=l:=⟨l.attach.map fun q=>⟨q.1,List.all_eq_true.1 h3 _ q.2⟩,by rw[List.map_map]; exact List.attach_map_subtype_val l⟩
 have hlen:l'.length=(l'.map Subtype.val).length:=by rw[List.length_map]
 have hg:∀ (x y:GoodQ) (u v:Value),Ctr prog 74 #[u,v] (fun G=>((Rp.sl Zk).via (Subtype.val:GoodQ->_)).rep G [u] x/\((Rp.sl Zk).via (Subtype.val:GoodQ->_)).rep G [v] y) (fun _ v=>v = .int .i64 (cmpP x.1 y.1)):=fun x y u v w G hi hp=>by
  obtain⟨⟨u',e1,h1⟩,⟨v',e2,h2⟩⟩:=hp
  cases e1
  cases e2
  obtain⟨p1,c1,rfl⟩:=h1.form
  obtain⟨p2,c2,rfl⟩:=h2.form
  exact Zek _ _ _ _ _ _ _ (Zkj x.2 y.2) w G hi ⟨h1,h2⟩
 have H:=pdqQ (r:=(Rp.sl Zk).via (Subtype.val:GoodQ->_)) rfl swoP Tryz.sortQ rfl hg E74 54 p n c l' tk k (by omega) (by omega)
 rw[hlen] at H
 refine H.mono (fun G h=>RowR.via.2 h) (fun G L v h=>?_)
 obtain⟨ys,tk',q1,q2,q3,q4,q5⟩:=h
 refine⟨tk',q1,q2,?_⟩
 have e:ordP (l'.map Subtype.val)=ys.map Subtype.val:=by
  refine Zh6 ((Zbm _).trans (q4.map Subtype.val).symm) (fun p hp=>List.all_eq_true.1 h3 _ ((Zbm _).mem_iff.1 hp)) (Zfj _) ?_
  rw[List.pairwise_map]
  refine q5.imp (fun {a b} h=>?_)
  simp only[Go.Proofs.ltOf,decide_eq_false_iff_not,Int.not_lt] at h
  have:=Zaz a.1 b.1
  omega
 rw[e]
 exact RowR.via.1 q3
theorem eg'{l k e i c d g j h f r}(hr:(ZaY l k).Ret r):Ctr prog 115 #[.agg (((v40' l.c e i c d):List Value)++(vi8 l.m)).toArray,.agg (((v40' k.c g j h f):List Value)++(vi8 k.m)).toArray] (fun G=>sl (Rp.int .u32) G e i l.c.num.mag/\sl (Rp.int .u32) G c d l.c.den.mag/\sl (Rp.int .u32) G g j k.c.num.mag/\sl (Rp.int .u32) G h f k.c.den.mag) (fun G v=>v = .bool r):=by
 refine B' (args:=[_,_]) (N:=18) func115 z z z (fun B A x q=>?_)
 obtain⟨p,o,m,n⟩:=q
 refine sr<|ah' 2 z z z fun y=>ah' 3 z z z fun C=>sw0 z<|nr<|yw0 (bb' z)<|yw0 (ag' (vi8 l.m).toArray 2 bt' z z (an' _ _ _) (aq' ((v40' l.c e i c d)) (vi8 l.m) ([])))<|yw0 (bb' z)<|yw0 (ag' (vi8 k.m).toArray 3 bt' z z (an' _ _ _) (aq' ((v40' k.c g j h f)) (vi8 k.m) ([])))<|aQ' hr z (Y0.eqlV av' aC' sc3 sz3 eg77 z z) z (fun t hr=>?_) (fun t hr=>?_)
 .refine mw0 z<|gy z z (bu' z) z<|gy z z (ag' ((v40' l.c e i c d)).toArray 2 aN' z z z (aq' ([]) ((v40' l.c e i c d)) ((vi8 l.m)))) z<|gy z z (bu' z) z<|gy z z (ag' ((v40' k.c g j h f)).toArray 3 aN' z z z (aq' ([]) ((v40' k.c g j h f)) ((vi8 k.m)))) z<|oE hr fun u s hr=>T' (as' z z) z (k' E113 z) (dY' s) z (⟨p,o,m,n⟩)<|gy z z (aK' z z) z<|pt00 z<|sx1 z<|q' (k0' hr z z)
 refine mw0 z<|sn6 z<|pf00 z<|sx1 z<|q' (k0' hr z z)
theorem bz'{s H B C D E r}(hr:(Zs s H).Ret r):Ctr prog 114 #[sv0 B s C,sv0 D H E,.func (.func 115) #[] #[]] (fun G=>sl g' G B C s/\sl g' G D E H) (fun G v=>v = .bool r):=by
 refine B' (args:=[_,_,_]) (N:=32) func114 z z z (fun S I aa O=>?_)
 obtain⟨q,F⟩:=O
 refine sr<|sx1 z<|c'<|sr<|mw0 z<|yw0 (D' N' q z)<|mw0 z<|yw0 (D' N' F z)<|yw0 (bU' z z)<|nx<|I' hr z (fun V hr=>?_) (fun V hr=>?_)
 .refine sr<|sx1 z<|q'<|j' (k0' hr z z)
 refine t'<|b'<|c'<|sr<|mw0 z<|yw0 (D' N' q z)<|mw0 z<|nx<|aa' (X:=Int×Mem) hr (fun ⟨p,t⟩=>⟨p,[(1,sv0 D H E),(2,.func (.func 115) #[] #[]),(15,sv0 B s C),(16,i' (s.length:Int)),(17,i' p)],Mem.le I t,St S I t []⟩) (fun (Y:Mem)=>match Y with|K=>⟨(.inr ()),[],Mem.le I K,St S I K []⟩) ⟨0,I⟩ z (fz0 z) mr (wk ln) ?_ ?_
 .rintro _ ⟨p,t⟩ k hr
  refine sr<|ls0 z<|nx<|c'<|I' hr z (fun R hr=>?_) (fun R hr=>?_)
  .refine t'<|b'<|c'<|U'<|sr<|mw0 z<|oE hr fun A M hr=>yw0 (Q' N' by' (q.mono k) z z M) ?_
   obtain⟨g,j,i,e,T,m,n⟩:=bB' (M' (ad' q M) k)
   refine yw0 (aP' _ ag91 z z T)<|P' 8 z z91 z fun b1=>sw0 z<|x' 8 z by' z z z z z (fun u J=>Rp.one g' (G:=t) (x:=A) (cs:=((v40' A.c g j i e):List Value)++(vi8 A.m)) ⟨(v40' A.c g j i e),vi8 A.m,z,⟨(v38' A.c.num g j),(v38' A.c.den i e),z,⟨[.bool A.c.num.neg],[sv0 g A.c.num.mag j],z,z,⟨_,z,m⟩⟩,⟨[.bool A.c.den.neg],[sv0 i A.c.den.mag e],z,z,⟨_,z,n⟩⟩⟩,z⟩ u (by first|simpa using J|simpa [Value.cells] using J))<|nr<|mw0 z<|mw0 z<|oE hr fun y L hr=>yw0 (Q' N' by' (F.mono k) z z L) ?_
   obtain⟨f,c,h,d,Q,o,l⟩:=bB' (M' (ad' F L) k)
   refine yw0 (aP' _ ag91 z z Q)<|P' 9 z z91 z fun b2=>x' 9 z by' z z z z z (fun u J=>Rp.one g' (G:=t) (x:=y) (cs:=((v40' y.c f c h d):List Value)++(vi8 y.m)) ⟨(v40' y.c f c h d),vi8 y.m,z,⟨(v38' y.c.num f c),(v38' y.c.den h d),z,⟨[.bool y.c.num.neg],[sv0 f y.c.num.mag c],z,z,⟨_,z,o⟩⟩,⟨[.bool y.c.den.neg],[sv0 h y.c.den.mag d],z,z,⟨_,z,l⟩⟩⟩,z⟩ u (by first|simpa using J|simpa [Value.cells] using J))<|nr<|mw0 z<|yw0 (C' 8 ag91 z z z)<|yw0 (C' 9 ag91 z z z)<|oE hr fun Z P hr=>T' z z (YC.ofV E115 z z) (eg' P) z (⟨m,n,o,l⟩)<|yw0 (bf' z)<|nx<|aX' hr z (fun U hr=>?_) (fun U hr=>?_)
   .refine sr<|sx1 z<|q'<|H'<|j'<|j'<|H'<|az'<|j' (k0' hr z z)
   refine t'<|E'<|b'<|w'<|ad0 z<|mw0 z<|p'<|O' ⟨i64.wrap (p+1),t⟩ hr k (fz0 z) (wk ln)
  refine Z'<|f'<|f'<|F'<|ab' t ⟨hr,k⟩ fn (wk ln)
 rintro K ⟨hr,W⟩
 refine b'<|sr<|sx1 z<|q' (k0' hr z z)
theorem Zcf(g:(List Za))(i:(List Za))(e:Option Addr)(d:Nat)(c:Option Addr)(f:Nat)(r:Bool)(hr:(Zc7 g i).Ret r):Ctr prog 76 #[sv0 e g d,sv0 c i f] (fun G=>sl g' G e d g/\sl g' G c f i) (fun G v=>v = .bool r):=by
 refine B' (args:=[_,_]) (N:=8) func76 z z z (fun o p n j=>?_)
 obtain⟨l,k⟩:=j
 refine sr<|sw0 z<|nr<|mw0 z<|mw0 z<|oE hr fun m h hr=>T' z z (k' E114 z) (bz' h) z (⟨l,k⟩)<|sx1 z<|q' (k0' hr z z)
theorem ey'{n r}(hr:(ZeZ n).Ret r):Ctr prog 157 #[.int .u64 n] (fun G=>True) (fun G v=>v=i' r):=by
 refine B' (args:=[_]) (N:=25) func157 z z z fun m f B A=>sr<|sx1 z<|aD' hr (fun (⟨i,j,d⟩:Int×Int×Mem)=>⟨[(0,.int .u64 i),(2,i' j)],ZdS i j,Mem.le f d,St m f d []⟩) ?_ ?_
 .refine sr<|mw0 z<|yw0 (bc' z z)<|nx<|I' hr z (fun q hr=>?_) (fun q hr=>?_)
  .exact (show False from hr).elim
  refine t'<|ao' ⟨n,0,f⟩ ⟨hr,mr⟩ (fz0 z) (wk ln)
 rintro⟨i,j,d⟩ ⟨hr,u⟩
 refine aD' hr (fun (⟨g,h,c⟩:Int×Int×Mem)=>⟨[(0,.int .u64 g),(2,i' h)],ZdR g h,Mem.le d c,St m f c []⟩) ?_ ?_
 .refine sr<|mw0 z<|yw0 (bc' z z)<|nx<|I' hr z (fun p hr=>?_) (fun p hr=>?_)
  .exact (show False from hr).elim
  refine t'<|ao' ⟨i,j,d⟩ ⟨hr,mr⟩ (fz0 z) (wk ln)
 rintro⟨g,h,c⟩ ⟨hr,y⟩
 refine aD' hr (fun (⟨k,l,e⟩:Int×Int×Mem)=>⟨[(0,.int .u64 k),(2,i' l)],ZdQ k l,Mem.le c e,St m f e []⟩) ?_ ?_
 .refine sr<|mw0 z<|yw0 (bc' z z)<|nx<|I' hr z (fun t hr=>?_) (fun t hr=>?_)
  .exact (show False from hr).elim
  refine t'<|ao' ⟨g,h,c⟩ ⟨hr,mr⟩ (fz0 z) (wk ln)
 rintro⟨k,l,e⟩ ⟨hr,x⟩
 refine sr<|mw0 z<|mw0 z<|yw0 (K' h' aJ' z) ?_
 obtain⟨o,hr⟩:=hr
 refine yw0 (Y0.indexS (s:=ZF) cf' z z o)<|yw0 (K' aJ' aC' z)<|ad0 z<|sx1 z<|q' (k0' hr z z)
theorem dR'{d r}(hr:(Zak d).Ret r):Ctr prog 135 #[.int .u64 d] (fun G=>True) (fun G v=>v=i' r):=by
 refine B' (args:=[_]) (N:=8) func135 z z z fun h i g e=>sr<|sx1 z<|c'<|bJ' z<|t'<|b'<|sr<|mw0 z<|oE hr fun f c hr=>T' z z (k' E157 z) (ey' c) z (trivial)<|sx1 z<|q' (k0' hr z z)
theorem ZaE(t:(List (List Za)))(f:Option Addr)(e:Nat)(j:Nat)(h:Option Ow)(r:(List (List Za)))(hr:(Z0 t).Ret r):CtrL prog 109 #[.slice f j e,.func (.func 74) #[] #[]] [(5000,h)] (fun G=>RowR (Rp.sl g') 54 G (.slice f j e) t h) (fun G L v=>∃ k,L=[(5000,k)]/\v = .tuple #[]/\RowR (Rp.sl g') 54 G (.slice f j e) r k):=by
 refine bl' (args:=[_,_]) (N:=14) func109 z z z (fun q A u m=>?_)
 have d:=m
 have hz:q.L.zero:=by
  rw[u]; intro p o x B
  simp only[List.mem_cons,List.not_mem_nil,or_false] at o
  subst o; exact cC' d B
 refine sr<|mw0 z<|yw0 (Y0.lenRow al' d z)<|sx1 z<|w'<|mw0 z<|mw0 z<|mw0 z<|yw0 (K' aC' underlying168 z)<|oE hr fun F n hr=>T' z z (k' E135 z) (dR' n) z (trivial)<|mw0 z<|oE hr fun E l hr=>bo' z z (k' E134 z) (ZaT _ _ _ _ _ _ _ _ _ l) z (d) (lc z ln) hz (fun D s C y c=>?_)
 obtain⟨i,rfl,rfl,g⟩:=c
 refine p'<|WE.retN ?_
 obtain rfl:_=r:=hr
 refine bh' (S':=St q A s [(5000,i)]) (w1 z)<|WE.ret0 z  ⟨_,z,z,g⟩
abbrev RP:Rp (List Za):=Rp.sl Zk
theorem ZnG(l:List (List Za))(p:Option Addr)(n c:Nat):Ctr prog 73 #[.slice p n c] (fun G=>SlR RP G (.slice p n c) l) (fun G v=>∃ b,v = .func (.func 110) #[] #[.pointer (some ⟨b,0,none⟩)]/\G b 0=some (.slice p n c)/\SlR RP G (.slice p n c) l):=by
 refine Ctr.enter (args:=[_]) (N:=4) func73 rfl rfl rfl (fun w0 G0 hL0 hsl=>?_)
 refine sr<|WL.boxF 1 rfl Ze rfl rfl (fun b=>?_)
 refine sg rfl rfl<|WL.nil<|WE.then ?_
 refine WC.knowBox 1 rfl (by rw[hL0]; rfl) (fun G1 hle hk _=>?_)
 refine sr<|yy (Y0.makeFunc rfl rfl) rfl<|sg rfl rfl<|nx<|WC.ret ?_
 exact WE.ret1 rfl rfl ⟨_,rfl,hk 0 _ rfl,hsl.mono hle⟩
def EP(l:List (List Za))(j:Nat)(u:Value)(G:Mem):Prop:=∃ x,l[j]? = some x/\∃ p c,u = .slice p x.length c/\SlR Zk G u x
theorem ZmO(b:Nat)(l:List (List Za))(p:Option Addr)(n c:Nat):IterOk prog 110 #[.pointer (some ⟨b,0,none⟩)] l.length (EP l) (fun G=>G b 0=some (.slice p n c)/\SlR RP G (.slice p n c) l):=by
 intro σ yl I Lc pre hlow hmono hY s0 hI0 hz
 refine CtrL.enter (args:=[_,_]) (N:=16) func110 rfl rfl rfl (fun w0 G0 hL0 hp=>?_)
 obtain⟨⟨hb,hsl⟩,hpre⟩:=hp
 have hz0:w0.L.zero:=by rw[hL0]; exact hz
 have hlen:l.length<=9223372036854775807:=by obtain⟨_,_,_,_,h,_⟩:=hsl; omega
 rw[hsl.eqv] at hb
 have hsl:=hsl.std
 refine sr<|yy (Y0.loadG sc44 rfl hb) rfl<|yy (Y0.lenC underlying44 rfl) rfl<|mv rfl rfl<|nx<|WC.block ?_
 refine WC.loopH (X:=Nat×σ×Mem) (fun gx=>match gx with|⟨k,_,_⟩=>[(0,.func (.yield yl) #[] #[]),(5,.slice p l.length c),(6,.int .i64 (l.length:Int)),(7,.int .i64 (k:Int))])
  (fun gx=>match gx with|⟨k,s,G⟩=>k<=l.length/\Mem.le G0 G/\I k s/\pre s G)
  (fun gx=>match gx with|⟨_,s,G⟩=>St w0 G0 G (Lc s)) (fun gx=>l.length-gx.1) ⟨0,s0,G0⟩ (fc rfl (fc rfl (fc rfl (fc rfl fn)))) ⟨Nat.zero_le _,Mem.le_refl _,hI0,hpre⟩ (fun w hs=>hs) ?_
 rintro⟨k,s,G⟩ ⟨hk,hle,hI,hp⟩
 refine sr<|yy (Y0.lss rfl rfl) rfl<|nx<|WC.seq ?_
 refine WC.condD (p:=(k:Int)<(l.length:Int)) rfl (fun hc=>?_) (fun hc=>?_)
 .have hkl:k<l.length:=by omega
  have hx:(0:Int)<=(k:Int)/\l[(k:Int).toNat]? = some l[k]:=⟨by omega,by simp[hkl]⟩
  obtain⟨q,qc,qe,qh⟩:=AtK.sl (SlR.at hsl hx)
  have hw:i64.wrap ((k:Int)+1)=((k+1:Nat):Int):=by rw[IntKind.wrap_i64]; omega
  refine WC.skip<|WE.then<|WC.seq<|WC.block<|sr<|yy (Y0.idxR underlying44 sz54 (hsl.mono hle) rfl rfl hx) rfl<|yy (Y0.loadG sc54 rfl (hle _ _ _ qe)) rfl<|sg rfl rfl<|nx<|WC.seq<|WC.regionI<|WLI.y0 Ze (Y0.move rfl) (fun c h=>by cases h) rfl<|WLI.y0 Ze (Y0.move rfl) (fun c h=>by cases h) rfl ?_
  refine WLI.callZ (R:=[]) Ze rfl rfl rfl (hY k _ s hkl hI) ⟨hp,l[k],by simp[hkl],q,qc,rfl,qh.mono hle⟩ hz0 (fun i hi=>by cases hi) (fun b G1 L1 hle1 hpost=>?_)
  obtain⟨rfl,s',hI',rfl,hp'⟩:=hpost
  refine WLI.y0 Ze (Y0.not rfl) (fun c h=>by cases h) rfl<|WLI.nil<|WE.then<|WC.condF rfl<|WC.skip ?_
  refine WE.inBlock<|WE.then<|WC.region<|yy (Y0.add rfl rfl) rfl ?_
  rw[hw]
  exact mv rfl rfl<|WL.nil<|WE.backH (x:=(k,s,G)) (k+1,s',G1) ⟨by omega,Mem.le_trans hle hle1,hI',hp'⟩ (fc rfl (fc rfl (fc rfl (fc rfl fn)))) (fun w hs=>hs) (by show l.length-(k+1)<l.length-k; omega)
 have:k=l.length:=by omega
 subst this
 refine WC.exit<|WE.thenExit<|WE.thenExit<|WE.exitHere<|WE.retN ?_
 exact WE.ret0 rfl ⟨rfl,s,hI,rfl,hp⟩
theorem ZnE(b:Nat)(l:List (List Za))(p:Option Addr)(n c:Nat)(hl:l.length<=1000000):CtrL prog 133 #[.slice none 0 0,.func (.func 110) #[] #[.pointer (some ⟨b,0,none⟩)]] [] (fun G=>G b 0=some (.slice p n c)/\SlR RP G (.slice p n c) l)
  (fun G L v=>∃ q qc tk,L=[(7000,tk)]/\v = .slice q l.length qc/\RowR RP 54 G v l tk):=by
 refine CtrL.enterM (args:=[_,_]) (N:=13) func133 rfl rfl rfl (fun w0 G0 hL0 hpre=>?_)
 refine sr<|WL.boxF 2 rfl Ze rfl rfl (fun b2=>?_)
 refine sg rfl rfl<|nx<|WC.seq<|sr<|mv rfl rfl<|nx ?_
 refine WC.rangeAll (t:=7) (f:=110) rfl E110 (fun ac d lp r ha hst hpe htm hps has hbo=>?_)
 let Lc:Nat×Option Addr×Nat×Option Ow->Lo:=fun s=>[(8001,some ⟨lp,.loop r,0⟩),(8002,some ⟨d,.deferred (some []),0⟩),(2,some ⟨b2,.cells #[.slice s.2.1 s.1 s.2.2.1] 44 (0,0),0⟩),(7000,s.2.2.2)]
 refine⟨_,Lc (0,none,0,none),_,lc rfl (lc rfl (lc rfl (lw ln))),fun i _=>by rw[hL0]; rfl,
  ZmO b l p n c lp (fun j s=>s.1=j/\j<=l.length) Lc (fun s G=>RowR RP 54 G (.slice s.2.1 s.1 s.2.2.1) (l.take s.1) s.2.2.2) (fun s i hi=>?_) (fun G G' s hle h=>h.mono hle) (fun j u s hj hI=>?_) _ ⟨rfl,Nat.zero_le _⟩ ?_,⟨hpre,RowR.nil⟩,fun G' L' v hle hpost=>?_⟩
 .simp only[Lc]
  rw[Lo.Zi,if_neg (by omega),Lo.Zi,if_neg (by omega),Lo.Zi,if_neg (by omega),Lo.Zi,if_neg (by omega)]; rfl
 .obtain⟨k,q,qc,tk⟩:=s
  obtain⟨rfl,hk⟩:=hI
  dsimp only at hj hk ⊢
  refine YCtr.Zlb (N:=13) rfl hst hpe hps (by rw[htm]; exact ha.round (by decide)) (fun w0' G hL' hG=>?_)
  obtain⟨hrow,x,hx,up,uc,rfl,hux⟩:=hG
  refine Zjm has ?_
  refine WCI.region Zh1 rfl (sg rfl rfl<|WL.nil (fun a1 v1 ha1 hs1=>⟨_,_,_,ha1,hs1,rfl,?_⟩))
  refine Zjm hbo ?_
  refine WCI.block<|WCI.region (Za2 Za3) rfl<|yy (Y0.loadL 2 sc44 rfl rfl rfl) rfl<|mv rfl rfl ?_
  refine WL.litR (e:=54) (r:=RP) (vs:=#[(0,.slice up x.length uc)]) (cs:=[.slice up x.length uc]) ([x]:List (List Za)) Ze rfl rfl rfl rfl (by decide) (fun _=>by kernel_rfl) ⟨[.slice up x.length uc],[],rfl,⟨_,rfl,hux⟩,rfl⟩ (key:=999) rfl (by rw[hL']; rfl) (fun p1 G1 hle1 h1=>?_)
  have htl:(l.take k).length=k:=by rw[List.length_take]; omega
  have htk:l.take k++[x]=l.take (k+1):=by
   obtain⟨hk2,rfl⟩:=List.getElem?_eq_some_iff.1 hx
   exact (List.take_succ_eq_append_getElem hk2).symm
  refine WL.appendT (r:=RP) (e:=54) (xs:=l.take k) (ys:=[x]) 7000 Ze rfl underlying44 el54 rfl (by decide) rfl rfl (hrow.mono hle1) rfl h1 (by rw[List.length_append,htl]; show k+1<=small; simp only[small]; omega) (fun p2 c2 tk2 h2=>?_)
  rw[show (l.take k++[x]).length=k+1 by rw[List.length_append,htl]; rfl] at h2 ⊢
  rw[htk] at h2
  refine WL.storeL 2 #[.slice p2 (k+1) c2] Ze sz44 rfl rfl rfl Nat.zero_lt_one rfl rfl<|WL.nil<|WE.inBlock ?_
  exact fun a2 w2 _ hs2=>⟨_,_,Lc (k+1,p2,c2,tk2),hs2,rfl,lc rfl (lc rfl (lc rfl (lc rfl ln))),rfl,(k+1,p2,c2,tk2),⟨rfl,by omega⟩,rfl,h2⟩
 .intro q hq x hx
  simp only[Lc,List.mem_cons,List.not_mem_nil,or_false] at hq
  rcases hq with rfl|rfl|rfl|rfl <;> cases hx <;> rfl
 obtain⟨rfl,⟨k,q,qc,tk⟩,⟨rfl,_⟩,rfl,hrow⟩:=hpost
 dsimp only at hrow
 rw[List.take_length] at hrow
 refine⟨rfl,WCD.seq<|WCD.region<|yy (Y0.loadL 2 sc44 rfl rfl rfl) rfl<|sg rfl rfl<|WL.nil<|WCD.then<|WCD.ret ?_⟩
 refine WE.retD (rvs:=[.tmp 4]) [(7000,tk)] [.slice q l.length qc] rfl rfl rfl (fun i rv v e1 e2=>?_) (lc rfl ln) ⟨_,_,_,rfl,rfl,hrow⟩
 match i with
 | 0=>simp at e1 e2; subst e1 e2; rfl
 | i+1=>simp at e1
theorem ZmM(xs:List (List Za))(hg:xs.all goodP=true)(hlen:xs.length<=1000000)(p:Option Addr)(c n:Nat)(tk:Option Ow):CtrL prog 75 #[.slice p n c,.func (.func 76) #[] #[]] [(5000,tk)] (fun G=>RowR RP 54 G (.slice p n c) xs tk)
  (fun G L v=>∃ zk q qc,L=[(5000,zk)]/\v = .slice q (dedP xs).length qc/\RowR RP 54 G (.slice q (dedP xs).length qc) (dedP xs) zk):=by
 refine CtrL.enter (args:=[_,_]) (N:=66) func75 rfl rfl rfl (fun w0 G0 hL0 hrow=>?_)
 obtain rfl:n=xs.length:=(Value.slice.inj hrow.eqv).2.1
 refine sr<|sg rfl rfl<|nx<|WC.seq<|sr<|mv rfl rfl<|yy (Y0.lenC underlying44 rfl) rfl<|yy (Y0.lss rfl rfl) rfl<|nx ?_
 refine WC.condD (p:=(xs.length:Int)<2) rfl (fun hc=>?_) (fun hc=>?_)
 .refine sr<|mv rfl rfl<|sg rfl rfl<|nx<|WC.ret<|WE.thenRet ?_
  have e:=ZiJ (xs:=xs) (by omega)
  exact WE.ret1 rfl rfl ⟨tk,p,c,rfl,by rw[e],by rw[e]; exact hrow⟩
 have hat:∀ {G:Mem}{ys:List (List Za)}{zk:Option Ow},RowR RP 54 G (.slice p ys.length c) ys zk->∀ i (hi:i<ys.length),∃ q qc,CellT zk (i*1) (.slice q ys[i].length qc)/\SlR Zk G (.slice q ys[i].length qc) ys[i]:=fun {G ys zk} h i hi=>by
  have:=AtK.sl (RowR.at h (i:=(i:Int)) (x:=ys[i]) ⟨by omega,by simp[hi]⟩)
  rw[Int.toNat_natCast] at this
  exact this
 have good:∀ i (hi:i<xs.length),goodP xs[i]=true:=fun i hi=>List.all_eq_true.1 hg _ (List.getElem_mem hi)
 obtain⟨b,rfl⟩:∃ b,p=some ⟨b,0,none⟩:=by
  cases tk with
  | none=>obtain⟨rfl,_⟩:=hrow; simp at hc
  | some y=>obtain⟨cap,cs,rest,h1,_⟩:=hrow; exact⟨y.b,(Value.slice.inj h1).1⟩
 have hcap:xs.length<=c:=by
  cases tk with
  | none=>obtain⟨rfl,_⟩:=hrow; simp at hc
  | some y=>obtain⟨cap,cs,rest,h1,_,_,_,_,_,h7⟩:=hrow; rw[(Value.slice.inj h1).2.2]; exact h7
 refine WC.skip<|WE.then<|WC.seq<|sr<|sg rfl rfl<|nx<|WC.block ?_
 refine WC.loopH (X:=Nat×Mem) (fun gx=>match gx with|⟨k,_⟩=>[(0,.slice (some ⟨b,0,none⟩) xs.length c),(1,.func (.func 76) #[] #[]),(5,.int .i64 (k:Int))])
  (fun gx=>match gx with|⟨k,G⟩=>1<=k/\k<=xs.length/\Mem.le G0 G/\dedP (xs.take k)=xs.take k)
  (fun gx=>match gx with|⟨_,G⟩=>St w0 G0 G [(5000,tk)]) (fun gx=>xs.length-gx.1) ⟨1,G0⟩ (fc rfl (fc rfl (fc rfl fn))) ⟨Nat.le_refl _,by omega,Mem.le_refl _,ZiJ (by rw[List.length_take]; omega)⟩ (fun w hs=>hs) ?_
 rintro⟨k,G⟩ ⟨h1k,hk,hle,hded⟩
 dsimp only at h1k hk hle hded ⊢
 have hrow:=hrow.mono hle
 refine WC.seq<|sr<|mv rfl rfl<|mv rfl rfl<|yy (Y0.lenC underlying44 rfl) rfl<|yy (Y0.lss rfl rfl) rfl<|nx ?_
 refine WC.condD (p:=(k:Int)<(xs.length:Int)) rfl (fun hc2=>?_) (fun hc2=>?_)
 .have hkl:k<xs.length:=by omega
  have hw1:i64.wrap ((k:Int)-1)=((k-1:Nat):Int):=by rw[IntKind.wrap_i64]; omega
  have hw2:i64.wrap ((k:Int)+1)=((k+1:Nat):Int):=by rw[IntKind.wrap_i64]; omega
  obtain⟨q1,c1,e1,s1⟩:=hat hrow k hkl
  obtain⟨q2,c2,e2,s2⟩:=hat hrow (k-1) (by omega)
  have hsnoc:=ZjR h1k hkl
  refine WC.skip<|WE.then<|WC.seq<|WC.block<|WC.seq ?_
  refine WC.drawn [false,false,false,false,false,false,false,false,false,false] mix (by kernel_rfl) (fun hb=>?_)
  refine cn (fun _ hle=>Y0.move rfl)<|cn (fun _ hle=>Y0.move rfl)<|cn (fun _ hle=>Y0.move rfl)<|cn (fun _ hle=>Y0.idxSlN underlying44 sz54 rfl rfl hkl)<|cn (fun _ hle=>Y0.loadT sc54 (hrow.mono hle) (key:=5000) rfl rfl (by simpa using e1)) ?_
  refine cn (fun _ hle=>Y0.move rfl)<|cn (fun _ hle=>Y0.move rfl)<|cn (fun _ hle=>Y0.eq (Y0.sub rfl rfl) (congrArg (Value.int .i64) hw1))<|cn (fun _ hle=>Y0.idxSlN underlying44 sz54 rfl rfl (show k-1<xs.length by omega))<|cn (fun _ hle=>Y0.loadT sc54 (hrow.mono hle) (key:=5000) rfl rfl (by simpa using e2)) ?_
  refine Chain.tail0 hb<|WL.call0 Ze rfl (YC.ofV E76 rfl rfl) (Zcf _ _ _ _ _ _ _ (ZfQ (good k hkl) (good (k-1) (by omega)))) rfl ⟨s1,s2⟩<|WL.nil<|WE.nx<|WE.then ?_
  refine WC.condD (p:=cmpP xs[k] xs[k-1]=0) rfl (fun hc3=>?_) (fun hc3=>?_)
  .rw[if_pos hc3,hded] at hsnoc
   by_cases hck:c=k
   .omega
   refine sr<|mv rfl rfl<|mv rfl rfl<|yy (Y0.slcN underlying44 sz54 rfl rfl hk hcap hck) rfl<|sg rfl rfl<|nx<|WC.seq<|sr<|sg rfl rfl<|nx<|WC.block ?_
   refine WC.loopH (X:=Nat×List (List Za)×Option Ow×Mem) (fun gx=>match gx with|⟨m,_,_,_⟩=>[(0,.slice (some ⟨b,0,none⟩) xs.length c),(1,.func (.func 76) #[] #[]),(5,.int .i64 ((dedP (xs.take (k+m))).length:Int)),(6,.slice (some ⟨b,k*1,none⟩) (xs.length-k) (c-k)),(7,.int .i64 (m:Int))])
    (fun gx=>match gx with|⟨m,ys,zk,G'⟩=>1<=m/\k+m<=xs.length/\Mem.le G G'/\RowR RP 54 G' (.slice (some ⟨b,0,none⟩) xs.length c) ys zk/\ys.length=xs.length/\ys.take (dedP (xs.take (k+m))).length=dedP (xs.take (k+m))/\(dedP (xs.take (k+m))).length<=k+m-1/\∀ t,k+m-1<=t->ys[t]? = xs[t]?)
    (fun gx=>match gx with|⟨_,_,zk,G'⟩=>St w0 G0 G' [(5000,zk)]) (fun gx=>xs.length-(k+gx.1)) ⟨1,xs,tk,G⟩ (fc rfl (fc rfl (fc (by rw[hsnoc,List.length_take,Nat.min_eq_left hk]; rfl) (fc rfl (fc rfl fn))))) ⟨Nat.le_refl _,by omega,Mem.le_refl _,hrow,rfl,by rw[hsnoc,List.length_take,Nat.min_eq_left hk],by rw[hsnoc,List.length_take]; omega,fun _ _=>rfl⟩ (fun w hs=>hs) ?_
   rintro⟨m,ys,zk,G'⟩ ⟨h1m,hm,hle2,hr2,hyl,htk,hdl,hsame⟩
   dsimp only at h1m hm hle2 hr2 hyl htk hdl hsame ⊢
   refine WC.seq<|sr<|mv rfl rfl<|mv rfl rfl<|yy (Y0.lenC underlying44 rfl) rfl<|yy (Y0.lss rfl rfl) rfl<|nx ?_
   refine WC.condD (p:=(m:Int)<((xs.length-k:Nat):Int)) rfl (fun hc4=>?_) (fun hc4=>?_)
   .have hml:k+m<xs.length:=by omega
    have hw3:i64.wrap ((m:Int)-1)=((m-1:Nat):Int):=by rw[IntKind.wrap_i64]; omega
    have hw4:i64.wrap ((m:Int)+1)=((m+1:Nat):Int):=by rw[IntKind.wrap_i64]; omega
    have hr2':RowR RP 54 G' (.slice (some ⟨b,0,none⟩) ys.length c) ys zk:=by rw[hyl]; exact hr2
    have y1:ys[k+m]'(by omega)=xs[k+m]:=by have:=hsame (k+m) (by omega); rw[List.getElem?_eq_getElem (by omega),List.getElem?_eq_getElem (by omega)] at this; exact Option.some.inj this
    have y2:ys[k+m-1]'(by omega)=xs[k+m-1]'(by omega):=by have:=hsame (k+m-1) (by omega); rw[List.getElem?_eq_getElem (by omega),List.getElem?_eq_getElem (by omega)] at this; exact Option.some.inj this
    obtain⟨q3,c3,e3,s3⟩:=hat hr2' (k+m) (by omega)
    obtain⟨q4,c4,e4,s4⟩:=hat hr2' (k+m-1) (by omega)
    rw[y1] at e3 s3
    rw[y2] at e4 s4
    have a3:CellT zk (k*1+m*1) (.slice q3 xs[k+m].length c3):=by rw[<- Nat.add_mul]; exact e3
    have a4:CellT zk (k*1+(m-1)*1) (.slice q4 (xs[k+m-1]'(by omega)).length c4):=by rw[<- Nat.add_mul,show k+(m-1)=k+m-1 by omega]; exact e4
    have hsn:=ZjR (xs:=xs) (j:=k+m) (by omega) hml
    refine WC.skip<|WE.then<|WC.seq<|WC.block<|WC.seq ?_
    refine WC.drawn [false,false,false,false,false,false,false,false,false,false] mix (by kernel_rfl) (fun hb=>?_)
    refine cn (fun _ hle=>Y0.move rfl)<|cn (fun _ hle=>Y0.move rfl)<|cn (fun _ hle=>Y0.move rfl)<|cn (fun _ hle=>Y0.idxSlN underlying44 sz54 rfl rfl (show m<xs.length-k by omega))<|cn (fun _ hle=>Y0.loadT sc54 (hr2.mono hle) (key:=5000) rfl rfl a3) ?_
    refine cn (fun _ hle=>Y0.move rfl)<|cn (fun _ hle=>Y0.move rfl)<|cn (fun _ hle=>Y0.eq (Y0.sub rfl rfl) (congrArg (Value.int .i64) hw3))<|cn (fun _ hle=>Y0.idxSlN underlying44 sz54 rfl rfl (show m-1<xs.length-k by omega))<|cn (fun _ hle=>Y0.loadT sc54 (hr2.mono hle) (key:=5000) rfl rfl a4) ?_
    refine Chain.tail0 hb<|WL.call0 Ze rfl (YC.ofV E76 rfl rfl) (Zcf _ _ _ _ _ _ _ (ZfQ (good (k+m) hml) (good (k+m-1) (by omega)))) rfl ⟨s3,s4⟩<|yy (Y0.notD rfl) rfl<|WL.nil<|WE.nx<|WE.then ?_
    refine WC.condD (p:=¬ cmpP xs[k+m] (xs[k+m-1]'(by omega))=0) rfl (fun hc5=>?_) (fun hc5=>?_)
    .rw[if_neg hc5] at hsn
     have hlen2:(dedP (xs.take (k+(m+1)))).length=(dedP (xs.take (k+m))).length+1:=by rw[<- Nat.add_assoc,hsn,List.length_append]; rfl
     have hw5:i64.wrap (((dedP (xs.take (k+m))).length:Int)+1)=(((dedP (xs.take (k+m))).length+1:Nat):Int):=by rw[IntKind.wrap_i64]; omega
     refine sr<|mv rfl rfl<|mv rfl rfl<|mv rfl rfl<|mv rfl rfl<|yy (Y0.idxSlN underlying44 sz54 rfl rfl (show m<xs.length-k by omega)) rfl<|yy (Y0.loadT sc54 hr2 (key:=5000) rfl rfl a3) rfl ?_
     have hz:(0:Int)<=((dedP (xs.take (k+m))).length:Int)/\ys[((dedP (xs.take (k+m))).length:Int).toNat]? = some (ys[(dedP (xs.take (k+m))).length]'(by omega)):=⟨by omega,by rw[Int.toNat_natCast,List.getElem?_eq_getElem]⟩
     refine yy (Y0.idxRow underlying44 sz54 hr2 rfl rfl hz) rfl ?_
     refine WL.storeT (r:=RP) (e:=54) (cs':=[.slice q3 xs[k+m].length c3]) (i:=((dedP (xs.take (k+m))).length:Int)) (z':=xs[k+m]) 5000 Ze sz54 rfl hr2 rfl rfl rfl rfl ⟨_,rfl,s3⟩ hz (fun tk3 h3=>?_)
     rw[Int.toNat_natCast] at h3
     refine nx<|WC.region<|mv rfl rfl<|yy (Y0.add rfl rfl) rfl ?_
     rw[hw5]
     refine sg rfl rfl<|WL.nil<|WE.inBlock<|WE.then<|WC.region<|mv rfl rfl<|yy (Y0.add rfl rfl) rfl ?_
     rw[hw4]
     refine sg rfl rfl<|WL.nil<|WE.backH (x:=(m,ys,zk,G')) (m+1,ys.set (dedP (xs.take (k+m))).length xs[k+m],tk3,G') ⟨by omega,by omega,hle2,h3,by rw[List.length_set]; exact hyl,?_,by show (dedP (xs.take (k+(m+1)))).length<=k+(m+1)-1; omega,fun t ht=>?_⟩ (fc rfl (fc rfl (fc (by rw[hlen2]; rfl) (fc rfl (fc rfl fn))))) (fun w hs=>hs.weaken (lc rfl ln)) (by show xs.length-(k+(m+1))<xs.length-(k+m); omega)
     .rw[hlen2,<- Nat.add_assoc,hsn,List.take_succ_eq_append_getElem (by rw[List.length_set]; omega),List.getElem_set_self]
      rw[List.take_set_of_le (Nat.le_refl _),htk]
     rw[List.getElem?_set_ne (by omega)]
     exact hsame t (by omega)
    rw[if_pos (Classical.not_not.1 hc5)] at hsn
    refine WC.skip<|WE.inBlock<|WE.then<|WC.region<|mv rfl rfl<|yy (Y0.add rfl rfl) rfl ?_
    rw[hw4]
    exact sg rfl rfl<|WL.nil<|WE.backH (x:=(m,ys,zk,G')) (m+1,ys,zk,G') ⟨by omega,by omega,hle2,hr2,hyl,by rw[<- Nat.add_assoc,hsn]; exact htk,by rw[<- Nat.add_assoc,hsn]; omega,fun t ht=>hsame t (by omega)⟩ (fc rfl (fc rfl (fc (by rw[<- Nat.add_assoc,hsn]; rfl) (fc rfl (fc rfl fn))))) (fun w hs=>hs) (by show xs.length-(k+(m+1))<xs.length-(k+m); omega)
   have hend:k+m=xs.length:=by omega
   rw[hend,List.take_length] at htk hdl
   refine WC.exit<|WE.thenExit<|WE.thenExit<|WE.exitHere<|WE.then<|sr<|mv rfl rfl<|mv rfl rfl ?_
   rw[<- hyl] at hr2
   refine WL.clearTail (r:=RP) (e:=54) (xs:=ys) (lo:=((dedP (xs.take (k+m))).length:Int)) (zx:=([]:List Za)) 5000 rfl underlying44 el54 rfl rfl (List.all_eq_true.1 rfl) (by decide) ⟨_,rfl,SlR.nil _ _⟩ hr2 rfl (by rw[hyl]; rfl) rfl (by rw[hend,List.take_length]; omega) (fun v5 tk5 h5=>?_)
   rw[hend,List.take_length,Int.toNat_natCast,htk] at h5
   rw[hyl] at h5
   have hdl2:=ZkP (xs:=xs)
   refine nx<|sr<|mv rfl rfl<|mv rfl rfl ?_
   refine WL.takeRow (r:=RP) (e:=54) (hi:=((dedP (xs.take (k+m))).length:Int)) Ze rfl underlying44 sz54 rfl h5 rfl rfl ⟨by omega,by omega,by rw[hend,List.take_length,List.length_append,List.length_replicate]; omega⟩ (fun h6=>?_)
   rw[hend,List.take_length,Int.toNat_natCast,List.take_left] at h6
   rw[Int.toNat_natCast]
   refine sg rfl rfl<|nx<|WC.ret<|WE.inBlockRet<|WE.thenRet<|WE.thenRet<|WE.inBlockRet<|WE.thenRet ?_
   refine WE.conseq (S':=St w0 G0 G' [(5000,tk5)]) (fun w hs=>hs.weaken (lc rfl ln)) (WE.ret1 rfl rfl ⟨tk5,_,c,rfl,?_,h6⟩)
   rw[hend,List.take_length]
  rw[if_neg hc3,hded] at hsnoc
  refine WC.skip<|WE.inBlock<|WE.then<|WC.region<|mv rfl rfl<|yy (Y0.add rfl rfl) rfl ?_
  rw[hw2]
  exact sg rfl rfl<|WL.nil<|WE.backH (x:=(k,G)) (k+1,G) ⟨by omega,by omega,hle,by rw[hsnoc]; exact (List.take_succ_eq_append_getElem hkl).symm⟩ (fc rfl (fc rfl (fc rfl fn))) (fun w hs=>hs) (by show xs.length-(k+1)<xs.length-k; omega)
 have hke:k=xs.length:=by omega
 subst hke
 rw[List.take_length] at hded
 refine WC.exit<|WE.thenExit<|WE.thenExit<|WE.exitHere<|WE.then<|sr<|mv rfl rfl<|sg rfl rfl<|nx<|WC.ret ?_
 exact WE.ret1 rfl rfl ⟨tk,_,c,rfl,by rw[hded],by rw[hded]; exact hrow⟩
theorem Zki(b:Nat)(l:List (List Za))(hg:l.all goodP=true)(hl:l.length<=100)(p:Option Addr)(n c:Nat):CtrL prog 72 #[.func (.func 110) #[] #[.pointer (some ⟨b,0,none⟩)],.func (.func 74) #[] #[]] [] (fun G=>G b 0=some (.slice p n c)/\SlR RP G (.slice p n c) l)
  (fun G L v=>∃ q qc tk,L=[(5000,tk)]/\v = .slice q (ordP l).length qc/\RowR RP 54 G v (ordP l) tk):=by
 refine CtrL.enter (args:=[_,_]) (N:=12) func72 rfl rfl rfl (fun w0 G0 hL0 hpre=>?_)
 have hz:w0.L.zero:=by rw[hL0]; intro p hp; cases hp
 have h0:∀ i,w0.L.get i=none:=fun i=>by rw[hL0]; rfl
 have hsort:(Z0 l).Ret (ordP l):=by
  obtain⟨v,h1,h2,h3⟩:=Zou hl
  exact⟨v,h1,ordP l,⟨⟨rfl,rfl,⟨h2,h3⟩,by omega,hg⟩,rfl⟩,rfl⟩
 have hol:(ordP l).length=l.length:=(Zbm l).length_eq
 have collect:CtrL prog 108 #[.func (.func 110) #[] #[.pointer (some ⟨b,0,none⟩)]] [] (fun G=>G b 0=some (.slice p n c)/\SlR RP G (.slice p n c) l)
   (fun G L v=>∃ q qc tk,L=[(7000,tk)]/\v = .slice q l.length qc/\RowR RP 54 G v l tk):=by
  refine CtrL.enter (args:=[_]) (N:=5) func108 rfl rfl rfl (fun w1 G1 hL1 hpre1=>?_)
  have hz1:w1.L.zero:=by rw[hL1]; intro p hp; cases hp
  refine sr<|sg rfl rfl<|nx<|sr<|mv rfl rfl ?_
  refine WL.callT Ze rfl (YC.of E133 rfl) (ZnE b l p n c (by omega)) rfl hpre1 (Lo.Zt _) hz1 (fun v G2 L2 hle2 hpost=>?_)
  obtain⟨q,qc,tk,rfl,rfl,hrow⟩:=hpost
  refine sg rfl rfl<|nx<|WC.ret ?_
  exact WE.conseq (S':=St w1 G1 G2 [(7000,tk)]) (fun w hs=>hs.weaken (lc rfl ln)) (WE.ret1 rfl rfl ⟨q,qc,tk,rfl,rfl,hrow⟩)
 refine sr<|sg rfl rfl<|nx<|sr<|mv rfl rfl ?_
 refine WL.callT Ze rfl (YC.of E108 rfl) collect rfl hpre (Lo.Zt _) hz (fun v G2 L2 hle2 hpost=>?_)
 obtain⟨q,qc,tk,rfl,rfl,hrow⟩:=hpost
 refine sg rfl rfl<|nx<|sr<|mv rfl rfl<|mv rfl rfl ?_
 refine WL.conseq (fun w hs=>hs.rekey (i:=7000) (j:=5000) rfl (h0 _)) ?_
 refine WL.callT Ze rfl (YC.of E109 rfl) (ZaE _ _ _ _ _ _ hsort) rfl hrow (lc rfl ln) hz (fun v G3 L3 hle3 hpost=>?_)
 obtain⟨tk3,rfl,rfl,hrow3⟩:=hpost
 refine nx<|sr<|mv rfl rfl<|sg rfl rfl<|nx<|WC.ret ?_
 rw[<- hol] at hrow3
 refine WE.conseq (S':=St w0 G0 G3 [(5000,tk3)]) (fun w hs=>hs.weaken (lc rfl ln)) (WE.ret1 rfl rfl ⟨q,qc,tk3,rfl,?_,?_⟩)
 .rw[hol]
 rw[<- hol]; exact hrow3
theorem ZeP(l:List (List Za))(p:Option Addr)(c:Nat)(r:List (List Za))(hr:(Zcw l).Ret r):Ctr prog 35 #[.slice p l.length c] (fun G=>SlR RP G (.slice p l.length c) l) (fun G v=>∃ q qc,v = .slice q r.length qc/\SlR RP G (.slice q r.length qc) r):=by
 obtain⟨⟨hl,hg⟩,hr⟩:=hr
 replace hr:_=r:=hr
 subst hr
 have hz:∀ {w0:Bs},w0.L=[]->w0.L.zero:=fun h=>by rw[h]; intro p hp; cases hp
 have hol:(ordP l).length=l.length:=(Zbm l).length_eq
 have hog:(ordP l).all goodP=true:=List.all_eq_true.2 fun x hx=>List.all_eq_true.1 hg x ((Zbm l).mem_iff.1 hx)
 refine Ctr.enter (args:=[_]) (N:=9) func35 rfl rfl rfl (fun w0 G0 hL0 hsl=>?_)
 refine sr<|sg rfl rfl<|nx<|sr<|mv rfl rfl ?_
 refine WL.call Ze rfl (YC.of E73 rfl) (ZnG l p l.length c) rfl hsl (fun v G1 hle1 hpost=>?_)
 obtain⟨b,rfl,hb,hsl1⟩:=hpost
 refine WL.callT Ze rfl (YC.of E72 rfl) (Zki b l hg hl p l.length c) rfl ⟨hb,hsl1⟩ (Lo.Zt _) (hz hL0) (fun v G2 L2 hle2 hpost=>?_)
 obtain⟨q,qc,tk,rfl,rfl,hrow⟩:=hpost
 refine sg rfl rfl<|nx<|sr<|mv rfl rfl ?_
 refine WL.callT Ze rfl (YC.of E75 rfl) (ZmM (ordP l) hog (by omega) q qc _ tk) rfl hrow (lc rfl ln) (hz hL0) (fun v G3 L3 hle3 hpost=>?_)
 obtain⟨tk3,q3,qc3,rfl,rfl,hrow3⟩:=hpost
 refine sg rfl rfl<|nx<|WC.ret ?_
 refine WE.freezeT 5000 hrow3 rfl (by rw[hL0]; rfl) (fun tk4 G4 hle4 hsl4 _=>?_)
 exact WE.ret1 rfl rfl ⟨_,_,rfl,hsl4⟩
theorem cz'{e c d r}(hr:(Zbx e).Ret r):Ctr prog 99 #[sv0 c e d] (fun G=>sl (Rp.int .u32) G c d e) (wl' (Rp.int .u32) r):=by
 refine B' (args:=[_]) (N:=5) func99 z z z (fun q s i g=>?_)
 have h:=g
 refine sr<|sw0 z<|nr<|mw0 z<|oA hr fun f hr=>bG' (r:=(Rp.int .u32)) 2004 z z a' bO' z (by decide) z z (ay' (Rp.int .u32) _) z (by rw[i]; rfl) cD' h f fun p n l o k j m=>sx1 z<|q' ?_
 obtain rfl:_=r:=hr
 exact o' z z ⟨_,_,z,j⟩
theorem dS'{k i l r}(hr:(Zd2 k).Ret r):Ctr prog 101 #[sv0 i k l] (fun G=>sl (Rp.int .u32) G i l k) (fun G v=>v = .int .u64 r):=by
 refine B' (args:=[_]) (N:=22) func101 z z z (fun q h x o=>?_)
 have f:=o
 refine sr<|sw0 z<|nr<|sx1 z<|c'<|sr<|mw0 z<|yw0 (D' a' f z)<|mw0 z<|nx<|aa' (X:=Int×Int×Mem) hr (fun ⟨g,d,e⟩=>⟨(g,d),[(0,sv0 i k l),(3,.int .u64 g),(6,i' (k.length:Int)),(7,i' d)],Mem.le h e,St q h e []⟩) (fun (⟨n,j⟩:Int×Mem)=>⟨n,[(3,.int .u64 n)],Mem.le h j,St q h j []⟩) ⟨0,0,h⟩ z (fz0 z) mr (wk ln) ?_ ?_
 .rintro _ ⟨g,d,e⟩ c hr
  refine sr<|ls0 z<|nx<|c'<|I' hr z (fun s hr=>?_) (fun s hr=>?_)
  .refine t'<|b'<|c'<|U'<|sr<|mw0 z<|sx1 z<|w'<|mw0 z<|mw0 z<|mw0 z<|oE hr fun u m hr=>yw0 (Q' a' R' (f.mono c) z z m)<|yw0 (ac' au' z (ak' (M' (ad' f m) c)))<|yw0 (K' m' h' z)<|mw0 z<|yw0 (bE' z z)<|oA hr fun p hr=>yw0 (Y0.shl z z p)<|yw0 (Y0.or z z)<|sw0 z<|p'<|E'<|b'<|w'<|ad0 z<|mw0 z<|p'<|O' ⟨u64.wrap (BitVec.ofInt u64.bits g ||| BitVec.ofInt u64.bits (u64.wrap ((u64.wrap u)*2 ^ (min (i64.wrap (32*d)).toNat u64.bits)))).toNat,i64.wrap (d+1),e⟩ hr c (fz0 z) (wk ln)
  refine Z'<|f'<|f'<|F'<|ab' ⟨g,e⟩ ⟨hr,c⟩ (f1 z) (wk ln)
 rintro⟨n,j⟩ ⟨hr,t⟩
 refine b'<|sr<|mw0 z<|sx1 z<|q' (k0' hr z z)
theorem dZ'{c k x A r}(hr:(Zde c k).Ret r):Ctr prog 128 #[sv0 x c A,.int .u64 k] (fun G=>sl (Rp.int .u32) G x A c) (fun G v=>∃ u s,v = .tuple #[sv0 u r.1 s,.int .u64 r.2]/\sl (Rp.int .u32) G u s r.1):=by
 refine B' (args:=[_,_]) (N:=41) func128 z z z (fun U q V L=>?_)
 have l:=L
 refine sr<|sw0 z<|sw0 z<|nr<|mw0 z<|yw0 (D' a' l z)<|oA hr fun Q hr=>bj' (r:=(Rp.int .u32)) (e:=139) (n:=(c.length:Int)) (zx:=0) 4012 z z a' bO' z (by decide) (by decide) z z z Q fun D K W=>sw0 z<|nr<|sx1 z<|c'<|sr<|mw0 z<|yw0 (D' a' l z)<|yw0 (ap' z z)<|sx1 z<|aa' (X:=(List Int)×Option Ow×Int×Int×Mem) hr (fun ⟨C,h,d,p,g⟩=>⟨(C,d,p),[(0,sv0 x c A),(1,.int .u64 k),(6,.slice D (c.length:Int).toNat ((c.length:Int).toNat)),(7,.int .u64 d),(8,i' p)],Mem.le q g/\RowR (Rp.int .u32) 139 g (.slice D (c.length:Int).toNat ((c.length:Int).toNat)) C h,St U q g [(4012,h)]⟩) (fun (⟨I,j,t,m⟩:(List Int)×Option Ow×Int×Mem)=>⟨(I,t),[(6,.slice D (c.length:Int).toNat ((c.length:Int).toNat)),(7,.int .u64 t)],Mem.le q m/\RowR (Rp.int .u32) 139 m (.slice D (c.length:Int).toNat ((c.length:Int).toNat)) I j,St U q m [(4012,j)]⟩) ⟨(List.replicate (c.length:Int).toNat 0),K,0,i64.wrap ((c.length:Int)-1),q⟩ z (fz0 z) ⟨mr,W⟩ (w1 z) ?_ ?_
 .rintro _ ⟨C,h,d,p,g⟩ ⟨f,y⟩ hr
  refine c'<|sr<|mw0 z<|yw0 (bc' z z)<|nx<|I' hr z (fun Y hr=>?_) (fun Y hr=>?_)
  .refine t'<|b'<|c'<|U'<|sr<|mw0 z<|yw0 (Y0.shl z z (by decide))<|mw0 z<|mw0 z<|oE hr fun E H hr=>yw0 (Q' a' R' (l.mono f) z z H)<|yw0 (ac' au' z (ak' (M' (ad' l H) f)))<|yw0 (K' m' h' z)<|yw0 (Y0.or z z)<|sw0 z<|nr<|mw0 z<|mw0 z<|mw0 z<|mw0 z<|oA hr fun S hr=>yw0 (bv' z z S)<|yw0 (K' h' m' z)<|oE hr fun x2 F hr=>yw0 (aB' a' R' y z z F)<|aI' (r:=(Rp.int .u32)) (e:=139) (cs':=[.int .u32 (u32.wrap (u64.wrap (Int.tdiv (u64.wrap (BitVec.ofInt u64.bits (u64.wrap (d*2 ^ (min (32:Int).toNat u64.bits))) ||| BitVec.ofInt u64.bits (u64.wrap E)).toNat) k)))]) (i:=p) (z':=u32.wrap (u64.wrap (Int.tdiv (u64.wrap (BitVec.ofInt u64.bits (u64.wrap (d*2 ^ (min (32:Int).toNat u64.bits))) ||| BitVec.ofInt u64.bits (u64.wrap E)).toNat) k))) 4012 z R' z y z z z z z F fun R O=>nx<|w'<|mw0 z<|mw0 z<|oA hr fun P hr=>yw0 (aV' z z P)<|sw0 z<|p'<|E'<|b'<|w'<|mw0 z<|yw0 (ap' z z)<|sw0 z<|p'<|O' ⟨(C.set p.toNat (u32.wrap (u64.wrap (Int.tdiv (u64.wrap (BitVec.ofInt u64.bits (u64.wrap (d*2 ^ (min (32:Int).toNat u64.bits))) ||| BitVec.ofInt u64.bits (u64.wrap E)).toNat) k)))),R,Int.tmod (u64.wrap (BitVec.ofInt u64.bits (u64.wrap (d*2 ^ (min (32:Int).toNat u64.bits))) ||| BitVec.ofInt u64.bits (u64.wrap E)).toNat) k,i64.wrap (p-1),g⟩ hr ⟨f,O⟩ (fz0 z) (w1 z)
  refine Z'<|f'<|f'<|F'<|ab' ⟨C,h,d,g⟩ ⟨hr,f,y⟩ (fz0 z) (w1 z)
 rintro⟨I,j,t,m⟩ ⟨hr,Z,T⟩
 refine b'<|sr<|mw0 z<|aY' (r:=(Rp.int .u32)) (e:=139) 4012 T z (by rw[V]; rfl) (fun ah ag ac B aa=>?_)
 refine oE hr fun ai M hr=>y' z z (k' E100 z) (bp' M) (by rw[bs' B]) ((bq' B)) (fun ad aj ab o=>?_)
 obtain⟨af,ae,rfl,J⟩:=o
 refine mw0 z<|sw0 z<|sx1 z<|q' ?_
 obtain rfl:_=r:=hr
 exact aW' z z z ⟨_,_,z,J⟩
theorem dI'{f g j h i k r}(hr:(Zdm f g).Ret r):Ctr prog 102 #[sv0 j f h,sv0 i g k] (fun G=>sl (Rp.int .u32) G j h f/\sl (Rp.int .u32) G i k g) (fun G v=>∃ u t s x,v = .tuple #[sv0 u r.1 t,sv0 s r.2 x]/\sl (Rp.int .u32) G u t r.1/\sl (Rp.int .u32) G s x r.2):=by
 refine B' (args:=[_,_]) (N:=88) func102 z z z (fun w0 G0 aq M=>?_)
 obtain⟨C,y⟩:=M
 refine sr<|sw0 z<|sw0 z<|nr<|mw0 z<|oE hr fun al O hr=>y' z z (k' E100 z) (bp' O) z (C) (fun W ai B m=>?_)
 obtain⟨ab,aa,rfl,e⟩:=m
 refine mw0 z<|oE hr fun aj E hr=>y' z z (k' E100 z) (bp' E) z ((y.mono B)) (fun ah ar c o=>?_)
 obtain⟨X,Y,rfl,d⟩:=o
 refine sw0 z<|sx1 z<|c'<|sr<|mw0 z<|mw0 z<|oE hr fun au J hr=>T' z z (k' E126 z) (co' J) z (⟨(e.mono c),d⟩)<|ls0 z<|nx<|I' hr z (fun S hr=>?_) (fun S hr=>?_)
 .refine sr<|mw0 z<|oE hr fun ak H hr=>y' z z (k' E99 z) (cz' H) z ((e.mono c)) (fun Z ao T n=>?_)
  obtain⟨ag,ae,rfl,K⟩:=n
  refine sw0 z<|sx1 z<|q'<|j' ?_
  obtain rfl:_=r:=hr
  exact aW' z z z ⟨_,_,_,_,z,(ay' (Rp.int .u32) _),K⟩
 refine t'<|b'<|c'<|sr<|mw0 z<|yw0 (D' a' d z)<|yw0 (aK' z z)<|nx<|I' hr z (fun Q hr=>?_) (fun Q hr=>?_)
 .refine sr<|mw0 z<|mw0 z<|oE hr fun x1 D hr=>yw0 (Q' a' R' d z z D)<|yw0 (ac' au' z (ak' (ad' d D)))<|yw0 (K' m' h' z)<|oE hr fun am F hr=>y' z z (k' E128 z) (dZ' F) z ((e.mono c)) (fun ac av U l=>?_)
  obtain⟨P,R,rfl,q⟩:=l
  refine mw0 z<|ex0 z<|ex0 z<|sw0 z<|sw0 z<|nr<|mw0 z<|mw0 z<|oE hr fun ap I hr=>y' z z (k' E98 z) (cy' I) z (trivial) (fun V an A p=>?_)
  obtain⟨af,ad,rfl,L⟩:=p
  refine sw0 z<|sx1 z<|q'<|j' ?_
  obtain rfl:_=r:=hr
  exact aW' z z z ⟨_,_,_,_,z,(q.mono A),L⟩
 exact (show False from hr).elim
theorem cO'{a1 b1 H D K I r}(hr:(Za1 a1 b1).Ret r):Ctr prog 63 #[.agg ((v38' a1 H D)).toArray,.agg ((v38' b1 K I)).toArray] (fun G=>sl (Rp.int .u32) G H D a1.mag/\sl (Rp.int .u32) G K I b1.mag) (w38' r):=by
 refine B' (args:=[_,_]) (N:=53) func63 z z z (fun w0 G0 bI aY=>?_)
 obtain⟨au,ar⟩:=aY
 refine sr<|ah' 2 z z z fun b2=>ah' 3 z z z fun b3=>P' 4 z z38 z fun t=>nx<|c'<|aj' [ff,ff,ff,ff,ff,ff] mix (by kernel_rfl) fun hb=>cn (fun _ g=>ai' z)<|cn (fun _ g=>A' 2 aE' z z z)<|oE hr fun ap aM hr=>at' (post:=wl' (Rp.int .u32) ap) (fun _=>z) (fun _ _=>k' E100 z) (bp' aM) z (fun G' g=>(au.mono g)) (fun v G1 G2 g h=>?_) ?_
 .obtain⟨ax,ai,rfl,B⟩:=h
  exact⟨_,_,z,B.mono g⟩
 refine oE hr fun aj aN hr=>bd' (f:=99) (φ:=wl' (Rp.int .u32) aj) (fun _=>z) (fun v G1 G2 g h=>?_) (fun u G' g hu=>?_) ?_
 .obtain⟨ao,ah,rfl,R⟩:=h
  exact⟨_,_,z,R.mono g⟩
 .obtain⟨⟨ax,ai,aA,B⟩,_⟩:=(show (wl' (Rp.int .u32) ap) G'.m (u 13)/\True from hu)
  exact⟨_,_,_,fun _=>k' E99 z,cz' aN,(by simp only[aA] <;> rfl),B⟩
 refine cu (fun _ _ g=>ai' z)<|cu (fun _ _ g=>A' 3 aE' z z z)<|cq' (d:=14) (post:=wl' (Rp.int .u32) aj) (d':=13) (post':=wl' (Rp.int .u32) ap) (fun bx bA bL aF ag Y=>?_)
 obtain⟨ao,ah,rfl,R⟩:=ag
 obtain⟨ax,ai,rfl,B⟩:=Y
 refine oE hr fun bK aV hr=>y' z z (k' E100 z) (bp' aV) z ((ar.mono aF)) (fun bs bH az af=>?_)
 obtain⟨bq,bC,rfl,aI⟩:=af
 refine oE hr fun ba aG hr=>y' z z (k' E99 z) (cz' aG) z (aI) (fun bv al aD Z=>?_)
 obtain⟨aT,aR,rfl,aP⟩:=Z
 refine sw0 z<|sw0 z<|p'<|ar'<|b'<|c'<|aa' (X:=(List Int)×Option Addr×Nat×(List Int)×Option Addr×Nat×Zb×Option Addr×Nat×Mem) hr (fun ⟨P,J,E,o,q,p,k,e,c,l⟩=>⟨(P,o,k),[(4,pt0 t),(5,sv0 J P E),(6,sv0 q o p)],Mem.le al l/\sl (Rp.int .u32) l J E P/\sl (Rp.int .u32) l q p o/\sl (Rp.int .u32) l e c k.mag,St w0 G0 l [(4,bk0 t (v38' k e c) 38)]⟩) (fun (⟨x1,an,aw,V,m,n,L⟩:(List Int)×Option Addr×Nat×Zb×Option Addr×Nat×Mem)=>⟨(.inr (x1,V)),[(4,pt0 t),(5,sv0 an x1 aw)],Mem.le al L/\sl (Rp.int .u32) L an aw x1/\sl (Rp.int .u32) L m n V.mag,St w0 G0 L [(4,bk0 t (v38' V m n) 38)]⟩) ⟨aj,ao,ah,ba,aT,aR,(Zb.mk false []),none,0,al⟩ z (fz0 z) ⟨mr,(R.mono (mx az aD)),aP,(ay' _ _)⟩ (w1 z) ?_ ?_
 .rintro _ ⟨P,J,E,o,q,p,k,e,c,l⟩ ⟨T,S,s,y⟩ hr
  refine c'<|sr<|mw0 z<|yw0 (D' a' s z)<|yw0 (aL' z z)<|nx<|I' hr z (fun bi hr=>?_) (fun bi hr=>?_)
  .refine t'<|b'<|U'<|c'<|aD' hr (fun (⟨A,x⟩:Bool×Mem)=>⟨[(4,pt0 t),(5,sv0 J P E),(6,sv0 q o p),(29,.bool A)],Zdl P o k A,Mem.le l x,St w0 G0 x [(4,bk0 t (v38' k e c) 38)]⟩) ?_ ?_
   .refine w'<|mw0 z<|yw0 (D' a' S z)<|aQ' hr z (bF' z z) z (fun bh hr=>?_) (fun bh hr=>?_)
    .refine mw0 z<|gm0 z<|gy z z (D' a' s z) z<|gy z z (bF' z z) z<|pt00 z<|p'<|ao' ⟨decide ((o.length:Int)<=2),l⟩ ⟨hr,mr⟩ (fz0 z) (w1 z)
    refine mw0 z<|sn3 z<|pf00 z<|p'<|ao' ⟨false,l⟩ ⟨hr,mr⟩ (fz0 z) (w1 z)
   rintro⟨A,x⟩ ⟨hr,j⟩
   refine aX' hr z (fun bb hr=>?_) (fun bb hr=>?_)
   .refine sr<|mw0 z<|oE hr fun bf aX hr=>T' z z (k' E101 z) (dS' aX) z ((S.mono j))<|mw0 z<|oE hr fun a9 aZ hr=>T' z z (k' E101 z) (dS' aZ) z ((s.mono j))<|sw0 z<|sx1 z<|c'<|aa' (X:=Int×Int×Mem) hr (fun ⟨m2,n1,F⟩=>⟨(m2,n1),[(4,pt0 t),(7,.int .u64 m2),(8,.int .u64 n1)],Mem.le x F,St w0 G0 F [(4,bk0 t (v38' k e c) 38)]⟩) (fun (⟨m1,ak⟩:Int×Mem)=>⟨m1,[(4,pt0 t),(7,.int .u64 m1)],Mem.le x ak,St w0 G0 ak [(4,bk0 t (v38' k e c) 38)]⟩) ⟨bf,a9,x⟩ z (fz0 z) mr (w1 z) ?_ ?_
    .rintro _ ⟨m2,n1,F⟩ U hr
     refine c'<|sr<|mw0 z<|yw0 (aL' z z)<|nx<|I' hr z (fun bc hr=>?_) (fun bc hr=>?_)
     .refine t'<|b'<|U'<|aj' [ff,ff,ff,ff,ff] mix (by kernel_rfl) fun hb=>cm0 z<|cm0 z<|cm0 z<|oA hr fun be hr=>cn (fun _ g=>aV' z z be)<|cn (fun _ g=>Y0.assign z)<|am' hb<|sw0 z<|p'<|ar'<|E'<|O' ⟨n1,Int.tmod m2 n1,F⟩ hr U (fz0 z) (w1 z)
     refine Z'<|f'<|f'<|F'<|ab' ⟨m2,F⟩ ⟨hr,U⟩ (fz0 z) (w1 z)
    rintro⟨m1,ak⟩ ⟨hr,bo⟩
    refine b'<|sr<|mw0 z<|oE hr fun bM aK hr=>y' z z (k' E98 z) (cy' aK) z (trivial) (fun bz bG bp ab=>?_)
    obtain⟨bE,bt,rfl,aL⟩:=ab
    refine oE hr fun bw aE hr=>y' z z (k' E97 z) (bg' aE) z (aL) (fun bk bJ bj M=>?_)
    obtain⟨aO,aW,rfl,O⟩:=M
    refine stB 4 aA' z<|nx<|q'<|j'<|H'<|j'<|H'<|az'<|j' ?_
    obtain rfl:_=r:=hr
    exact o' z (af' (i:=4) W' z z z) ⟨_,_,z,O⟩
   refine t'<|b'<|sr<|mw0 z<|mw0 z<|oE hr fun aS aB hr=>y' z z (k' E102 z) (dI' aB) z (⟨(S.mono j),(s.mono j)⟩) (fun bm bd C Q=>?_)
   obtain⟨a0,a4,ae,ad,rfl,a2,W⟩:=Q
   refine mw0 z<|ex0 z<|ex0 z<|sw0 z<|sx1 z<|w'<|mw0 z<|mw0 z<|sw0 z<|sw0 z<|p'<|E'<|O' ⟨o,q,p,aS.2,ae,ad,k,e,c,bd⟩ hr ⟨(mx (mx T j) C),(s.mono (mx j C)),W,(y.mono (mx j C))⟩ (fz0 z) (w1 z)
  refine Z'<|f'<|f'<|F'<|ab' ⟨P,J,E,k,e,c,l⟩ ⟨hr,T,S,y⟩ (fz0 z) (w1 z)
 rintro⟨x1,an,aw,V,m,n,L⟩ ⟨hr,bl,bg,a3⟩
 refine b'<|sr<|mw0 z<|oE hr fun bN aU hr=>y' z z (k' E97 z) (bg' aU) z (bg) (fun br bF bn aa=>?_)
 obtain⟨a6,a5,rfl,ac⟩:=aa
 refine stB 4 aA' z<|nx<|q' ?_
 obtain rfl:_=r:=hr
 exact o' z (af' (i:=4) W' z z z) ⟨_,_,z,ac⟩
theorem dT'{g e d r}(hr:(Zd1 g).Ret r):Ctr prog 127 #[.agg ((v38' g e d)).toArray] (fun G=>sl (Rp.int .u32) G e d g.mag) (fun G v=>v = .bool r):=by
 refine B' (args:=[_]) (N:=19) func127 z z z (fun l n j h=>?_)
 have c:=h
 refine sr<|ah' 1 z z z fun k=>sw0 z<|nr<|yw0 (ai' z)<|yw0 (A' 1 aE' z z z)<|yw0 (D' a' c z)<|sx1 z<|c'<|sr<|mw0 z<|yw0 (aK' z z)<|nx<|I' hr z (fun i hr=>?_) (fun i hr=>?_)
 .refine sr<|yw0 (aw' z)<|yw0 (A' 1 sc4 z z z)<|yw0 (bf' z)<|sx1 z<|q'<|j' (k0' hr z z)
 refine t'<|b'<|sr<|yw0 (ai' z)<|yw0 (A' 1 aE' z z z)<|mw0 z<|yw0 (ap' z z)<|oE hr fun m f hr=>yw0 (Q' a' R' c z z f)<|yw0 (ac' au' z (ak' (ad' c f)))<|yw0 (bU' z z)<|sx1 z<|q' (k0' hr z z)
theorem eJ'{g f e d c r}(hr:(Zcd g).Ret r):Ctr prog 93 #[.agg ((v40' g f e d c)).toArray] (fun G=>sl (Rp.int .u32) G f e g.num.mag/\sl (Rp.int .u32) G d c g.den.mag) (fun G v=>v = .bool r):=by
 refine B' (args:=[_]) (N:=30) func93 z z z (fun I t Q u=>?_)
 obtain⟨i,h⟩:=u
 refine sr<|ah' 1 z z z fun B=>sx1 z<|aD' hr (fun (J:Mem)=>match J with|m=>⟨[(1,pt0 B)],Zeb g,Mem.le t m,St I t m [(1,bk0 B (v40' g f e d c) 40)]⟩) ?_ ?_
 .refine sr<|yw0 (aT' z)<|yw0 (ag' ((v38' g.num f e)).toArray 1 W' z z z (aq' ([]) ((v38' g.num f e)) ((v38' g.den d c))))<|oE hr fun C p hr=>T' z z (k' E127 z) (dT' p) z (i) ?_
  cases C
  .refine yw0 (bf' z)<|mw0 z<|sn4 z<|pt00 z<|mw0 z<|sn4 z<|pt00 z<|nx<|aR' z<|sr<|sx1 z<|q'<|j' (k0' hr z z)
  refine yw0 (bf' z)<|mw0 z<|gy z z (aM' z) z<|gy z z (ag' ((v38' g.den d c)).toArray 1 W' z z z (aq' ((v38' g.num f e)) ((v38' g.den d c)) ([]))) z<|oE hr fun E o hr=>T' (as' z z) z (k' E127 z) (dT' o) z (h) ?_
  cases E
  .refine gy z z (bf' z) z<|pf00 z<|mw0 z<|sn4 z<|pt00 z<|nx<|aR' z<|sr<|sx1 z<|q'<|j' (k0' hr z z)
  refine gy z z (bf' z) z<|pf00 z<|mw0 z<|gy z z (aM' z) z<|gy z z (ag' ((v38' g.den d c)).toArray 1 W' z z z (aq' ((v38' g.num f e)) ((v38' g.den d c)) ([]))) z<|oE hr fun M q hr=>T' (as' z z) z (k' E106 z) (cd' q) z (h)<|gy z z (bF' z z) z<|pf00 z<|nx<|I' hr z (fun F hr=>?_) (fun F hr=>?_)
  .exact (show False from hr).elim
  refine t'<|ao' t ⟨hr,mr⟩ (f1 z) (w1 z)
 rintro m ⟨hr,j⟩
 refine sr<|yw0 (aM' z)<|yw0 (ag' ((v38' g.den d c)).toArray 1 W' z z z (aq' ((v38' g.num f e)) ((v38' g.den d c)) ([])))<|oE hr fun D x hr=>T' z z (k' E125 z) (bP' x) z ((h.mono j)) ?_
 cases D
 .refine mw0 z<|gy z z (aT' z) z<|gy z z (ag' ((v38' g.num f e)).toArray 1 W' z z z (aq' ([]) ((v38' g.num f e)) ((v38' g.den d c)))) z<|gy z z (aM' z) z<|gy z z (ag' ((v38' g.den d c)).toArray 1 W' z z z (aq' ((v38' g.num f e)) ((v38' g.den d c)) ([]))) z<|oE hr fun L n hr=>y' (as' z z) z (k' E63 z) (cO' n) z (⟨(i.mono j),(h.mono j)⟩) (fun K P H l=>?_)
  obtain⟨A,y,rfl,k⟩:=l
  refine oE hr fun O s hr=>T' (as' z z) z (k' E125 z) (bP' s) z (k)<|pf00 z<|sx1 z<|q' (k0' hr z z)
 refine mw0 z<|sn6 z<|pt00 z<|sx1 z<|q' (k0' hr z z)
theorem dJ'{i r}(hr:(Zb8 i).Ret r):Ctr prog 94 #[.agg (vi8 i).toArray] (fun G=>True) (fun G v=>v = .bool r):=by
 refine B' (args:=[_]) (N:=16) func94 z z z fun k f q o=>sr<|ah' 1 z z z fun s=>sx1 z<|c'<|sr<|yw0 (C' 1 bt' z z (an' _ _ _))<|mw0 z<|nx<|aa' (X:=Int×Mem) hr (fun ⟨c,d⟩=>⟨c,[(5,.agg (vi8 i).toArray),(6,i' c)],Mem.le f d,St k f d []⟩) (fun (p:Mem)=>match p with|g=>⟨(.inr ()),[],Mem.le f g,St k f g []⟩) ⟨0,f⟩ z (fz0 z) mr (wk ln) ?_ ?_
 .rintro _ ⟨c,d⟩ e hr
  refine sr<|ls0 z<|nx<|c'<|I' hr z (fun m hr=>?_) (fun m hr=>?_)
  .refine t'<|b'<|c'<|U'<|sr<|oA hr fun h hr=>yw0 (Y0.index av' sc3 sz3 z z h (br' _ _ _ h))<|sw0 z<|nr<|mw0 z<|aQ' hr z (ae' z z) z (fun l hr=>?_) (fun l hr=>?_)
   .refine mw0 z<|sn2 z<|pt00 z<|nx<|aR' z<|sr<|sx1 z<|q'<|H'<|j'<|j'<|H'<|az'<|j' (k0' hr z z)
   refine mw0 z<|gm0 z<|gy z z (aL' z z) z<|pf00 z<|nx<|I' hr z (fun j hr=>?_) (fun j hr=>?_)
   .exact (show False from hr).elim
   refine t'<|E'<|b'<|w'<|ad0 z<|mw0 z<|p'<|O' ⟨i64.wrap (c+1),d⟩ hr e (fz0 z) (wk ln)
  refine Z'<|f'<|f'<|F'<|ab' d ⟨hr,e⟩ fn (wk ln)
 rintro g ⟨hr,n⟩
 refine b'<|sr<|sx1 z<|q' (k0' hr z z)
theorem dr'{o q p r}(hr:(Zbt o).Ret r):Ctr prog 60 #[sv0 q o p] (fun G=>sl g' G q p o) (fun G v=>v = .bool r):=by
 refine B' (args:=[_]) (N:=43) func60 z z z (fun H y ab I=>?_)
 have t:=I
 refine sr<|sx1 z<|c'<|sr<|mw0 z<|yw0 (D' N' t z)<|mw0 z<|nx<|aa' (X:=Int×Mem) hr (fun ⟨l,n⟩=>⟨l,[(0,sv0 q o p),(5,sv0 q o p),(6,i' (o.length:Int)),(7,i' l)],Mem.le y n,St H y n []⟩) (fun (J:Mem)=>match J with|A=>⟨(.inr ()),[],Mem.le y A,St H y A []⟩) ⟨0,y⟩ z (fz0 z) mr (wk ln) ?_ ?_
 .rintro _ ⟨l,n⟩ k hr
  refine sr<|ls0 z<|nx<|c'<|I' hr z (fun V hr=>?_) (fun V hr=>?_)
  .refine t'<|b'<|c'<|U'<|sr<|mw0 z<|oE hr fun g C hr=>yw0 (Q' N' by' (t.mono k) z z C) ?_
   obtain⟨d,f,e,c,R,i,j⟩:=bB' (M' (ad' t C) k)
   refine yw0 (aP' _ ag91 z z R)<|P' 4 z z91 z fun L=>sw0 z<|x' 4 z by' z z z z z (fun u Q=>Rp.one g' (G:=n) (x:=g) (cs:=((v40' g.c d f e c):List Value)++(vi8 g.m)) ⟨(v40' g.c d f e c),vi8 g.m,z,⟨(v38' g.c.num d f),(v38' g.c.den e c),z,⟨[.bool g.c.num.neg],[sv0 d g.c.num.mag f],z,z,⟨_,z,i⟩⟩,⟨[.bool g.c.den.neg],[sv0 e g.c.den.mag c],z,z,⟨_,z,j⟩⟩⟩,z⟩ u (by first|simpa using Q|simpa [Value.cells] using Q))<|nx<|aD' hr (fun (J:Mem)=>match J with|s=>⟨[(0,sv0 q o p),(3,i' l),(4,pt0 L),(5,sv0 q o p),(6,i' (o.length:Int)),(7,i' l)],ZaS o l g,Mem.le n s,St H y s [(4,bk0 L (((v40' g.c d f e c):List Value)++(vi8 g.m)) 91)]⟩) ?_ ?_
   .refine sr<|yw0 (bu' z)<|yw0 (ag' ((v40' g.c d f e c)).toArray 4 aN' z z z (aq' ([]) ((v40' g.c d f e c)) ((vi8 g.m))))<|oE hr fun M D hr=>T' z z (k' E93 z) (eJ' D) z (⟨i,j⟩) ?_
    cases M
    .refine yw0 (bf' z)<|mw0 z<|sn4 z<|pt00 z<|mw0 z<|sn4 z<|pt00 z<|nx<|aR' z<|sr<|sx1 z<|q'<|j'<|H'<|j'<|j'<|H'<|az'<|j' (k0' hr z z)
    refine yw0 (bf' z)<|mw0 z<|gy z z (bu' z) z<|gy z z (ag' ((v40' g.c d f e c)).toArray 4 aN' z z z (aq' ([]) ((v40' g.c d f e c)) ((vi8 g.m)))) z<|oE hr fun aa F hr=>T' (as' z z) z (k' E66 z) (bK' F) z (⟨i,j⟩)<|aQ' hr (as' z z) (aK' z z) z (fun S hr=>?_) (fun S hr=>?_)
    .refine pf00 z<|mw0 z<|sn4 z<|pt00 z<|nx<|aR' z<|sr<|sx1 z<|q'<|j'<|H'<|j'<|j'<|H'<|az'<|j' (k0' hr z z)
    refine pf00 z<|mw0 z<|gy z z (bb' z) z<|gy z z (ag' (vi8 g.m).toArray 4 bt' z z (an' _ _ _) (aq' ((v40' g.c d f e c)) (vi8 g.m) ([]))) z<|oE hr fun Y E hr=>T' (as' z z) z (k' E94 z) (dJ' E) z (trivial)<|gy z z (bf' z) z<|pf00 z<|nx<|aX' hr z (fun U hr=>?_) (fun U hr=>?_)
    .refine sr<|sx1 z<|q'<|j'<|H'<|j'<|j'<|H'<|az'<|j' (k0' hr z z)
    refine t'<|ao' n ⟨hr,mr⟩ (fz0 z) (w1 z)
   rintro s ⟨hr,m⟩
   refine c'<|aj' [ff,ff,ff,ff,ff,ff,ff,ff,ff,ff,ff] mix (by kernel_rfl) fun O=>cm0 z<|bX' hr z (fun _ h=>aL' z z) (fun T hr=>?_) (fun T hr=>?_)
   .refine cm0 z<|cy z z (fun _ h=>n' z)<|cy z z (fun _ h=>n' z)<|cy z z (fun _ h=>ap' z z)<|oE hr fun x2 B hr=>cy z z (fun _ h=>Q' N' by' ((t.mono (mx k m)).mono h) z z B)<|cy z z (fun _ h=>bb' z)<|cy z z (fun _ h=>aP' _ bt' z (an' _ _ _) (AtK.vec (M' (M' (cS' (bW' (ad' t B))) (mx k m)) h)))<|cy z z (fun _ h=>bb' z)<|cy z z (fun _ h=>ag' (vi8 g.m).toArray 4 bt' z z (an' _ _ _) (aq' ((v40' g.c d f e c)) (vi8 g.m) ([])))<|am' O<|oE hr fun Z K hr=>T' (as' z z) z (k' E95 z) (dk' K) z (trivial)<|gy z z (bF' z z) z<|pt00 z<|p'<|ar'<|b'<|I' hr z (fun P hr=>?_) (fun P hr=>?_)
    .exact (show False from hr).elim
    refine t'<|E'<|b'<|w'<|ad0 z<|mw0 z<|p'<|O' ⟨i64.wrap (l+1),s⟩ hr (mx k m) (fz0 z) (wk ln)
   refine cm0 z<|ct z z<|ct z z<|ct z z<|ct z z<|ct z z<|ct z z<|ct z z<|ct z z<|am' O<|sn2 z<|pf00 z<|p'<|ar'<|b'<|bJ' z<|t'<|E'<|b'<|w'<|ad0 z<|mw0 z<|p'<|O' ⟨i64.wrap (l+1),s⟩ hr (mx k m) (fz0 z) (wk ln)
  refine Z'<|f'<|f'<|F'<|ab' n ⟨hr,k⟩ fn (wk ln)
 rintro A ⟨hr,W⟩
 refine b'<|sr<|sx1 z<|q' (k0' hr z z)
theorem eu'{j r}(hr:(ZcB j).Ret r):Ctr prog 96 #[.agg (vi8 j).toArray] (fun G=>True) (fun G v=>v = .int .u8 r):=by
 refine B' (args:=[_]) (N:=19) func96 z z z fun n g s q=>sr<|ah' 1 z z z fun t=>sw0 z<|nr<|sx1 z<|c'<|sr<|yw0 (C' 1 bt' z z (an' _ _ _))<|mw0 z<|nx<|aa' (X:=Int×Int×Mem) hr (fun ⟨f,c,d⟩=>⟨(f,c),[(3,.int .u8 f),(6,.agg (vi8 j).toArray),(7,i' c)],Mem.le g d,St n g d []⟩) (fun (⟨k,h⟩:Int×Mem)=>⟨k,[(3,.int .u8 k)],Mem.le g h,St n g h []⟩) ⟨0,0,g⟩ z (fz0 z) mr (wk ln) ?_ ?_
 .rintro _ ⟨f,c,d⟩ e hr
  refine sr<|ls0 z<|nx<|c'<|I' hr z (fun o hr=>?_) (fun o hr=>?_)
  .refine t'<|b'<|c'<|U'<|sr<|mw0 z<|oA hr fun i hr=>yw0 (Y0.index av' sc3 sz3 z z i (br' _ _ _ i))<|sw0 z<|sw0 z<|nr<|mw0 z<|yw0 (aL' z z)<|nx<|I' hr z (fun m hr=>?_) (fun m hr=>?_)
   .refine w'<|mw0 z<|mw0 z<|oA hr fun l hr=>yw0 (Y0.shl z z l)<|yw0 (Y0.or z z)<|sw0 z<|p'<|E'<|b'<|w'<|ad0 z<|mw0 z<|p'<|O' ⟨u8.wrap (BitVec.ofInt u8.bits f ||| BitVec.ofInt u8.bits (u8.wrap (1*2 ^ (min (c).toNat u8.bits)))).toNat,i64.wrap (c+1),d⟩ hr e (fz0 z) (wk ln)
   refine t'<|E'<|b'<|w'<|ad0 z<|mw0 z<|p'<|O' ⟨f,i64.wrap (c+1),d⟩ hr e (fz0 z) (wk ln)
  refine Z'<|f'<|f'<|F'<|ab' ⟨f,d⟩ ⟨hr,e⟩ (f1 z) (wk ln)
 rintro⟨k,h⟩ ⟨hr,p⟩
 refine b'<|sr<|mw0 z<|sx1 z<|q' (k0' hr z z)
theorem dz'{o q p r}(hr:(ZbN o).Ret r):Ctr prog 61 #[sv0 q o p] (fun G=>sl g' G q p o) (fun G v=>v = .int .u8 r):=by
 refine B' (args:=[_]) (N:=19) func61 z z z (fun E n K B=>?_)
 have t:=B
 refine sr<|sw0 z<|nr<|sx1 z<|c'<|sr<|mw0 z<|yw0 (D' N' t z)<|mw0 z<|nx<|aa' (X:=Int×Int×Mem) hr (fun ⟨m,l,i⟩=>⟨(m,l),[(3,.int .u8 m),(6,sv0 q o p),(7,i' (o.length:Int)),(8,i' l)],Mem.le n i,St E n i []⟩) (fun (⟨A,s⟩:Int×Mem)=>⟨A,[(3,.int .u8 A)],Mem.le n s,St E n s []⟩) ⟨0,0,n⟩ z (fz0 z) mr (wk ln) ?_ ?_
 .rintro _ ⟨m,l,i⟩ h hr
  refine sr<|ls0 z<|nx<|c'<|I' hr z (fun I hr=>?_) (fun I hr=>?_)
  .refine t'<|b'<|c'<|U'<|sr<|oE hr fun g y hr=>yw0 (Q' N' by' (t.mono h) z z y) ?_
   obtain⟨d,f,e,c,H,j,k⟩:=bB' (M' (ad' t y) h)
   refine yw0 (aP' _ ag91 z z H)<|P' 5 z z91 z fun L=>x' 5 z by' z z z z z (fun u F=>Rp.one g' (G:=i) (x:=g) (cs:=((v40' g.c d f e c):List Value)++(vi8 g.m)) ⟨(v40' g.c d f e c),vi8 g.m,z,⟨(v38' g.c.num d f),(v38' g.c.den e c),z,⟨[.bool g.c.num.neg],[sv0 d g.c.num.mag f],z,z,⟨_,z,j⟩⟩,⟨[.bool g.c.den.neg],[sv0 e g.c.den.mag c],z,z,⟨_,z,k⟩⟩⟩,z⟩ u (by first|simpa using F|simpa [Value.cells] using F))<|nx<|w'<|mw0 z<|yw0 (bb' z)<|yw0 (ag' (vi8 g.m).toArray 5 bt' z z (an' _ _ _) (aq' ((v40' g.c d f e c)) (vi8 g.m) ([])))<|oE hr fun D C hr=>T' z z (k' E96 z) (eu' C) z (trivial)<|yw0 (Y0.or z z)<|sw0 z<|p'<|E'<|b'<|w'<|ad0 z<|mw0 z<|p'<|O' ⟨u8.wrap (BitVec.ofInt u8.bits m ||| BitVec.ofInt u8.bits D).toNat,i64.wrap (l+1),i⟩ hr h (fz0 z) (wk ln)
  refine Z'<|f'<|f'<|F'<|ab' ⟨m,i⟩ ⟨hr,h⟩ (f1 z) (wk ln)
 rintro⟨A,s⟩ ⟨hr,J⟩
 refine b'<|sr<|mw0 z<|sx1 z<|q' (k0' hr z z)
theorem eA'{i r}(hr:(ZcZ i).Ret r):Ctr prog 71 #[.agg (vi8 i).toArray] (fun G=>True) (fun G v=>v=i' r):=by
 refine B' (args:=[_]) (N:=15) func71 z z z fun l h p o=>sr<|ah' 1 z z z fun q=>sw0 z<|nr<|sx1 z<|c'<|sr<|yw0 (C' 1 bt' z z (an' _ _ _))<|mw0 z<|nx<|aa' (X:=Int×Int×Mem) hr (fun ⟨f,c,d⟩=>⟨(f,c),[(3,i' f),(6,.agg (vi8 i).toArray),(7,i' c)],Mem.le h d,St l h d []⟩) (fun (⟨k,g⟩:Int×Mem)=>⟨k,[(3,i' k)],Mem.le h g,St l h g []⟩) ⟨0,0,h⟩ z (fz0 z) mr (wk ln) ?_ ?_
 .rintro _ ⟨f,c,d⟩ e hr
  refine sr<|ls0 z<|nx<|c'<|I' hr z (fun m hr=>?_) (fun m hr=>?_)
  .refine t'<|b'<|c'<|U'<|sr<|oA hr fun j hr=>yw0 (Y0.index av' sc3 sz3 z z j (br' _ _ _ j))<|sx1 z<|w'<|mw0 z<|mw0 z<|ad0 z<|sw0 z<|p'<|E'<|b'<|w'<|ad0 z<|mw0 z<|p'<|O' ⟨i64.wrap (f+(getF i c)),i64.wrap (c+1),d⟩ hr e (fz0 z) (wk ln)
  refine Z'<|f'<|f'<|F'<|ab' ⟨f,d⟩ ⟨hr,e⟩ (f1 z) (wk ln)
 rintro⟨k,g⟩ ⟨hr,n⟩
 refine b'<|sr<|mw0 z<|sx1 z<|q' (k0' hr z z)
theorem cg'{o q p r}(hr:(Zai o).Ret r):Ctr prog 34 #[sv0 q o p] (fun G=>sl g' G q p o) (fun G v=>v=i' r):=by
 refine B' (args:=[_]) (N:=19) func34 z z z (fun E n K C=>?_)
 have t:=C
 refine sr<|sw0 z<|nr<|sx1 z<|c'<|sr<|mw0 z<|yw0 (D' N' t z)<|mw0 z<|nx<|aa' (X:=Int×Int×Mem) hr (fun ⟨m,l,i⟩=>⟨(m,l),[(3,i' m),(6,sv0 q o p),(7,i' (o.length:Int)),(8,i' l)],Mem.le n i,St E n i []⟩) (fun (⟨B,s⟩:Int×Mem)=>⟨B,[(3,i' B)],Mem.le n s,St E n s []⟩) ⟨(-1),0,n⟩ z (fz0 z) mr (wk ln) ?_ ?_
 .rintro _ ⟨m,l,i⟩ h hr
  refine sr<|ls0 z<|nx<|c'<|I' hr z (fun I hr=>?_) (fun I hr=>?_)
  .refine t'<|b'<|c'<|U'<|sr<|oE hr fun g A hr=>yw0 (Q' N' by' (t.mono h) z z A) ?_
   obtain⟨d,f,e,c,H,j,k⟩:=bB' (M' (ad' t A) h)
   refine yw0 (aP' _ ag91 z z H)<|P' 5 z z91 z fun L=>x' 5 z by' z z z z z (fun u F=>Rp.one g' (G:=i) (x:=g) (cs:=((v40' g.c d f e c):List Value)++(vi8 g.m)) ⟨(v40' g.c d f e c),vi8 g.m,z,⟨(v38' g.c.num d f),(v38' g.c.den e c),z,⟨[.bool g.c.num.neg],[sv0 d g.c.num.mag f],z,z,⟨_,z,j⟩⟩,⟨[.bool g.c.den.neg],[sv0 e g.c.den.mag c],z,z,⟨_,z,k⟩⟩⟩,z⟩ u (by first|simpa using F|simpa [Value.cells] using F))<|nx<|w'<|mw0 z<|yw0 (bb' z)<|yw0 (ag' (vi8 g.m).toArray 5 bt' z z (an' _ _ _) (aq' ((v40' g.c d f e c)) (vi8 g.m) ([])))<|oE hr fun y D hr=>T' z z (k' E71 z) (eA' D) z (trivial)<|yw0 (Y0.max2 z z)<|sw0 z<|p'<|E'<|b'<|w'<|ad0 z<|mw0 z<|p'<|O' ⟨if m<y then y else m,i64.wrap (l+1),i⟩ hr h (fz0 z) (wk ln)
  refine Z'<|f'<|f'<|F'<|ab' ⟨m,i⟩ ⟨hr,h⟩ (f1 z) (wk ln)
 rintro⟨B,s⟩ ⟨hr,J⟩
 refine b'<|sr<|mw0 z<|sx1 z<|q' (k0' hr z z)
theorem cQ'{h p x g f d e k j r}(hr:(_eliminant_claim_rules_bounded h p x).Ret r):Ctr prog 159 #[.agg ((v46' h.k g f d e)).toArray,sv0 k p j,i' x] (fun G=>sl (Rp.sl g') G g f h.k.eqs/\sl (Rp.sl g') G d e h.k.neqs/\sl g' G k j p) (fun G v=>v = .bool r):=by
 refine B' (args:=[_,_,_]) (N:=25) func159 z z z (fun I H E s=>?_)
 obtain⟨q,l,i⟩:=s
 refine sr<|ah' 3 z z z fun F=>sx1 z<|c'<|aj' [ff,ff,ff,ff,ff,ff,ff,ff,ff,ff,ff,ff,ff,ff,ff,ff] mix (by kernel_rfl) fun n=>cm0 z<|oE hr fun y t hr=>bR' z (fun _=>k' E60 z) (dr' t) z (fun u c=>(i.mono c)) ?_
 cases y
 .refine cm0 z<|ct z z<|ct z z<|ct z z<|ct z z<|ct z z<|ct z z<|ct z z<|ct z z<|cn (fun _ c=>X' z z)<|cm0 z<|ct z z<|ct z z<|ct z z<|am' n<|sk z z z<|pf00 z<|sw0 z<|p'<|ar'<|b'<|q' (k0' hr z z)
 refine cm0 z<|cy z z (fun _ c=>n' z)<|oE hr fun C m hr=>bR' (as' z z) (fun _=>k' E61 z) (dz' m) z (fun u c=>(i.mono c))<|cy z z (fun _ c=>K' aJ' aC' z)<|cy z z (fun _ c=>dF' z)<|cy z z (fun _ c=>Y0.Zeo z)<|cy z z (fun _ c=>A' 3 sc3 z z z)<|oA hr fun A hr=>cy z z (fun _ c=>bH' z z A)<|bX' hr (as' z z) (fun _ c=>aK' z z) (fun B hr=>?_) (fun B hr=>?_)
 .refine cn (fun _ c=>V' z z)<|cm0 z<|cy z z (fun _ c=>n' z)<|oE hr fun D o hr=>bR' (as' z z) (fun _=>k' E34 z) (cg' o) z (fun u c=>(i.mono c))<|cy z z (fun _ c=>n' z)<|am' n<|gy z z (bF' z z) z<|pt00 z<|sw0 z<|p'<|ar'<|b'<|q' (k0' hr z z)
 refine cn (fun _ c=>V' z z)<|cm0 z<|ct z z<|ct z z<|ct z z<|am' n<|sk z z z<|pf00 z<|sw0 z<|p'<|ar'<|b'<|q' (k0' hr z z)
theorem cR'{C B d c f e r}(hr:(Zbb C B).Ret r):Ctr prog 64 #[.agg ((v38' C d c)).toArray,.agg ((v38' B f e)).toArray] (fun G=>sl (Rp.int .u32) G d c C.mag/\sl (Rp.int .u32) G f e B.mag) (fun G v=>∃ k l j h,v = .tuple #[.agg ((v38' r.1 k l)).toArray,.agg ((v38' r.2.1 j h)).toArray,i' r.2.2]/\sl (Rp.int .u32) G k l r.1.mag/\sl (Rp.int .u32) G j h r.2.1.mag):=by
 refine B' (args:=[_,_]) (N:=47) func64 z z z (fun w0 G0 aD ag=>?_)
 obtain⟨S,s⟩:=ag
 refine sr<|ah' 2 z z z fun Y=>ah' 3 z z z fun T=>P' 4 z z38 z fun Z=>P' 5 z z38 z fun U=>sx1 z<|c'<|sr<|yw0 (ai' z)<|yw0 (A' 3 aE' z z z)<|oE hr fun aH ab hr=>y' z z (k' E100 z) (bp' ab) z (s) (fun az aG H J=>?_)
 obtain⟨aA,av,rfl,ad⟩:=J
 refine yw0 (D' a' ad z)<|yw0 (aK' z z)<|nx<|I' hr z (fun aq hr=>?_) (fun aq hr=>?_)
 .exact (show False from hr).elim
 refine t'<|b'<|sr<|yw0 (ai' z)<|yw0 (A' 2 aE' z z z)<|yw0 (ai' z)<|yw0 (A' 3 aE' z z z)<|oE hr fun g ac hr=>y' z z (k' E102 z) (dI' ac) z (⟨(S.mono H),(s.mono H)⟩) (fun ay D ar O=>?_)
 obtain⟨u,p,q,t,rfl,P,o⟩:=O
 refine mw0 z<|ex0 z<|ex0 z<|sw0 z<|sx1 z<|aD' hr (fun (⟨W,Q,R,E,A,y,x⟩:(List Int)×Option Addr×Nat×(List Int)×Option Addr×Nat×Mem)=>⟨[(2,pt0 Y),(3,pt0 T),(4,pt0 Z),(5,pt0 U),(7,sv0 Q W R),(8,sv0 A E y)],Zd7 C B W E,Mem.le D x/\sl (Rp.int .u32) x Q R W/\sl (Rp.int .u32) x A y E,St w0 G0 x [(2,bk0 Y (v38' C d c) 38),(3,bk0 T (v38' B f e) 38),(4,bk0 Z ([.bool false,.slice none 0 0]) 38),(5,bk0 U ([.bool false,.slice none 0 0]) 38)]⟩) ?_ ?_
 .refine aD' hr (fun (⟨n,F⟩:Bool×Mem)=>⟨[(2,pt0 Y),(3,pt0 T),(4,pt0 Z),(5,pt0 U),(7,sv0 u g.1 p),(8,sv0 q g.2 t),(30,.bool n)],Zcg C B g n,Mem.le D F,St w0 G0 F [(2,bk0 Y (v38' C d c) 38),(3,bk0 T (v38' B f e) 38),(4,bk0 Z ([.bool false,.slice none 0 0]) 38),(5,bk0 U ([.bool false,.slice none 0 0]) 38)]⟩) ?_ ?_
  .refine w'<|yw0 (aw' z)<|aQ' hr z (Y0.eq (A' 2 sc4 z z z) (congrArg Value.bool (bdec _))) z (fun ap hr=>?_) (fun ap hr=>?_)
   .refine mw0 z<|gm0 z<|gy z z (D' a' o z) z<|gy z z (aL' z z) z<|pt00 z<|p'<|ao' ⟨decide (0<(g.2.length:Int)),D⟩ ⟨hr,mr⟩ (fz0 z) (w4 z z z z)
   refine mw0 z<|sn3 z<|pf00 z<|p'<|ao' ⟨false,D⟩ ⟨hr,mr⟩ (fz0 z) (w4 z z z z)
  rintro⟨n,F⟩ ⟨hr,m⟩
  refine aX' hr z (fun al hr=>?_) (fun al hr=>?_)
  .exact (show False from hr).elim
  refine t'<|ao' ⟨g.1,u,p,g.2,q,t,F⟩ ⟨hr,m,(P.mono m),(o.mono m)⟩ (fz0 z) (w4 z z z z)
 rintro⟨W,Q,R,E,A,y,x⟩ ⟨hr,au,an,af⟩
 refine sr<|yw0 (aw' z)<|yw0 (A' 2 sc4 z z z)<|yw0 (aw' z)<|yw0 (A' 3 sc4 z z z)<|yw0 (dm' ba' z z)<|mw0 z<|oE hr fun aE ae hr=>y' z z (k' E97 z) (bg' ae) z (an) (fun aw aF X L=>?_)
 obtain⟨aj,ah,rfl,M⟩:=L
 refine mw0 z<|oE hr fun aB aa hr=>y' z z (k' E97 z) (bg' aa) z ((af.mono X)) (fun ax aC V K=>?_)
 obtain⟨ai,ak,rfl,I⟩:=K
 refine stB 4 aA' z<|stB 5 aA' z<|sx1 z<|q' ?_
 obtain rfl:_=r:=hr
 exact WE.ret3 z (af' (i:=4) W' z z z) (af' (i:=5) W' z z z) z ⟨_,_,_,_,z,(M.mono V),I⟩
theorem cp'{q p e c f d r}(hr:(ZbO q p).Ret r):Ctr prog 89 #[.agg ((v38' q e c)).toArray,.agg ((v38' p f d)).toArray] (fun G=>sl (Rp.int .u32) G e c q.mag/\sl (Rp.int .u32) G f d p.mag) (w40' r):=by
 refine B' (args:=[_,_]) (N:=36) func89 z z z (fun w0 G0 af Q=>?_)
 obtain⟨h,g⟩:=Q
 refine sr<|ah' 2 z z z fun b1=>ah' 3 z z z fun b2=>P' 4 z z40 z fun b3=>nx<|c'<|sr<|yw0 (C' 3 W' z z z)<|oE hr fun aa R hr=>T' z z (k' E125 z) (bP' R) z (g)<|nx<|aX' hr z (fun V hr=>?_) (fun V hr=>?_)
 .refine sr<|yw0 (C' 2 W' z z z)<|yw0 (C' 3 W' z z z)<|yw0 (ax' (vs:=#[(0,.agg ((v38' q e c)).toArray),(1,.agg ((v38' p f d)).toArray)]) (v:=.agg ([.bool q.neg,sv0 e q.mag c,.bool p.neg,sv0 f p.mag d]).toArray) z z (fun _=>by kernel_rfl))<|stB 4 bk' z<|nx<|q'<|j' ?_
  obtain rfl:_=r:=hr
  exact o' z (af' (i:=4) aN' z z z) ⟨_,_,_,_,z,h,g⟩
 refine t'<|b'<|sr<|yw0 (C' 2 W' z z z)<|yw0 (C' 3 W' z z z)<|oE hr fun Z L hr=>y' z z (k' E63 z) (cO' L) z (⟨h,g⟩) (fun Y ad o A=>?_)
 obtain⟨T,S,rfl,j⟩:=A
 refine P' 5 z z38 z fun b4=>stB 5 aA' z<|nx<|c'<|sr<|yw0 (C' 5 W' z z z)<|oE hr fun ac P hr=>T' z z (k' E125 z) (bP' P) z (j)<|nx<|aX' hr z (fun U hr=>?_) (fun U hr=>?_)
 .refine sr<|yw0 (C' 2 W' z z z)<|yw0 (C' 3 W' z z z)<|yw0 (ax' (vs:=#[(0,.agg ((v38' q e c)).toArray),(1,.agg ((v38' p f d)).toArray)]) (v:=.agg ([.bool q.neg,sv0 e q.mag c,.bool p.neg,sv0 f p.mag d]).toArray) z z (fun _=>by kernel_rfl))<|stB 4 bk' z<|nx<|q'<|j' ?_
  obtain rfl:_=r:=hr
  exact o' z (af' (i:=4) aN' z z z) ⟨_,_,_,_,z,(h.mono o),(g.mono o)⟩
 refine t'<|b'<|sr<|yw0 (C' 2 W' z z z)<|yw0 (C' 5 W' z z z)<|oE hr fun B O hr=>y' z z (k' E64 z) (cR' O) z (⟨(h.mono o),j⟩) (fun W ab u y=>?_)
 obtain⟨n,m,I,J,rfl,s,K⟩:=y
 refine mw0 z<|ex0 z<|ex0 z<|ex0 z<|stB 2 aA' z<|nr<|yw0 (C' 3 W' z z z)<|yw0 (C' 5 W' z z z)<|oE hr fun C M hr=>y' z z (k' E64 z) (cR' M) z (⟨(g.mono (mx o u)),(j.mono u)⟩) (fun X ae D x=>?_)
 obtain⟨l,k,E,H,rfl,t,F⟩:=x
 refine mw0 z<|ex0 z<|ex0 z<|ex0 z<|stB 3 aA' z<|nr<|yw0 (C' 2 W' z z z)<|yw0 (C' 3 W' z z z)<|yw0 (ax' (vs:=#[(0,.agg ((v38' B.1 n m)).toArray),(1,.agg ((v38' C.1 l k)).toArray)]) (v:=.agg ([.bool B.1.neg,sv0 n B.1.mag m,.bool C.1.neg,sv0 l C.1.mag k]).toArray) z z (fun _=>by kernel_rfl))<|stB 4 bk' z<|nx<|q' ?_
 obtain rfl:_=r:=hr
 exact o' z (af' (i:=4) aN' z z z) ⟨_,_,_,_,z,(s.mono D),t⟩
theorem eY'{v t h f j g r}(hr:(Zdb v t).Ret r):Ctr prog 68 #[.agg ((v38' v h f)).toArray,.agg ((v38' t j g)).toArray] (fun G=>sl (Rp.int .u32) G h f v.mag/\sl (Rp.int .u32) G j g t.mag) (w40t' r):=by
 refine B' (args:=[_,_]) (N:=21) func68 z z z (fun M L I u=>?_)
 obtain⟨l,c⟩:=u
 refine sr<|ah' 2 z z z fun J=>ah' 3 z z z fun O=>P' 4 z z40 z fun K=>sx1 z<|c'<|sr<|yw0 (C' 3 W' z z z)<|oE hr fun E x hr=>T' z z (k' E106 z) (cd' x) z (c)<|yw0 (aK' z z)<|nx<|I' hr z (fun A hr=>?_) (fun A hr=>?_)
 .exact (show False from hr).elim
 refine t'<|b'<|c'<|sr<|yw0 (C' 3 W' z z z)<|oE hr fun D q hr=>T' z z (k' E106 z) (cd' q) z (c)<|ls0 z<|nx<|I' hr z (fun y hr=>?_) (fun y hr=>?_)
 .exact (show False from hr).elim
 refine t'<|b'<|sr<|yw0 (C' 2 W' z z z)<|yw0 (C' 3 W' z z z)<|oE hr fun F s hr=>y' z z (k' E89 z) (cp' s) z (⟨l,c⟩) (fun C H B k=>?_)
 obtain⟨p,n,o,m,rfl,e,d⟩:=k
 refine stB 4 bk' z<|sx1 z<|q' ?_
 obtain rfl:_=r:=hr
 exact aW' z (af' (i:=4) aN' z z z) z ⟨_,_,_,_,z,e,d⟩
theorem eZ'{q k r}(hr:(Zes q k).Ret r):Ctr prog 107 #[.agg (vi8 q).toArray,.agg (vi8 k).toArray] (fun G=>True) (fun G v=>v = .tuple #[.agg (vi8 r.1).toArray,i' r.2]):=by
 refine B' (args:=[_,_]) (N:=24) func107 z z z fun A l J H=>sr<|ah' 2 z z z fun m=>ah' 3 z z z fun t=>P' 4 z z77 z fun n=>sx1 z<|c'<|sr<|mw0 z<|nx<|aa' (X:=Int×(Fin 8->Int)×Mem) hr (fun ⟨c,d,f⟩=>⟨(c,d),[(2,pt0 m),(3,pt0 t),(4,pt0 n),(7,i' c)],Mem.le l f,St A l f [(2,bk0 m (vi8 d) 77),(3,bk0 t (vi8 k) 77),(4,bk0 n (vi8 (fun _=>0)) 77)]⟩) (fun (⟨e,h⟩:(Fin 8->Int)×Mem)=>⟨e,[(2,pt0 m),(4,pt0 n)],Mem.le l h,St A l h [(2,bk0 m (vi8 e) 77),(4,bk0 n (vi8 (fun _=>0)) 77)]⟩) ⟨0,q,l⟩ z (fz0 z) mr (w3 z z z) ?_ ?_
 .rintro _ ⟨c,d,f⟩ j hr
  refine sr<|ls0 z<|nx<|c'<|I' hr z (fun y hr=>?_) (fun y hr=>?_)
  .refine t'<|b'<|c'<|U'<|sr<|mw0 z<|sx1 z<|aj' [ff,ff,ff,ff,ff,ff] mix (by kernel_rfl) fun F=>cm0 z<|oA hr fun o hr=>cn (fun _ g=>bn' av' sz3 z z o)<|cn (fun _ g=>A' 2 sc3 z z (br' _ _ _ o))<|cm0 z<|oA hr fun p hr=>cn (fun _ g=>bn' av' sz3 z z p)<|cn (fun _ g=>A' 3 sc3 z z (br' _ _ _ p))<|am' F<|ad0 z<|oA hr fun C hr=>yw0 (bn' av' sz3 z z C)<|cr' 2 (vi8 (setF d c.toNat (i64.wrap ((getF d c)+(getF k c))))).toArray z sz3 z z z (by first|(rw[an']; omega)|(show _<(vecG _ _ _).toArray.size; rw[an']; omega)) z (Za5 _ _ _ _ _)<|p'<|ar'<|E'<|b'<|w'<|ad0 z<|mw0 z<|p'<|O' ⟨i64.wrap (c+1),setF d c.toNat (i64.wrap ((getF d c)+(getF k c))),f⟩ hr j (fz0 z) (w3 z z z)
  refine Z'<|f'<|f'<|F'<|ab' ⟨d,f⟩ ⟨hr,j⟩ (fz0 z) (w2 z z)
 rintro⟨e,h⟩ ⟨hr,E⟩
 refine b'<|c'<|sr<|yw0 (C' 2 bt' z z (an' _ _ _))<|oE hr fun I s hr=>T' z z (k' E94 z) (dJ' s) z (trivial)<|yw0 (bf' z)<|nx<|aX' hr z (fun D hr=>?_) (fun D hr=>?_)
 .exact (show False from hr).elim
 refine t'<|b'<|sr<|yw0 (C' 2 bt' z z (an' _ _ _))<|x' 4 z sz77 z z z (an' _ _ _) (an' _ _ _) (fun u B=>Rp.one (Rp.vec .i64 8) (G:=h) (x:=e) (cs:=vi8 e) z u (by first|simpa using B|simpa [Value.cells] using B))<|sx1 z<|q' ?_
 obtain rfl:_=r:=hr
 exact aW' z (af' (i:=4) bt' z z (an' _ _ _)) z z
theorem fa'{K J t C x D s A y B r}(hr:(ZaO K J).Ret r):Ctr prog 54 #[.agg ((v40' K t C x D)).toArray,.agg ((v40' J s A y B)).toArray] (fun G=>sl (Rp.int .u32) G t C K.num.mag/\sl (Rp.int .u32) G x D K.den.mag/\sl (Rp.int .u32) G s A J.num.mag/\sl (Rp.int .u32) G y B J.den.mag) (w40' r):=by
 refine B' (args:=[_,_]) (N:=30) func54 z z z (fun w0 G0 aH aw=>?_)
 obtain⟨T,W,U,V⟩:=aw
 refine sr<|ah' 2 z z z fun b2=>ah' 3 z z z fun b3=>P' 4 z z40 z fun b4=>nr<|yw0 (aT' z)<|yw0 (ag' ((v38' K.num t C)).toArray 2 W' z z z (aq' ([]) ((v38' K.num t C)) ((v38' K.den x D))))<|yw0 (aM' z)<|yw0 (ag' ((v38' J.den y B)).toArray 3 W' z z z (aq' ((v38' J.num s A)) ((v38' J.den y B)) ([])))<|oE hr fun q ar hr=>y' z z (k' E89 z) (cp' ar) z (⟨T,V⟩) (fun aE aJ aa ac=>?_)
 obtain⟨o,n,l,m,rfl,P,O⟩:=ac
 refine P' 5 z z40 z fun b5=>stB 5 bk' z<|nr<|yw0 (aT' z)<|yw0 (ag' ((v38' J.num s A)).toArray 3 W' z z z (aq' ([]) ((v38' J.num s A)) ((v38' J.den y B))))<|yw0 (aM' z)<|yw0 (ag' ((v38' K.den x D)).toArray 2 W' z z z (aq' ((v38' K.num t C)) ((v38' K.den x D)) ([])))<|oE hr fun p au hr=>y' z z (k' E89 z) (cp' au) z (⟨(U.mono aa),(W.mono aa)⟩) (fun aD aG Z ah=>?_)
 obtain⟨c,j,g,k,rfl,R,Q⟩:=ah
 refine P' 6 z z40 z fun b6=>stB 6 bk' z<|nx<|c'<|aj' [ff,ff,ff,ff,ff,ff,ff,ff,ff,ff,ff] mix (by kernel_rfl) fun hb=>cn (fun _ E=>aT' z)<|cn (fun _ E=>ag' ((v38' q.num o n)).toArray 5 W' z z z (aq' ([]) ((v38' q.num o n)) ((v38' q.den l m))))<|cn (fun _ E=>aT' z)<|cn (fun _ E=>ag' ((v38' p.num c j)).toArray 6 W' z z z (aq' ([]) ((v38' p.num c j)) ((v38' p.den g k))))<|bD' (r:=aH') (e:=38) ([q.num,p.num]:List Zb) (fun _=>z) z (by decide) (fun u G' E hu=>?_) ?_
 .exact⟨#[(0,.agg ((v38' q.num o n)).toArray),(1,.agg ((v38' p.num c j)).toArray)],(v38' q.num o n)++((v38' p.num c j)++([])),z,z,fun _=>by kernel_rfl,⟨(v38' q.num o n),(v38' p.num c j)++([]),z,⟨[.bool q.num.neg],[sv0 o q.num.mag n],z,z,⟨_,z,((P.mono Z).mono E)⟩⟩,⟨(v38' p.num c j),[],z,⟨[.bool p.num.neg],[sv0 c p.num.mag j],z,z,⟨_,z,(R.mono E)⟩⟩,z⟩⟩⟩
 refine oE hr fun S ap hr=>bd' (f:=90) (φ:=w38' S) (fun _=>z) (fun v G1 G2 E h=>?_) (fun u G' E hu=>?_) ?_
 .obtain⟨H,I,rfl,F⟩:=h
  exact⟨_,_,z,F.mono E⟩
 .obtain⟨⟨Y,X,aj,al⟩,_⟩:=(show (fun G v=>∃ Y X,v = .slice Y 2 2/\SlRd aH' G (.slice Y 2 2) X [q.num,p.num]) G'.m (u 21)/\True from hu)
  exact⟨_,_,_,fun _=>k' E90 z,bA' ap,(by simp only[aj] <;> rfl),al⟩
 refine cu (fun _ _ E=>aM' z)<|cu (fun _ _ E=>ag' ((v38' q.den l m)).toArray 5 W' z z z (aq' ((v38' q.num o n)) ((v38' q.den l m)) ([])))<|cu (fun _ _ E=>aM' z)<|cu (fun _ _ E=>ag' ((v38' p.den g k)).toArray 6 W' z z z (aq' ((v38' p.num c j)) ((v38' p.den g k)) ([])))<|bD' (r:=aH') (e:=38) ([q.den,p.den]:List Zb) (fun _=>z) z (by decide) (fun u G' E hu=>?_) ?_
 .exact⟨#[(0,.agg ((v38' q.den l m)).toArray),(1,.agg ((v38' p.den g k)).toArray)],(v38' q.den l m)++((v38' p.den g k)++([])),z,z,fun _=>by kernel_rfl,⟨(v38' q.den l m),(v38' p.den g k)++([]),z,⟨[.bool q.den.neg],[sv0 l q.den.mag m],z,z,⟨_,z,((O.mono Z).mono E)⟩⟩,⟨(v38' p.den g k),[],z,⟨[.bool p.den.neg],[sv0 g p.den.mag k],z,z,⟨_,z,(Q.mono E)⟩⟩,z⟩⟩⟩
 refine Chain.tailU3 (d:=27) (post:=fun G v=>∃ p2 am,v = .slice p2 2 2/\SlRd aH' G (.slice p2 2 2) am [q.den,p.den]) (d':=22) (post':=w38' S) (d'':=21) (post'':=fun G v=>∃ Y X,v = .slice Y 2 2/\SlRd aH' G (.slice Y 2 2) X [q.num,p.num]) (fun aA aC aB aI ay ae ad ag=>?_)
 obtain⟨p2,am,rfl,ax⟩:=ae
 obtain⟨H,I,rfl,F⟩:=ad
 obtain⟨Y,X,rfl,al⟩:=ag
 refine oE hr fun ai aq hr=>y' z z (k' E90 z) (bA' aq) z (ax) (fun az aF ak ab=>?_)
 obtain⟨L,M,rfl,af⟩:=ab
 refine yw0 (ax' (vs:=#[(0,.agg ((v38' S H I)).toArray),(1,.agg ((v38' ai L M)).toArray)]) (v:=.agg ([.bool S.neg,sv0 H S.mag I,.bool ai.neg,sv0 L ai.mag M]).toArray) z z (fun _=>by kernel_rfl))<|stB 4 bk' z<|p'<|ar'<|b'<|q' ?_
 obtain rfl:_=r:=hr
 exact o' z (af' (i:=4) aN' z z z) ⟨_,_,_,_,z,(F.mono ak),af⟩
theorem ev'{c1 m1 p1 A C y D ak am r}(hr:(ZcG c1 m1 p1).Ret r):Ctr prog 69 #[.agg ((v40' c1 A C y D)).toArray,.agg (vi8 m1).toArray,sv0 ak p1 am] (fun G=>sl (Rp.int .u32) G A C c1.num.mag/\sl (Rp.int .u32) G y D c1.den.mag/\sl g' G ak am p1) (wlt' g' r):=by
 refine B' (args:=[_,_,_]) (N:=46) func69 z z z (fun w0 G0 Z aB=>?_)
 obtain⟨O,L,ac⟩:=aB
 refine sr<|ah' 3 z z z fun b1=>ah' 4 z z z fun b2=>sw0 z<|sx1 z<|c'<|sr<|yw0 (C' 3 aN' z z z)<|oE hr fun a0 av hr=>T' z z (k' E66 z) (bK' av) z (⟨O,L⟩)<|yw0 (aK' z z)<|nx<|I' hr z (fun aS hr=>?_) (fun aS hr=>?_)
 .exact (show False from hr).elim
 refine t'<|b'<|sr<|mw0 z<|yw0 (D' N' ac z)<|oA hr fun aE hr=>WL.makeC (r:=g') (e:=91) (n:=(p1.length:Int)) 4018 z z N' el91 z (by decide) z z aE fun p2 aN aY aL=>aY' (r:=g') (e:=91) 4018 aL z (by rw[Z]; rfl) fun aD ah I ay ao=>sx1 z<|c'<|sr<|mw0 z<|yw0 (D' N' (ac.mono I) z)<|mw0 z<|nx<|aa' (X:=(List Za)×Option Addr×Nat×Option Ow×Int×Mem) hr (fun ⟨M,S,R,P,Q,T⟩=>⟨(M,Q),[(3,pt0 b1),(4,pt0 b2),(8,sv0 S M R),(19,sv0 ak p1 am),(20,i' (p1.length:Int)),(21,i' Q)],Mem.le ah T/\sl g' T S R M/\Tok 12 91 (sv0 S M R) M.length P,St w0 G0 T [(3,bk0 b1 (v40' c1 A C y D) 40),(4,bk0 b2 (vi8 m1) 77),(1008,P)]⟩) (fun (⟨U,Y,W,V,ae⟩:(List Za)×Option Addr×Nat×Option Ow×Mem)=>⟨(.inr U),[(8,sv0 Y U W)],Mem.le ah ae/\sl g' ae Y W U/\Tok 12 91 (sv0 Y U W) U.length V,St w0 G0 ae [(1008,V)]⟩) ⟨([]:List Za),p2,aN,aD,0,ah⟩ z (fz0 z) ⟨mr,ay,ao⟩ ?_ ?_ ?_
 .intro w hs
  have hs:=hs.rekey (i:=4018) (j:=1008) z (by rw[Z]; rfl)
  exact hs.weaken (lc z (lc z (lc z ln)))
 .rintro _ ⟨M,S,R,P,Q,T⟩ ⟨F,aj,aa⟩ hr
  refine sr<|ls0 z<|nx<|c'<|I' hr z (fun aJ hr=>?_) (fun aJ hr=>?_)
  .refine t'<|b'<|c'<|U'<|sr<|oE hr fun E ap hr=>yw0 (Q' N' by' (ac.mono (mx I F)) z z ap) ?_
   obtain⟨l,o,p,m,aF,J,K⟩:=bB' (M' (ad' ac ap) (mx I F))
   refine yw0 (aP' _ ag91 z z aF)<|P' 10 z z91 z fun b3=>x' 10 z by' z z z z z (fun u hu=>Rp.one g' (G:=T) (x:=E) (cs:=((v40' E.c l o p m):List Value)++(vi8 E.m)) ⟨(v40' E.c l o p m),vi8 E.m,z,⟨(v38' E.c.num l o),(v38' E.c.den p m),z,⟨[.bool E.c.num.neg],[sv0 l E.c.num.mag o],z,z,⟨_,z,J⟩⟩,⟨[.bool E.c.den.neg],[sv0 p E.c.den.mag m],z,z,⟨_,z,K⟩⟩⟩,z⟩ u (by first|simpa using hu|simpa [Value.cells] using hu))<|nr<|yw0 (C' 4 bt' z z (an' _ _ _))<|yw0 (bb' z)<|yw0 (ag' (vi8 E.m).toArray 10 bt' z z (an' _ _ _) (aq' ((v40' E.c l o p m)) (vi8 E.m) ([])))<|oE hr fun H aw hr=>T' z z (k' E107 z) (eZ' aw) z (trivial)<|mw0 z<|ex0 z<|ex0 z<|P' 11 z z77 z fun b4=>x' 11 z sz77 z z z (an' _ _ _) (an' _ _ _) (fun u hu=>Rp.one (Rp.vec .i64 8) (G:=T) (x:=H.1) (cs:=vi8 H.1) z u (by first|simpa using hu|simpa [Value.cells] using hu))<|sx1 z<|c'<|sr<|mw0 z<|yw0 (bU' z z)<|nx<|I' hr z (fun aM hr=>?_) (fun aM hr=>?_)
   .exact (show False from hr).elim
   refine t'<|b'<|aj' [tt,ff,ff,ff,ff,ff] mix (by kernel_rfl) fun hb=>cx' z (n' z)<|cn (fun _ B=>C' 3 aN' z z z)<|cn (fun _ B=>bu' z)<|cn (fun _ B=>ag' ((v40' E.c l o p m)).toArray 10 aN' z z z (aq' ([]) ((v40' E.c l o p m)) ((vi8 E.m))))<|oE hr fun q az hr=>at' (post:=w40' q) (fun _=>z) (fun _ _=>k' E54 z) (fa' az) z (fun G' B=>⟨((O.mono (mx I F)).mono B),((L.mono (mx I F)).mono B),(J.mono B),(K.mono B)⟩) (fun v G1 G2 B h=>?_) ?_
   .obtain⟨k,c,f,g,rfl,s,t⟩:=h
    exact⟨_,_,_,_,z,s.mono B,t.mono B⟩
   refine cu (fun _ _ B=>C' 11 bt' z z (an' _ _ _))<|aF' (d:=39) (post:=w40' q) (fun aW aZ ad af=>?_)
   obtain⟨k,c,f,g,rfl,s,t⟩:=af
   refine yw0 (ax' (vs:=#[(0,.agg ((v40' q k c f g)).toArray),(1,.agg (vi8 H.1).toArray)]) (v:=.agg (((v40' q k c f g):List Value)++(vi8 H.1)).toArray) z z (fun _=>by kernel_rfl))<|aO' (e:=91) (r:=g') (vs:=#[(0,.agg (((v40' q k c f g):List Value)++(vi8 H.1)).toArray)]) (cs:=(((v40' q k c f g):List Value)++(vi8 H.1))++([])) ([(Za.mk q H.1)]:List Za) z z z z z (by decide) (fun _=>by kernel_rfl) ⟨((v40' q k c f g):List Value)++(vi8 H.1),[],z,⟨(v40' q k c f g),vi8 H.1,z,⟨(v38' q.num k c),(v38' q.den f g),z,⟨[.bool q.num.neg],[sv0 k q.num.mag c],z,z,⟨_,z,s⟩⟩,⟨[.bool q.den.neg],[sv0 f q.den.mag g],z,z,⟨_,z,t⟩⟩⟩,z⟩,z⟩ (key:=999) z (by rw[Z]; rfl) (fun p3 a1 ab aK=>?_)
   refine oA hr fun ar hr=>bG' (r:=g') 1008 z z N' el91 z (by decide) z z (aj.mono (mx ad ab)) z (by rw[Z]; rfl) aa aK ar fun p4 aI aC aP an aG aq=>sw0 z<|p'<|ar'<|E'<|b'<|w'<|ad0 z<|mw0 z<|p'<|O' ⟨(M++[(Za.mk q H.1)]),p4,aI,aC,i64.wrap (Q+1),aP⟩ hr ⟨(mx (mx (mx F ad) ab) an),aG,aq⟩ (fz0 z) (w3 z z z)
  refine Z'<|f'<|f'<|F'<|ab' ⟨M,S,R,P,T⟩ ⟨hr,F,aj,aa⟩ (f1 z) (w1 z)
 rintro⟨U,Y,W,V,ae⟩ ⟨hr,aU,aA,aT⟩
 refine b'<|sr<|mw0 z<|sw0 z<|sx1 z<|q' ?_
 obtain rfl:_=r:=hr
 exact aW' z z z ⟨_,_,z,aA⟩
theorem fi'{t f e r}(hr:(Zfc t).Ret r):Ctr prog 67 #[.agg ((v38' t f e)).toArray] (fun G=>sl (Rp.int .u32) G f e t.mag) (w38' r):=by
 refine B' (args:=[_]) (N:=10) func67 z z z (fun P M I s=>?_)
 have m:=s
 refine sr<|ah' 1 z z z fun J=>P' 2 z z38 z fun Q=>nx<|c'<|aj' [ff,ff,ff,ff,ff,ff] mix (by kernel_rfl) fun L=>cn (fun _ c=>aw' z)<|cn (fun _ c=>A' 1 sc4 z z z)<|cn (fun _ c=>bf' z)<|cn (fun _ c=>ai' z)<|cn (fun _ c=>A' 1 aE' z z z)<|oE hr fun n u hr=>at' (post:=wl' (Rp.int .u32) n) (fun _=>z) (fun _ _=>k' E99 z) (cz' u) z (fun K c=>(m.mono c)) (fun v R O c h=>?_) ?_
 .obtain⟨q,p,rfl,g⟩:=h
  exact⟨_,_,z,g.mono c⟩
 refine aF' (d:=8) (post:=wl' (Rp.int .u32) n) (fun C E B j=>?_)
 obtain⟨q,p,rfl,g⟩:=j
 refine oE hr fun F o hr=>y' z z (k' E97 z) (bg' o) z (g) (fun D H A l=>?_)
 obtain⟨y,x,rfl,k⟩:=l
 refine stB 2 aA' z<|p'<|ar'<|b'<|q' ?_
 obtain rfl:_=r:=hr
 exact o' z (af' (i:=2) W' z z z) ⟨_,_,z,k⟩
theorem dy'{k p B r}(hr:(Zcq k).Ret r):Ctr prog 31 #[sv0 p k B] (fun G=>sl g' G p B k) (wl' g' r):=by
 refine B' (args:=[_]) (N:=71) func31 z z z (fun w0 G0 bN bh=>?_)
 have j:=bh
 refine sr<|sx1 z<|c'<|sr<|mw0 z<|yw0 (D' N' j z)<|yw0 (aK' z z)<|nx<|I' hr z (fun bx hr=>?_) (fun bx hr=>?_)
 .exact (show False from hr).elim
 refine t'<|b'<|sr<|oE hr fun br ba hr=>y' z z (k' E62 z) (cA' ba) z (trivial) (fun bI bR A au=>?_)
 obtain⟨aE,ak,rfl,al⟩:=au
 refine oE hr fun bo bb hr=>y' z z (k' E62 z) (cA' bb) z (trivial) (fun bG aM i aJ=>?_)
 obtain⟨aA,aH,rfl,az⟩:=aJ
 refine P' 3 z z38 z fun b1=>P' 4 z z38 z fun b2=>stB 3 aA' z<|stB 4 aA' z<|nx<|c'<|sr<|mw0 z<|yw0 (D' N' (j.mono (mx A i)) z)<|mw0 z<|nx<|aa' (X:=Int×Zb×Option Addr×Nat×Zb×Option Addr×Nat×Mem) hr (fun ⟨K,aa,q,t,Z,y,l,L⟩=>⟨(K,aa,Z),[(0,sv0 p k B),(3,pt0 b1),(4,pt0 b2),(20,sv0 p k B),(21,i' (k.length:Int)),(22,i' K)],Mem.le aM L/\sl (Rp.int .u32) L q t aa.mag/\sl (Rp.int .u32) L y l Z.mag,St w0 G0 L [(3,bk0 b1 (v38' aa q t) 38),(4,bk0 b2 (v38' Z y l) 38)]⟩) (fun (⟨R,m,n,ab,s,o,O⟩:Zb×Option Addr×Nat×Zb×Option Addr×Nat×Mem)=>⟨(R,ab),[(0,sv0 p k B),(3,pt0 b1),(4,pt0 b2)],Mem.le aM O/\sl (Rp.int .u32) O m n R.mag/\sl (Rp.int .u32) O s o ab.mag,St w0 G0 O [(3,bk0 b1 (v38' R m n) 38),(4,bk0 b2 (v38' ab s o) 38)]⟩) ⟨0,br,aE,ak,bo,aA,aH,aM⟩ z (fz0 z) ⟨mr,(al.mono i),az⟩ (w2 z z) ?_ ?_
 .rintro _ ⟨K,aa,q,t,Z,y,l,L⟩ ⟨J,Q,F⟩ hr
  refine sr<|ls0 z<|nx<|c'<|I' hr z (fun bq hr=>?_) (fun bq hr=>?_)
  .refine t'<|b'<|c'<|U'<|sr<|oE hr fun g aU hr=>yw0 (Q' N' by' (j.mono (mx (mx A i) J)) z z aU) ?_
   obtain⟨e,f,c,d,bl,C,h⟩:=bB' (M' (ad' j aU) (mx (mx A i) J))
   refine yw0 (aP' _ ag91 z z bl)<|P' 6 z z91 z fun b4=>x' 6 z by' z z z z z (fun u hu=>Rp.one g' (G:=L) (x:=g) (cs:=((v40' g.c e f c d):List Value)++(vi8 g.m)) ⟨(v40' g.c e f c d),vi8 g.m,z,⟨(v38' g.c.num e f),(v38' g.c.den c d),z,⟨[.bool g.c.num.neg],[sv0 e g.c.num.mag f],z,z,⟨_,z,C⟩⟩,⟨[.bool g.c.den.neg],[sv0 c g.c.den.mag d],z,z,⟨_,z,h⟩⟩⟩,z⟩ u (by first|simpa using hu|simpa [Value.cells] using hu))<|nr<|yw0 (C' 3 W' z z z)<|yw0 (bu' z)<|yw0 (aT' z)<|yw0 (ag' ((v38' g.c.num e f)).toArray 6 W' z z z (aq' ([]) ((v38' g.c.num e f)) (((v38' g.c.den c d):List Value)++(vi8 g.m))))<|oE hr fun bu bf hr=>y' z z (k' E63 z) (cO' bf) z (⟨Q,C⟩) (fun bE bM D aK=>?_)
   obtain⟨aC,an,rfl,aq⟩:=aK
   refine stB 3 aA' z<|nr<|yw0 (C' 4 W' z z z)<|yw0 (bu' z)<|yw0 (aM' z)<|yw0 (ag' ((v38' g.c.den c d)).toArray 6 W' z z z (aq' ((v38' g.c.num e f)) ((v38' g.c.den c d)) ((vi8 g.m))))<|oE hr fun bJ bi hr=>y' z z (k' E63 z) (cO' bi) z (⟨(F.mono D),(h.mono D)⟩) (fun bB bO I ax=>?_)
   obtain⟨bk,bj,rfl,ap⟩:=ax
   refine P' 7 z z38 z fun b5=>stB 7 aA' z<|nr<|yw0 (bu' z)<|yw0 (aM' z)<|yw0 (ag' ((v38' g.c.den c d)).toArray 6 W' z z z (aq' ((v38' g.c.num e f)) ((v38' g.c.den c d)) ((vi8 g.m))))<|yw0 (C' 7 W' z z z)<|oE hr fun bT a9 hr=>y' z z (k' E64 z) (cR' a9) z (⟨(h.mono (mx D I)),ap⟩) (fun bH bS U aB=>?_)
   obtain⟨a1,aV,a3,aW,rfl,V,a2⟩:=aB
   refine mw0 z<|ex0 z<|ex0 z<|ex0 z<|P' 8 z z38 z fun b6=>P' 9 z z38 z fun b7=>stB 8 aA' z<|stB 9 aA' z<|sx1 z<|w'<|yw0 (C' 4 W' z z z)<|yw0 (C' 8 W' z z z)<|oE hr fun a8 aT hr=>y' z z (k' E65 z) (el' aT) z (⟨(F.mono (mx (mx D I) U)),V⟩) (fun bz a7 W ad=>?_)
   obtain⟨af,ag,rfl,ae⟩:=ad
   refine stB 4 aA' z<|p'<|E'<|b'<|w'<|ad0 z<|mw0 z<|p'<|O' ⟨i64.wrap (K+1),bu,aC,an,a8,af,ag,a7⟩ hr ⟨(mx (mx (mx (mx J D) I) U) W),(aq.mono (mx (mx I U) W)),ae⟩ (fz0 z) (w2 z z)
  refine Z'<|f'<|f'<|F'<|ab' ⟨aa,q,t,Z,y,l,L⟩ ⟨hr,J,Q,F⟩ (fz0 z) (w2 z z)
 rintro⟨R,m,n,ab,s,o,O⟩ ⟨hr,T,av,S⟩
 refine b'<|aD' hr (fun (⟨aj,H,E,ai⟩:Zb×Option Addr×Nat×Mem)=>⟨[(0,sv0 p k B),(3,pt0 b1),(4,pt0 b2)],Zdo k R aj,Mem.le O ai/\sl (Rp.int .u32) ai H E aj.mag,St w0 G0 ai [(3,bk0 b1 (v38' R m n) 38),(4,bk0 b2 (v38' aj H E) 38)]⟩) ?_ ?_
 .refine sr<|mw0 z<|oE hr fun x1 a4 hr=>yw0 (Q' N' by' (j.mono (mx (mx A i) T)) z z a4)<|yw0 (bu' z) ?_
  obtain⟨aY,aZ,a0,aX,bn,ac,Y⟩:=cW' (M' (AtK.fst (bW' (ad' j a4))) (mx (mx A i) T))
  refine yw0 (aP' _ aN' z z bn)<|oE hr fun bU bd hr=>T' z z (k' E66 z) (bK' bd) z (⟨ac,Y⟩)<|ls0 z<|nx<|I' hr z (fun bp hr=>?_) (fun bp hr=>?_)
  .refine w'<|yw0 (C' 4 W' z z z)<|oE hr fun bm a6 hr=>y' z z (k' E67 z) (fi' a6) z (S) (fun bC bv aR am=>?_)
   obtain⟨ar,aD,rfl,aF⟩:=am
   refine stB 4 aA' z<|p'<|ao' ⟨bm,ar,aD,bv⟩ ⟨hr,aR,aF⟩ (fz0 z) (w2 z z)
  refine t'<|ao' ⟨ab,s,o,O⟩ ⟨hr,mr,S⟩ (fz0 z) (w2 z z)
 rintro⟨aj,H,E,ai⟩ ⟨hr,ah,ay⟩
 refine sr<|yw0 (C' 4 W' z z z)<|yw0 (C' 3 W' z z z)<|oE hr fun bP be hr=>y' z z (k' E68 z) (eY' be) z (⟨ay,(av.mono ah)⟩) (fun bD bQ aS aG=>?_)
 obtain⟨aQ,aO,aN,aP,rfl,M,P⟩:=aG
 refine mw0 z<|ex0 z<|ex0 z<|P' 11 z z40 z fun b3=>stB 11 bk' z<|sw0 z<|nr<|yw0 (C' 11 aN' z z z)<|yw0 (ax' (vs:=#[]) (v:=.agg (vi8 (fun _=>0)).toArray) z z (fun _=>by kernel_rfl))<|mw0 z<|oE hr fun bK a5 hr=>y' z z (k' E69 z) (ev' a5) z (⟨M,P,(j.mono (mx (mx (mx (mx A i) T) ah) aS))⟩) (fun bF bL bA aw=>?_)
 obtain⟨bw,bs,rfl,aL⟩:=aw
 refine mw0 z<|ex0 z<|ex0 z<|sw0 z<|sw0 z<|nr<|mw0 z<|sx1 z<|q' ?_
 obtain rfl:_=r:=hr
 exact o' z z ⟨_,_,z,aL⟩
theorem ci'{l u j h g d e s q r}(hr:(_eliminant_claim_rules_sorted l u j).Ret r):Ctr prog 139 #[.agg ((v46' l.k h g d e)).toArray,sv0 s u q,i' j] (fun G=>sl (Rp.sl g') G h g l.k.eqs/\sl (Rp.sl g') G d e l.k.neqs/\sl (Rp.sl g') G s q u) (fun G v=>v = .bool r):=by
 refine B' (args:=[_,_,_]) (N:=47) func139 z z z (fun S x ak J=>?_)
 obtain⟨o,n,k⟩:=J
 refine sr<|ah' 3 z z z fun L=>sx1 z<|c'<|sr<|mw0 z<|yw0 (D' al' k z)<|yw0 (aL' z z)<|nx<|I' hr z (fun Y hr=>?_) (fun Y hr=>?_)
 .refine sr<|sx1 z<|q'<|j' (k0' hr z z)
 refine t'<|b'<|c'<|sr<|mw0 z<|yw0 (D' al' k z)<|mw0 z<|nx<|aa' (X:=Int×Mem) hr (fun ⟨i,p⟩=>⟨i,[(1,sv0 s u q),(2,i' j),(3,pt0 L),(12,sv0 s u q),(13,i' (u.length:Int)),(14,i' i)],Mem.le x p,St S x p [(3,bk0 L (v46' l.k h g d e) 159)]⟩) (fun (gx:Mem)=>match gx with|y=>⟨(.inr ()),[],Mem.le x y,St S x y []⟩) ⟨0,x⟩ z (fz0 z) mr (w1 z) ?_ ?_
 .rintro _ ⟨i,p⟩ c hr
  refine sr<|ls0 z<|nx<|c'<|I' hr z (fun R hr=>?_) (fun R hr=>?_)
  .refine t'<|b'<|c'<|U'<|sr<|mw0 z<|oE hr fun x1 B hr=>yw0 (Q' al' sz54 (k.mono c) z z B) ?_
   obtain⟨p1,ai,P,m⟩:=cw' (M' (ad' k B) c)
   refine yw0 (ac' sc54 z (P))<|sw0 z<|sx1 z<|c'<|sr<|yw0 (C' 3 ag159 z z z)<|mw0 z<|oE hr fun O K hr=>T' z z (k' E159 z) (cQ' K) z (⟨(o.mono c),(n.mono c),m⟩) ?_
   cases O
   .refine yw0 (bf' z)<|mw0 z<|sn4 z<|pt00 z<|nx<|aR' z<|sr<|sx1 z<|q'<|j'<|H'<|j'<|j'<|H'<|az'<|j' (k0' hr z z)
   refine yw0 (bf' z)<|mw0 z<|gm0 z<|oE hr fun ae D hr=>T' (as' z z) z (k' E34 z) (cg' D) z (m)<|gm0 z<|gy z z (ae' z z) z<|pf00 z<|nx<|I' hr z (fun W hr=>?_) (fun W hr=>?_)
   .refine sr<|sx1 z<|q'<|j'<|H'<|j'<|j'<|H'<|az'<|j' (k0' hr z z)
   refine t'<|b'<|c'<|sr<|mw0 z<|oE hr fun aj I hr=>y' z z (k' E31 z) (dy' I) z (m) (fun ac C f t=>?_)
   obtain⟨aa,ab,rfl,H⟩:=t
   refine mw0 z<|oE hr fun af F hr=>T' z z (k' E76 z) (Zcf _ _ _ _ _ _ _ F) z (⟨H,(m.mono f)⟩)<|yw0 (bf' z)<|nx<|aX' hr z (fun Q hr=>?_) (fun Q hr=>?_)
   .refine sr<|sx1 z<|q'<|j'<|H'<|j'<|j'<|H'<|az'<|j' (k0' hr z z)
   refine t'<|b'<|sr<|mw0 z<|aQ' hr z (aL' z z) z (fun U hr=>?_) (fun U hr=>?_)
   .refine mw0 z<|gm0 z<|gm0 z<|gy z z (ap' z z) z<|oE hr fun x2 A hr=>gy z z (Q' al' sz54 (k.mono (mx c f)) z z A) z ?_
    obtain⟨p2,ag,T,V⟩:=cw' (M' (ad' k A) (mx c f))
    refine gy z z (ac' sc54 z (T)) z<|gm0 z<|oE hr fun ah E hr=>T' (as' z z) z (k' E74 z) (Zek _ _ _ _ _ _ _ E) z (⟨V,(m.mono f)⟩)<|gy z z (bc' z z) z<|pt00 z<|nx<|I' hr z (fun M hr=>?_) (fun M hr=>?_)
    .refine sr<|sx1 z<|q'<|H'<|j'<|j'<|H'<|az'<|j' (k0' hr z z)
    refine t'<|E'<|b'<|w'<|ad0 z<|mw0 z<|p'<|O' ⟨i64.wrap (i+1),C⟩ hr (mx c f) (fz0 z) (w1 z)
   refine mw0 z<|sn8 z<|pf00 z<|nx<|bJ' z<|t'<|E'<|b'<|w'<|ad0 z<|mw0 z<|p'<|O' ⟨i64.wrap (i+1),C⟩ hr (mx c f) (fz0 z) (w1 z)
  refine Z'<|f'<|f'<|F'<|ab' p ⟨hr,c⟩ fn (wk ln)
 rintro y ⟨hr,Z⟩
 refine b'<|sr<|sx1 z<|q' (k0' hr z z)
theorem cX'{i h g e f r}(hr:(_eliminant_claim_rules_valid i).Ret r):Ctr prog 117 #[.agg ((v46' i.k h g e f)).toArray] (fun G=>sl (Rp.sl g') G h g i.k.eqs/\sl (Rp.sl g') G e f i.k.neqs) (fun G v=>v = .bool r):=by
 refine B' (args:=[_]) (N:=27) func117 z z z (fun u t q k=>?_)
 obtain⟨d,c⟩:=k
 refine sr<|ah' 1 z z z fun s=>sw0 z<|nr<|yw0 (dF' z)<|yw0 (Y0.Zeo z)<|yw0 (A' 1 sc3 z z z)<|aQ' hr z (bc' z z) z (fun o hr=>?_) (fun o hr=>?_)
 .refine mw0 z<|gy z z (dF' z) z<|gy z z (Y0.Zeo z) z<|gy z z (A' 1 sc3 z z z) z<|aQ' hr (as' z z) (bF' z z) z (fun n hr=>?_) (fun n hr=>?_)
  .refine pt00 z<|mw0 z<|gy z z (C' 1 ag159 z z z) z<|gy z z (dF' z) z<|gy z z (Y0.Zfq z) z<|gy z z (A' 1 sc44 z z z) z<|oE hr fun m l hr=>T' (as' z z) z (k' E139 z) (ci' l) z (⟨d,c,d⟩) ?_
   cases m
   .refine pt00 z<|mw0 z<|sn5 z<|pf00 z<|sx1 z<|q' (k0' hr z z)
   refine pt00 z<|mw0 z<|gy z z (C' 1 ag159 z z z) z<|gy z z (dF' z) z<|gy z z (Y0.Zfr z) z<|gy z z (A' 1 sc44 z z z) z<|oE hr fun p j hr=>T' (as' z z) z (k' E139 z) (ci' j) z (⟨d,c,c⟩)<|pt00 z<|sx1 z<|q' (k0' hr z z)
  refine pt00 z<|mw0 z<|sn5 z<|pf00 z<|mw0 z<|sn5 z<|pf00 z<|sx1 z<|q' (k0' hr z z)
 refine mw0 z<|sn4 z<|pf00 z<|mw0 z<|sn5 z<|pf00 z<|mw0 z<|sn5 z<|pf00 z<|sx1 z<|q' (k0' hr z z)
theorem Zj9(g:Zg)(e:Option Addr)(f:Nat)(d:Option Addr)(c:Nat)(r:Bool)(hr:(Zfb g).Ret r):Ctr prog 80 #[.agg ((v46' g e f d c)).toArray] (fun G=>sl (Rp.sl g') G e f g.eqs/\sl (Rp.sl g') G d c g.neqs) (fun G v=>v = .bool r):=by
 refine B' (args:=[_]) (N:=6) func80 z z z (fun o p l k=>?_)
 obtain⟨i,h⟩:=k
 refine sr<|ah' 1 z z z fun n=>sw0 z<|nr<|yw0 (C' 1 ag46 z z z)<|yw0 (ax' (vs:=#[(0,.agg ((v46' g e f d c)).toArray)]) (v:=.agg ((v46' g e f d c)).toArray) z z (fun _=>by kernel_rfl))<|oE hr fun m j hr=>T' z z (k' E117 z) (cX' j) z (⟨i,h⟩)<|sx1 z<|q' (k0' hr z z)
def WrL(wb:Nat)(s:Option Addr×Nat×Option Ow)(n:Nat):Lo:=[(6000,some ⟨wb,.cells #[.slice s.1 n s.2.1] 133 (0,0),0⟩),(5000,s.2.2)]
abbrev WrR(G:Mem)(s:Option Addr×Nat×Option Ow)(xs:List Int):Prop:=RowR (Rp.int .u8) 5 G (.slice s.1 xs.length s.2.1) xs s.2.2
def WrC(f:Nat)(args:Nat->List Value)(pre:Mem->Prop)(out:List Int):Prop:=∀ (wb:Nat) (xs:List Int) (s:Option Addr×Nat×Option Ow),(xs++out).length<=1000000->
 CtrL prog f (Value.pointer (some ⟨wb,0,none⟩)::args wb).toArray (WrL wb s xs.length) (fun G=>WrR G s xs/\pre G) (fun G L v=>v = .tuple #[]/\∃ s',L=WrL wb s' (xs++out).length/\WrR G s' (xs++out))
section
variable {N:Nat}{Q:Post}{fr:Fr}{ops:Array Oper}{l:List Oper}{dst:Option Nat}{ty:TypeId}{pos:String}{af:Array Edge}{g:Option (Nat×Bool)}{w0:Bs}{G0 G:Mem}
theorem Zce{wb:Nat}{s:Option Addr×Nat×Option Ow}{n:Nat}{xs:List Int}(h:WrR G s xs):(WrL wb s n).zero:=by
 intro q hq x hx
 simp only[WrL,List.mem_cons,List.not_mem_nil,or_false] at hq
 rcases hq with rfl|rfl
 .cases hx; rfl
 exact h.zero hx
theorem Zaj{op:Op}{f:Nat}{args:Nat->List Value}{pre:Mem->Prop}{out xs:List Int}{wb:Nat}{s:Option Addr×Nat×Option Ow}(R:Lo)(hC:WrC f args pre out)(hg:guardOK ops fr ⟨dst,op,ty,pos,af,g⟩ true)(hd:dstOK N dst)
  (hY:YC prog N ⟨dst,op,ty,pos,af,g⟩ fr (St w0 G0 G (WrL wb s xs.length++R)) f (Value.pointer (some ⟨wb,0,none⟩)::args wb).toArray) (hlen:(xs++out).length<=1000000) (hrow:WrR G s xs) (hp:pre G) (hz:w0.L.zero)
  (k:∀ s' G',Mem.le G G'->WrR G' s' (xs++out)->WL prog N ops Q l (putFr dst (.tuple #[]) fr) (St w0 G0 G' (WrL wb s' (xs++out).length++R))):WL prog N ops Q (⟨dst,op,ty,pos,af,g⟩::l) fr (St w0 G0 G (WrL wb s xs.length++R)):=by
 refine WL.callT hg hd hY (hC wb xs s hlen) rfl ⟨hrow,hp⟩ (lc rfl (lc rfl ln)) hz (fun v G' L' hle hpost=>?_)
 obtain⟨rfl,s',rfl,hrow'⟩:=hpost
 refine WL.conseq (fun w hs=>hs.weaken (fun i x hx=>?_)) (k s' G' hle hrow')
 simp only[WrL,Lo.without,List.map_cons,List.map_nil,List.cons_append,List.nil_append,Lo.Zi] at hx ⊢
 split at hx
 .rename_i e; rw[if_pos e]; exact hx
 rename_i e
 rw[if_neg e]
 split at hx
 .rename_i e2; rw[if_pos e2]; exact hx
 rename_i e2; rw[if_neg e2,if_neg e,if_neg e2,if_neg e,if_neg e2]; exact hx
end
theorem u64r(n:Int):0<=u64.wrap n/\u64.wrap n<18446744073709551616:=by rw[IntKind.wrap_u64]; omega
theorem Zdd(n0:Int)(h0:0<=n0/\n0<18446744073709551616):WrC 140 (fun _=>[.int .u64 n0]) (fun _=>True) (natW n0):=by
 intro wb xs s0 hlen
 refine CtrL.enter (args:=[_,_]) (N:=32) func140 rfl rfl rfl (fun w0 G0 hL0 hpre=>?_)
 obtain⟨hrow0,_⟩:=hpre
 refine WC.seq<|WC.block ?_
 refine WC.loopH (X:=Nat×List Int×Int×(Option Addr×Nat×Option Ow)×Mem) (fun gx=>match gx with|⟨_,_,n,_,_⟩=>[(0,.pointer (some ⟨wb,0,none⟩)),(1,.int .u64 n)])
  (fun gx=>match gx with|⟨f,ys,n,s,G⟩=>0<=n/\n<128*128 ^ f/\n<18446744073709551616/\ys++natG f n=xs++natW n0/\WrR G s ys)
  (fun gx=>match gx with|⟨_,ys,_,s,G⟩=>St w0 G0 G (WrL wb s ys.length)) (fun gx=>gx.1) ⟨10,xs,n0,s0,G0⟩ (fc rfl (fc rfl fn)) ⟨h0.1,by omega,h0.2,rfl,hrow0⟩ (fun w hs=>hs) ?_
 rintro⟨f,ys,n,s,G⟩ ⟨h1,h2,h5,h3,h4⟩
 dsimp only at h1 h2 h3 h4 h5 ⊢
 refine WC.seq<|sr<|mv rfl rfl<|yy (Y0.geq rfl rfl) rfl<|nx ?_
 have hyl:(ys++natG f n).length<=1000000:=by rw[h3]; exact hlen
 refine WC.condD (p:=(128:Int)<=n) rfl (fun hc=>?_) (fun hc=>?_)
 .obtain⟨f,rfl⟩:∃ j,f=j+1:=by
   cases f with
   | zero=>have:(128:Int)*128 ^ 0=128:=rfl; omega
   | succ j=>exact⟨j,rfl⟩
  have hng:natG (f+1) n=u8.wrap (u8.wrap (Int.tmod n 128)+128)::natG f (u64.wrap (Int.tdiv n 128)):=by show (if (128:Int)<=n then _ else _)=_; rw[if_pos hc]
  rw[hng] at h3 hyl
  refine WC.skip<|WE.then<|WC.block<|sr<|mv rfl rfl<|mv rfl rfl<|yy (Y0.nilCheck rfl) rfl<|yy (Y0.Zdj rfl) rfl<|yy (Y0.loadL 6000 sc23 rfl rfl rfl) rfl<|mv rfl rfl<|yy (Y0.rem rfl rfl (by decide)) rfl<|yy (Y0.conv underlying102 underlying5 rfl) rfl<|yy (Y0.add rfl rfl) rfl ?_
  refine WL.litR (e:=5) (r:=Rp.int .u8) (vs:=#[(0,.int .u8 (u8.wrap (u8.wrap (Int.tmod n 128)+128)))]) (cs:=[.int .u8 (u8.wrap (u8.wrap (Int.tmod n 128)+128))]) ([u8.wrap (u8.wrap (Int.tmod n 128)+128)]:List Int) Ze rfl rfl rfl rfl (by decide) (fun _=>by kernel_rfl) ⟨[_],[],rfl,rfl,rfl⟩ (key:=999) rfl (by rw[hL0]; rfl) (fun p1 G1 hle1 q1=>?_)
  refine WL.appendT (r:=Rp.int .u8) (e:=5) 5000 Ze rfl underlying23 el5 rfl (by decide) rfl rfl (h4.mono hle1) rfl q1 (by simp only[List.length_append,List.length_cons,List.length_nil] at hyl ⊢; show _<=small; simp only[small]; omega) (fun p2 c2 tk2 q2=>?_)
  refine yy (Y0.nilCheck rfl) rfl<|yy (Y0.Zdj rfl) rfl<|WL.storeL 6000 #[.slice p2 (ys++[u8.wrap (u8.wrap (Int.tmod n 128)+128)]).length c2] Ze sz23 rfl rfl rfl Nat.zero_lt_one rfl rfl ?_
  refine nx<|WC.region<|mv rfl rfl<|yy (Y0.quo rfl rfl (by decide)) rfl<|sg rfl rfl<|WL.nil<|WE.inBlock ?_
  have hd:u64.wrap (Int.tdiv n 128)=n / 128:=by rw[Int.tdiv_eq_ediv_of_nonneg h1,IntKind.wrap_u64]; omega
  have hp:(128:Int)*128 ^ (f+1)=128*(128*128 ^ f):=by rw[Int.pow_succ]; omega
  have hb:0<=u64.wrap (Int.tdiv n 128)/\u64.wrap (Int.tdiv n 128)<128*128 ^ f/\u64.wrap (Int.tdiv n 128)<18446744073709551616:=by rw[hd]; omega
  refine WE.backH (x:=(f+1,ys,n,s,G)) (f,ys++[u8.wrap (u8.wrap (Int.tmod n 128)+128)],u64.wrap (Int.tdiv n 128),(p2,c2,tk2),G1) ⟨hb.1,hb.2.1,hb.2.2,by show (_++[_])++_=_; rw[List.append_assoc]; exact h3,q2⟩ (fc rfl (fc rfl fn)) (fun w hs=>hs.weaken (lc rfl (lc rfl ln))) (Nat.lt_succ_self f)
 have hng:natG f n=[u8.wrap n]:=by cases f with|zero=>rfl|succ f=>show (if (128:Int)<=n then _ else _)=_; rw[if_neg hc]
 rw[hng] at h3 hyl
 refine WC.exit<|WE.thenExit<|WE.thenExit<|WE.exitHere<|WE.then<|WC.region<|mv rfl rfl<|mv rfl rfl<|yy (Y0.nilCheck rfl) rfl<|yy (Y0.Zdj rfl) rfl<|yy (Y0.loadL 6000 sc23 rfl rfl rfl) rfl<|mv rfl rfl<|yy (Y0.conv underlying102 underlying5 rfl) rfl ?_
 refine WL.litR (e:=5) (r:=Rp.int .u8) (vs:=#[(0,.int .u8 (u8.wrap n))]) (cs:=[.int .u8 (u8.wrap n)]) ([u8.wrap n]:List Int) Ze rfl rfl rfl rfl (by decide) (fun _=>by kernel_rfl) ⟨[_],[],rfl,rfl,rfl⟩ (key:=999) rfl (by rw[hL0]; rfl) (fun p1 G1 hle1 q1=>?_)
 refine WL.appendT (r:=Rp.int .u8) (e:=5) 5000 Ze rfl underlying23 el5 rfl (by decide) rfl rfl (h4.mono hle1) rfl q1 (by simp only[List.length_append,List.length_cons,List.length_nil] at hyl ⊢; show _<=small; simp only[small]; omega) (fun p2 c2 tk2 q2=>?_)
 refine yy (Y0.nilCheck rfl) rfl<|yy (Y0.Zdj rfl) rfl<|WL.storeL 6000 #[.slice p2 (ys++[u8.wrap n]).length c2] Ze sz23 rfl rfl rfl Nat.zero_lt_one rfl rfl<|WL.nil<|WE.retN ?_
 rw[h3] at q2 ⊢
 exact WE.conseq (S':=St w0 G0 G1 (WrL wb (p2,c2,tk2) (xs++natW n0).length)) (fun w hs=>hs.weaken (lc rfl (lc rfl ln))) (WE.ret0 rfl ⟨rfl,_,rfl,q2⟩)
theorem Zok(n:Int)(h:0<=n):WrC 118 (fun _=>[.int .i64 n]) (fun _=>True) (numW n):=by
 intro wb xs s hlen
 refine CtrL.enter (args:=[_,_]) (N:=19) func118 rfl rfl rfl (fun w0 G0 hL0 hpre=>?_)
 obtain⟨hrow,_⟩:=hpre
 refine sr<|mv rfl rfl<|yy (Y0.geq rfl rfl) rfl<|nx ?_
 refine WC.condD (p:=(0:Int)<=n) rfl (fun hc=>?_) (fun hc=>absurd h hc)
 refine WC.region<|mv rfl rfl<|mv rfl rfl<|yy (Y0.conv underlying3 underlying102 rfl) rfl<|yy (Y0.mul rfl rfl) rfl ?_
 refine WL.conseq (S':=St w0 G0 G0 (WrL wb s xs.length++[])) (fun w hs=>hs) ?_
 refine Zaj [] (Zdd _ (u64r _)) Ze rfl (YC.of E140 rfl) hlen hrow trivial (by rw[hL0]; exact Zce hrow) (fun s' G' hle hrow'=>?_)
 exact WL.nil<|WE.retN<|WE.ret0 rfl ⟨rfl,s',rfl,hrow'⟩
theorem Y0.loadRp{N:Nat}{fr:Fr}{w0:Bs}{G0 G:Mem}{L:Lo}{dst:Option Nat}{ty:TypeId}{pos:String}{af:Array Edge}{g:Option (Nat×Bool)}{α:Type}{r:Rp α}{t:TypeId}{x:Operand}{b off:Nat}{cs:List Value}{a:α}(ht:AggT prog t r.size)(hx:fr.ev x=some (.pointer (some ⟨b,off,none⟩)))
  (hr:r.rep G cs a) (hv:∀ j u,cs[j]? = some u->G b (off+j)=some u):Y0 prog N ⟨dst,.load t x,ty,pos,af,g⟩ fr (St w0 G0 G L) (.agg cs.toArray):=
 Y0.loadGA cs.toArray ht hx (by rw[List.size_toArray]; exact r.len hr) (fun j v h=>hv j v (by rw[List.getElem?_toArray] at h; exact h))
theorem ZhE{wb n:Nat}{s:Option Addr×Nat×Option Ow}{x y:Option Ow}:Lo.sub (WrL wb s n++[]) ((3,x)::(3,y)::WrL wb s n):=
 show Lo.sub [(6000,some ⟨wb,.cells #[.slice s.1 n s.2.1] 133 (0,0),0⟩),(5000,s.2.2)] _ from lc rfl (lc rfl ln)
theorem Zjo(a:Zb)(cs:List Value):WrC 181 (fun _=>[.agg cs.toArray]) (fun G=>ZaH.rep G cs a) (intW a):=by
 intro wb xs s hlen
 refine CtrL.enter (args:=[_,_]) (N:=47) func181 rfl rfl rfl (fun w0 G0 hL0 hpre=>?_)
 obtain⟨hrow,hrep⟩:=hpre
 have hz:w0.L.zero:=by rw[hL0]; exact Zce hrow
 refine sr<|WL.box 3 Ze rfl rfl (fun b3=>nx ?_)
 refine WC.knowBox 3 rfl (by rw[hL0]; rfl) (fun G1 hle1 hk1 _=>?_)
 have hbox:At ZaH G1 b3 0 a:=At.box hk1 rfl (ZaH.mono hle1 hrep)
 obtain⟨mp,mc,hk,hsl⟩:=ZfR hbox
 refine WC.conseq (S':=St w0 G0 G1 (WrL wb s xs.length++[])) (fun w hs=>hs.weaken ZhE) ?_
 refine sr<|yy (Y0.ZkV rfl) rfl<|yy (Y0.loadG sc36 rfl (hk 1 _ rfl)) rfl<|yy (Y0.lenC underlying36 rfl) rfl<|yy (Y0.conv underlying3 underlying102 rfl) rfl<|yy (Y0.mul rfl rfl) rfl<|sg rfl rfl<|nx ?_
 refine WC.seqH (X:=Unit) (fun _=>[(0,.pointer (some ⟨wb,0,none⟩)),(3,.pointer (some ⟨b3,0,none⟩)),(4,.int .u64 (if a.neg=true then u64.wrap (u64.wrap (2*u64.wrap (a.mag.length:Int))+1) else u64.wrap (2*u64.wrap (a.mag.length:Int))))]) (fun _=>True) (fun _=>St w0 G0 G1 (WrL wb s xs.length++[])) ?_ (fun _ _=>?_)
 .refine sr<|yy (Y0.Znt rfl) rfl<|yy (Y0.loadG sc4 rfl (hk 0 _ rfl)) rfl<|nx ?_
  refine WC.cond (b:=a.neg) rfl (fun hc=>?_) (fun hc=>?_)
  .refine WC.region<|mv rfl rfl<|yy (Y0.add rfl rfl) rfl<|sg rfl rfl<|WL.nil<|WE.midH () trivial (fc rfl (fc rfl (fc (by rw[hc]; rfl) fn))) (fun w hs=>hs)
  refine WC.skip<|WE.midH () trivial (fc rfl (fc rfl (fc (by rw[hc]; rfl) fn))) (fun w hs=>hs)
 have hn0:∀ c:Bool,0<=(if c=true then u64.wrap (u64.wrap (2*u64.wrap (a.mag.length:Int))+1) else u64.wrap (2*u64.wrap (a.mag.length:Int)))/\(if c=true then u64.wrap (u64.wrap (2*u64.wrap (a.mag.length:Int))+1) else u64.wrap (2*u64.wrap (a.mag.length:Int)))<18446744073709551616:=fun c=>by split <;> exact u64r _
 unfold intW at hlen ⊢
 generalize hH:natW (if a.neg=true then u64.wrap (u64.wrap (2*u64.wrap (a.mag.length:Int))+1) else u64.wrap (2*u64.wrap (a.mag.length:Int)))=H at hlen ⊢
 have hwd:∀ l:List Int,(l.flatMap wordW).length=4*l.length:=fun l=>by
  induction l with
  | nil=>rfl
  | cons d l ih=>rw[List.flatMap_cons,List.length_append,ih]; show 4+_=_; rw[List.length_cons]; omega
 rw[List.length_append,List.length_append,hwd] at hlen
 refine sr<|mv rfl rfl<|mv rfl rfl ?_
 refine Zaj [] (Zdd _ (hn0 a.neg)) Ze rfl (YC.of E140 rfl) (by rw[hH,List.length_append]; omega) (hrow.mono hle1) trivial hz (fun s1 G2 hle2 hrow1=>?_)
 rw[hH] at hrow1 ⊢
 refine nx<|sr<|yy (Y0.ZkV rfl) rfl<|yy (Y0.loadG sc36 rfl (hle2 _ _ _ (hk 1 _ rfl))) rfl<|yy (Y0.lenC underlying36 rfl) rfl<|mv rfl rfl<|nx<|WC.block ?_
 refine WC.loopH (X:=Nat×(Option Addr×Nat×Option Ow)×Mem) (fun gx=>match gx with|⟨k,_,_⟩=>[(0,.pointer (some ⟨wb,0,none⟩)),(20,.slice mp a.mag.length mc),(21,.int .i64 (a.mag.length:Int)),(22,.int .i64 (k:Int))])
  (fun gx=>match gx with|⟨k,s',G⟩=>k<=a.mag.length/\Mem.le G1 G/\WrR G s' (xs++H++(a.mag.take k).flatMap wordW))
  (fun gx=>match gx with|⟨k,s',G⟩=>St w0 G0 G (WrL wb s' (xs++H++(a.mag.take k).flatMap wordW).length)) (fun gx=>a.mag.length-gx.1) ⟨0,s1,G2⟩ (fc rfl (fc rfl (fc rfl (fc rfl fn)))) ⟨Nat.zero_le _,hle2,by rw[List.take_zero,List.flatMap_nil,List.append_nil]; exact hrow1⟩ (fun w hs=>by show St _ _ _ (WrL wb s1 (xs++H++(a.mag.take 0).flatMap wordW).length) _; rw[List.take_zero,List.flatMap_nil,List.append_nil]; exact hs) ?_
 rintro⟨k,s',G⟩ ⟨hk1',hle,hr⟩
 dsimp only at hk1' hle hr ⊢
 refine sr<|yy (Y0.lss rfl rfl) rfl<|nx<|WC.seq ?_
 refine WC.condD (p:=(k:Int)<(a.mag.length:Int)) rfl (fun hc=>?_) (fun hc=>?_)
 .have hkl:k<a.mag.length:=by omega
  have hx:(0:Int)<=(k:Int)/\a.mag[(k:Int).toNat]? = some a.mag[k]:=⟨by omega,by simp[hkl]⟩
  have hw:i64.wrap ((k:Int)+1)=((k+1:Nat):Int):=by rw[IntKind.wrap_i64]; omega
  have htk:(a.mag.take (k+1)).flatMap wordW=(a.mag.take k).flatMap wordW++wordW a.mag[k]:=by rw[List.take_succ_eq_append_getElem hkl,List.flatMap_append]; simp
  have hsm:(xs++H++(a.mag.take k).flatMap wordW++wordW a.mag[k]).length<=small:=by
   simp only[List.length_append,hwd,List.length_take]
   show _+_+_+4<=small
   simp only[small]; omega
  refine WC.skip<|WE.then<|WC.seq<|WC.block<|sr<|yy (Y0.idxR underlying36 sz139 (hsl.mono hle) rfl rfl hx) rfl<|yy (Y0.loadG sc139 rfl (AtK.int (At.mono (SlR.at hsl hx) hle))) rfl<|sg rfl rfl<|nx<|WC.region<|mv rfl rfl<|mv rfl rfl<|yy (Y0.nilCheck rfl) rfl<|yy (Y0.Zdj rfl) rfl<|yy (Y0.loadL 6000 sc23 rfl rfl rfl) rfl ?_
  refine mv rfl rfl<|yy (Y0.shr rfl rfl (by decide)) rfl<|yy (Y0.conv underlying139 underlying5 rfl) rfl<|mv rfl rfl<|yy (Y0.shr rfl rfl (by decide)) rfl<|yy (Y0.conv underlying139 underlying5 rfl) rfl<|mv rfl rfl<|yy (Y0.shr rfl rfl (by decide)) rfl<|yy (Y0.conv underlying139 underlying5 rfl) rfl<|mv rfl rfl<|yy (Y0.conv underlying139 underlying5 rfl) rfl ?_
  refine WL.litR (e:=5) (r:=Rp.int .u8) (vs:=#[(0,.int .u8 (u8.wrap (Int.fdiv a.mag[k] (2 ^ (min (24:Int).toNat u32.bits))))),(1,.int .u8 (u8.wrap (Int.fdiv a.mag[k] (2 ^ (min (16:Int).toNat u32.bits))))),(2,.int .u8 (u8.wrap (Int.fdiv a.mag[k] (2 ^ (min (8:Int).toNat u32.bits))))),(3,.int .u8 (u8.wrap a.mag[k]))]) (cs:=(wordW a.mag[k]).map (Value.int .u8)) (wordW a.mag[k]) Ze rfl rfl rfl rfl (by decide) (fun _=>by kernel_rfl) (RepL.nums _) (key:=999) rfl (by rw[hL0]; rfl) (fun p1 G3 hle3 q1=>?_)
  refine WL.appendT (r:=Rp.int .u8) (e:=5) 5000 Ze rfl underlying23 el5 rfl (by decide) rfl rfl (hr.mono hle3) rfl q1 hsm (fun p2 c2 tk2 q2=>?_)
  refine yy (Y0.nilCheck rfl) rfl<|yy (Y0.Zdj rfl) rfl<|WL.storeL 6000 #[.slice p2 (xs++H++(a.mag.take k).flatMap wordW++wordW a.mag[k]).length c2] Ze sz23 rfl rfl rfl Nat.zero_lt_one rfl rfl ?_
  refine WL.nil<|WE.inBlock<|WE.then<|WC.region<|yy (Y0.add rfl rfl) rfl ?_
  rw[hw]
  rw[List.append_assoc (xs++H),<- htk] at q2 ⊢
  exact mv rfl rfl<|WL.nil<|WE.backH (x:=(k,s',G)) (k+1,(p2,c2,tk2),G3) ⟨by omega,Mem.le_trans hle hle3,q2⟩ (fc rfl (fc rfl (fc rfl (fc rfl fn)))) (fun w hs=>hs.weaken (lc rfl (lc rfl ln))) (by show a.mag.length-(k+1)<a.mag.length-k; omega)
 have hke:k=a.mag.length:=by omega
 subst hke
 rw[List.take_length,List.append_assoc] at hr ⊢
 refine WC.exit<|WE.thenExit<|WE.thenExit<|WE.exitHere<|WE.retN ?_
 exact WE.ret0 rfl ⟨rfl,s',rfl,hr⟩
theorem ZlZ(a:Zc)(cs:List Value):WrC 176 (fun _=>[.agg cs.toArray]) (fun G=>Zbu.rep G cs a) (ratW a):=by
 intro wb xs s hlen
 refine CtrL.enter (args:=[_,_]) (N:=12) func176 rfl rfl rfl (fun w0 G0 hL0 hpre=>?_)
 obtain⟨hrow,hrep⟩:=hpre
 have hz:w0.L.zero:=by rw[hL0]; exact Zce hrow
 unfold ratW at hlen ⊢
 rw[List.length_append,List.length_append] at hlen
 refine sr<|WL.box 3 Ze rfl rfl (fun b3=>nx ?_)
 refine WC.knowBox 3 rfl (by rw[hL0]; rfl) (fun G1 hle1 hk1 _=>?_)
 have hbox:At Zbu G1 b3 0 a:=At.box hk1 rfl (Zbu.mono hle1 hrep)
 obtain⟨c1,r1,k1⟩:=AtK.fst (AtK.via hbox)
 obtain⟨c2,r2,k2⟩:=AtK.snd (AtK.via hbox)
 refine WC.conseq (S':=St w0 G0 G1 (WrL wb s xs.length++[])) (fun w hs=>hs.weaken ZhE) ?_
 refine sr<|mv rfl rfl<|yy (Y0.Znu rfl) rfl<|yy (Y0.loadRp ag38 rfl r1 k1) rfl ?_
 refine Zaj [] (Zjo a.num c1) Ze rfl (YC.of E181 rfl) (by rw[List.length_append]; omega) (hrow.mono hle1) r1 hz (fun s1 G2 hle2 hrow1=>?_)
 refine nx<|WC.region<|mv rfl rfl<|yy (Y0.Znv rfl) rfl<|yy (Y0.loadRp ag38 rfl (ZaH.mono hle2 r2) (fun j u h=>hle2 _ _ _ (k2 j u h))) rfl ?_
 refine Zaj [] (Zjo a.den c2) Ze rfl (YC.of E181 rfl) (by rw[List.length_append,List.length_append]; omega) hrow1 (ZaH.mono hle2 r2) hz (fun s2 G3 hle3 hrow2=>?_)
 rw[List.append_assoc] at hrow2 ⊢
 exact WL.nil<|WE.retN<|WE.ret0 rfl ⟨rfl,s2,rfl,hrow2⟩
theorem Zp9(t:Za)(cs:List Value):WrC 161 (fun _=>[.agg cs.toArray]) (fun G=>Zk.rep G cs t) (termW t):=by
 intro wb xs s hlen
 refine CtrL.enter (args:=[_,_]) (N:=20) func161 rfl rfl rfl (fun w0 G0 hL0 hpre=>?_)
 obtain⟨hrow,hrep⟩:=hpre
 have hz:w0.L.zero:=by rw[hL0]; exact Zce hrow
 unfold termW at hlen ⊢
 generalize hH:ratW t.c=H at hlen ⊢
 rw[List.length_append,List.length_append] at hlen
 refine sr<|WL.box 3 Ze rfl rfl (fun b3=>nx ?_)
 refine WC.knowBox 3 rfl (by rw[hL0]; rfl) (fun G1 hle1 hk1 _=>?_)
 have hbox:At Zk G1 b3 0 t:=At.box hk1 rfl (Zk.mono hle1 hrep)
 obtain⟨c1,r1,k1⟩:=AtK.fst (AtK.via hbox)
 have hm:=AtK.vec (AtK.snd (AtK.via hbox))
 refine WC.conseq (S':=St w0 G0 G1 (WrL wb s xs.length++[])) (fun w hs=>hs.weaken ZhE) ?_
 refine sr<|mv rfl rfl<|yy (Y0.Znw rfl) rfl<|yy (Y0.loadRp ag40 rfl r1 k1) rfl ?_
 refine Zaj [] (ZlZ t.c c1) Ze rfl (YC.of E176 rfl) (by rw[hH,List.length_append]; omega) (hrow.mono hle1) r1 hz (fun s1 G2 hle2 hrow1=>?_)
 rw[hH] at hrow1 ⊢
 refine nx<|sr<|yy (Y0.Znx rfl) rfl<|yy (Y0.loadGA _ ag77 rfl (ZB _ _ _) (fun j v h=>hle2 _ _ _ (hm j v h))) rfl<|mv rfl rfl<|nx<|WC.block ?_
 refine WC.loopH (X:=Nat×(Option Addr×Nat×Option Ow)×Mem) (fun gx=>match gx with|⟨k,_,_⟩=>[(0,.pointer (some ⟨wb,0,none⟩)),(11,.agg (vecG (Value.int .i64) 8 t.m).toArray),(12,.int .i64 (k:Int))])
  (fun gx=>match gx with|⟨k,s',G⟩=>k<=8/\WrR G s' (xs++H++monW t.m k))
  (fun gx=>match gx with|⟨k,s',G⟩=>St w0 G0 G (WrL wb s' (xs++H++monW t.m k).length)) (fun gx=>8-gx.1) ⟨0,s1,G2⟩ (fc rfl (fc rfl (fc rfl fn))) ⟨by omega,by rw[show monW t.m 0=[] from rfl,List.append_nil]; exact hrow1⟩ (fun w hs=>by show St _ _ _ (WrL wb s1 (xs++H++monW t.m 0).length) _; rw[show monW t.m 0=[] from rfl,List.append_nil]; exact hs) ?_
 rintro⟨k,s',G⟩ ⟨hk,hr⟩
 dsimp only at hk hr ⊢
 have hmon:∀ k j,k<=j->(monW t.m k).length<=(monW t.m j).length:=fun k j h=>by
  induction j with
  | zero=>rw[show k=0 by omega]; exact Nat.le_refl _
  | succ j ih=>
   by_cases e:k=j+1
   .rw[e]; exact Nat.le_refl _
   refine Nat.le_trans (ih (by omega)) ?_
   show _<=(monW t.m j++_).length
   rw[List.length_append]; omega
 refine sr<|yy (Y0.lss rfl rfl) rfl<|nx<|WC.seq ?_
 refine WC.condD (p:=(k:Int)<8) rfl (fun hc=>?_) (fun hc=>?_)
 .have hw:i64.wrap ((k:Int)+1)=((k+1:Nat):Int):=by rw[IntKind.wrap_i64]; omega
  have hi:(0:Int)<=(k:Int)/\(k:Int)<(8:Nat):=⟨by omega,by omega⟩
  have h8:=hmon (k+1) 8 (by omega)
  have hs8:(monW t.m (k+1)).length=(monW t.m k).length+(natW (u64.wrap (getF t.m (k:Int)))).length:=List.length_append
  refine WC.skip<|WE.then<|WC.seq<|WC.block<|sr<|yy (Y0.index underlying77 sc3 sz3 rfl rfl hi (ZhD _ _ _ hi)) rfl<|sg rfl rfl<|nx<|WC.region<|mv rfl rfl<|mv rfl rfl<|yy (Y0.conv underlying3 underlying102 rfl) rfl ?_
  refine WL.conseq (S':=St w0 G0 G (WrL wb s' (xs++H++monW t.m k).length++[])) (fun w hs=>hs) ?_
  refine Zaj [] (Zdd _ (u64r _)) Ze rfl (YC.of E140 rfl) (by rw[List.length_append,List.length_append,List.length_append]; omega) hr trivial hz (fun s2 G3 hle3 hr2=>?_)
  refine WL.nil<|WE.inBlock<|WE.then<|WC.region<|yy (Y0.add rfl rfl) rfl ?_
  rw[hw]
  rw[List.append_assoc (xs++H)] at hr2 ⊢
  exact mv rfl rfl<|WL.nil<|WE.backH (x:=(k,s',G)) (k+1,s2,G3) ⟨by omega,hr2⟩ (fc rfl (fc rfl (fc rfl fn))) (fun w hs=>hs) (by show 8-(k+1)<8-k; omega)
 have hke:k=8:=by omega
 subst hke
 rw[List.append_assoc] at hr ⊢
 exact WC.exit<|WE.thenExit<|WE.thenExit<|WE.exitHere<|WE.retN<|WE.ret0 rfl ⟨rfl,s',rfl,hr⟩
theorem Zp8{wb n:Nat}{s:Option Addr×Nat×Option Ow}{x:Ow}{y:Option Ow}:Lo.sub (WrL wb s n++[(7,some x)]) ((7,some x)::(7,y)::(WrL wb s n++[])):=
 show Lo.sub [(6000,some ⟨wb,.cells #[.slice s.1 n s.2.1] 133 (0,0),0⟩),(5000,s.2.2),(7,some x)] _ from lc rfl (lc rfl (lc rfl ln))
theorem Zpi{wb n:Nat}{s:Option Addr×Nat×Option Ow}{x:Option Ow}:Lo.sub (WrL wb s n) (WrL wb s n++[(7,x)]):=
 show Lo.sub [(6000,some ⟨wb,.cells #[.slice s.1 n s.2.1] 133 (0,0),0⟩),(5000,s.2.2)] _ from lc rfl (lc rfl ln)
theorem Zl8{α:Type}(f:α->List Int)(l:List α)(k:Nat):((l.take k).flatMap f).length<=(l.flatMap f).length:=by
 have:=congrArg List.length (congrArg (List.flatMap f) (List.take_append_drop k l))
 rw[List.flatMap_append,List.length_append] at this
 omega
theorem ZeV{α:Type}(f:α->List Int){l:List α}{k:Nat}(h:k<l.length):(l.take (k+1)).flatMap f=(l.take k).flatMap f++f l[k]:=by
 rw[List.take_succ_eq_append_getElem h,List.flatMap_append]; simp
theorem Zpk(l:List Za)(p:Option Addr)(c:Nat):WrC 160 (fun wb=>[.slice p l.length c,.func (.func 161) #[.pointer (some ⟨wb,0,none⟩)] #[]]) (fun G=>SlR Zk G (.slice p l.length c) l) (polyW l):=by
 intro wb xs s hlen
 refine CtrL.enter (args:=[_,_,_]) (N:=23) func160 rfl rfl rfl (fun w0 G0 hL0 hpre=>?_)
 obtain⟨hrow,hsl⟩:=hpre
 have hz:w0.L.zero:=by rw[hL0]; exact Zce hrow
 have hll:l.length<=9223372036854775807:=by obtain⟨_,_,_,_,h,_⟩:=hsl; omega
 unfold polyW at hlen ⊢
 generalize hH:natW (u64.wrap (l.length:Int))=H at hlen ⊢
 rw[List.length_append,List.length_append] at hlen
 refine sr<|mv rfl rfl<|mv rfl rfl<|yy (Y0.lenC underlying53 rfl) rfl<|yy (Y0.conv underlying3 underlying102 rfl) rfl ?_
 refine WL.conseq (S':=St w0 G0 G0 (WrL wb s xs.length++[])) (fun w hs=>hs) ?_
 refine Zaj [] (Zdd _ (u64r _)) Ze rfl (YC.of E140 rfl) (by rw[hH,List.length_append]; omega) hrow trivial hz (fun s1 G2 hle2 hrow1=>?_)
 rw[hH] at hrow1 ⊢
 refine nx<|sr<|mv rfl rfl<|yy (Y0.lenC underlying53 rfl) rfl<|mv rfl rfl<|nx<|WC.block ?_
 refine WC.loopH (X:=Nat×(Option Addr×Nat×Option Ow)×Mem) (fun gx=>match gx with|⟨k,_,_⟩=>[(0,.pointer (some ⟨wb,0,none⟩)),(2,.func (.func 161) #[.pointer (some ⟨wb,0,none⟩)] #[]),(13,.slice p l.length c),(14,.int .i64 (l.length:Int)),(15,.int .i64 (k:Int))])
  (fun gx=>match gx with|⟨k,s',G⟩=>k<=l.length/\Mem.le G0 G/\WrR G s' (xs++H++(l.take k).flatMap termW))
  (fun gx=>match gx with|⟨k,s',G⟩=>St w0 G0 G (WrL wb s' (xs++H++(l.take k).flatMap termW).length)) (fun gx=>l.length-gx.1) ⟨0,s1,G2⟩ (fc rfl (fc rfl (fc rfl (fc rfl (fc rfl fn))))) ⟨Nat.zero_le _,hle2,by rw[List.take_zero,List.flatMap_nil,List.append_nil]; exact hrow1⟩ (fun w hs=>by show St _ _ _ (WrL wb s1 (xs++H++(l.take 0).flatMap termW).length) _; rw[List.take_zero,List.flatMap_nil,List.append_nil]; exact hs) ?_
 rintro⟨k,s',G⟩ ⟨hk1',hle,hr⟩
 dsimp only at hk1' hle hr ⊢
 refine sr<|yy (Y0.lss rfl rfl) rfl<|nx<|WC.seq ?_
 refine WC.condD (p:=(k:Int)<(l.length:Int)) rfl (fun hc=>?_) (fun hc=>?_)
 .have hkl:k<l.length:=by omega
  have hx:(0:Int)<=(k:Int)/\l[(k:Int).toNat]? = some l[k]:=⟨by omega,by simp[hkl]⟩
  have hw:i64.wrap ((k:Int)+1)=((k+1:Nat):Int):=by rw[IntKind.wrap_i64]; omega
  have hfl:=Zl8 termW l (k+1)
  rw[ZeV termW hkl,List.length_append] at hfl
  obtain⟨ct,rt,kt⟩:=SlR.at (hsl.mono hle) hx
  refine WC.skip<|WE.then<|WC.seq<|WC.block<|sr<|yy (Y0.idxR underlying53 sz91 (hsl.mono hle) rfl rfl hx) rfl<|yy (Y0.loadRp ag91 rfl rt kt) rfl ?_
  refine WL.alloc 7 Ze z91 rfl (fun b7=>?_)
  refine WL.storeLA 7 Ze sz91 rfl rfl rfl rfl (by rw[List.size_toArray]; exact Zk.len rt) (fun u hu=>Zk.one rt u (by simpa using hu)) ?_
  refine WL.conseq (fun w hs=>hs.weaken Zp8) ?_
  refine nx<|WC.region<|mv rfl rfl<|yy (Y0.loadLA 7 ag91 rfl rfl (by rw[List.size_toArray]; exact Zk.len rt)) rfl ?_
  refine Zaj [(7,_)] (Zp9 l[k] ct) Ze rfl (YC.ofB E161 rfl rfl) (by simp only[List.length_append]; omega) hr rt hz (fun s2 G3 hle3 hr2=>?_)
  refine WL.nil<|WE.inBlock<|WE.then<|WC.region<|yy (Y0.add rfl rfl) rfl ?_
  rw[hw]
  rw[List.append_assoc (xs++H),<- ZeV termW hkl] at hr2 ⊢
  exact mv rfl rfl<|WL.nil<|WE.backH (x:=(k,s',G)) (k+1,s2,G3) ⟨by omega,Mem.le_trans hle hle3,hr2⟩ (fc rfl (fc rfl (fc rfl (fc rfl (fc rfl fn))))) (fun w hs=>hs.weaken Zpi) (by show l.length-(k+1)<l.length-k; omega)
 have hke:k=l.length:=by omega
 subst hke
 rw[List.take_length,List.append_assoc] at hr ⊢
 exact WC.exit<|WE.thenExit<|WE.thenExit<|WE.exitHere<|WE.retN<|WE.ret0 rfl ⟨rfl,s',rfl,hr⟩
theorem Zp7(l:List Za)(p:Option Addr)(c:Nat):WrC 142 (fun _=>[.slice p l.length c]) (fun G=>SlR Zk G (.slice p l.length c) l) (polyW l):=by
 intro wb xs s hlen
 refine CtrL.enter (args:=[_,_]) (N:=9) func142 rfl rfl rfl (fun w0 G0 hL0 hpre=>?_)
 obtain⟨hrow,hsl⟩:=hpre
 refine WC.region<|mv rfl rfl<|mv rfl rfl<|mv rfl rfl<|yy (Y0.makeFunc rfl rfl) rfl ?_
 refine WL.conseq (S':=St w0 G0 G0 (WrL wb s xs.length++[])) (fun w hs=>hs) ?_
 refine Zaj [] (Zpk l p c) Ze rfl (YC.of E160 rfl) hlen hrow hsl (by rw[hL0]; exact Zce hrow) (fun s' G' hle hrow'=>?_)
 exact WL.nil<|WE.retN<|WE.ret0 rfl ⟨rfl,s',rfl,hrow'⟩
theorem Zpj(l:List (List Za))(p:Option Addr)(c:Nat):WrC 141 (fun wb=>[.slice p l.length c,.func (.func 142) #[.pointer (some ⟨wb,0,none⟩)] #[]]) (fun G=>SlR RP G (.slice p l.length c) l) (polysW l):=by
 intro wb xs s hlen
 refine CtrL.enter (args:=[_,_,_]) (N:=23) func141 rfl rfl rfl (fun w0 G0 hL0 hpre=>?_)
 obtain⟨hrow,hsl⟩:=hpre
 have hz:w0.L.zero:=by rw[hL0]; exact Zce hrow
 have hll:l.length<=9223372036854775807:=by obtain⟨_,_,_,_,h,_⟩:=hsl; omega
 unfold polysW at hlen ⊢
 generalize hH:natW (u64.wrap (l.length:Int))=H at hlen ⊢
 rw[List.length_append,List.length_append] at hlen
 refine sr<|mv rfl rfl<|mv rfl rfl<|yy (Y0.lenC underlying44 rfl) rfl<|yy (Y0.conv underlying3 underlying102 rfl) rfl ?_
 refine WL.conseq (S':=St w0 G0 G0 (WrL wb s xs.length++[])) (fun w hs=>hs) ?_
 refine Zaj [] (Zdd _ (u64r _)) Ze rfl (YC.of E140 rfl) (by rw[hH,List.length_append]; omega) hrow trivial hz (fun s1 G2 hle2 hrow1=>?_)
 rw[hH] at hrow1 ⊢
 refine nx<|sr<|mv rfl rfl<|yy (Y0.lenC underlying44 rfl) rfl<|mv rfl rfl<|nx<|WC.block ?_
 refine WC.loopH (X:=Nat×(Option Addr×Nat×Option Ow)×Mem) (fun gx=>match gx with|⟨k,_,_⟩=>[(0,.pointer (some ⟨wb,0,none⟩)),(2,.func (.func 142) #[.pointer (some ⟨wb,0,none⟩)] #[]),(13,.slice p l.length c),(14,.int .i64 (l.length:Int)),(15,.int .i64 (k:Int))])
  (fun gx=>match gx with|⟨k,s',G⟩=>k<=l.length/\Mem.le G0 G/\WrR G s' (xs++H++(l.take k).flatMap polyW))
  (fun gx=>match gx with|⟨k,s',G⟩=>St w0 G0 G (WrL wb s' (xs++H++(l.take k).flatMap polyW).length)) (fun gx=>l.length-gx.1) ⟨0,s1,G2⟩ (fc rfl (fc rfl (fc rfl (fc rfl (fc rfl fn))))) ⟨Nat.zero_le _,hle2,by rw[List.take_zero,List.flatMap_nil,List.append_nil]; exact hrow1⟩ (fun w hs=>by show St _ _ _ (WrL wb s1 (xs++H++(l.take 0).flatMap polyW).length) _; rw[List.take_zero,List.flatMap_nil,List.append_nil]; exact hs) ?_
 rintro⟨k,s',G⟩ ⟨hk1',hle,hr⟩
 dsimp only at hk1' hle hr ⊢
 refine sr<|yy (Y0.lss rfl rfl) rfl<|nx<|WC.seq ?_
 refine WC.condD (p:=(k:Int)<(l.length:Int)) rfl (fun hc=>?_) (fun hc=>?_)
 .have hkl:k<l.length:=by omega
  have hx:(0:Int)<=(k:Int)/\l[(k:Int).toNat]? = some l[k]:=⟨by omega,by simp[hkl]⟩
  have hw:i64.wrap ((k:Int)+1)=((k+1:Nat):Int):=by rw[IntKind.wrap_i64]; omega
  have hfl:=Zl8 polyW l (k+1)
  rw[ZeV polyW hkl,List.length_append] at hfl
  obtain⟨q,qc,qe,qh⟩:=AtK.sl (SlR.at (hsl.mono hle) hx)
  refine WC.skip<|WE.then<|WC.seq<|WC.block<|sr<|yy (Y0.idxR underlying44 sz54 (hsl.mono hle) rfl rfl hx) rfl<|yy (Y0.loadG sc54 rfl qe) rfl ?_
  refine sg rfl rfl<|nx<|WC.region<|mv rfl rfl<|mv rfl rfl ?_
  refine WL.conseq (S':=St w0 G0 G (WrL wb s' (xs++H++(l.take k).flatMap polyW).length++[])) (fun w hs=>hs) ?_
  refine Zaj [] (Zp7 l[k] q qc) Ze rfl (YC.ofB E142 rfl rfl) (by simp only[List.length_append]; omega) hr qh hz (fun s2 G3 hle3 hr2=>?_)
  refine WL.nil<|WE.inBlock<|WE.then<|WC.region<|yy (Y0.add rfl rfl) rfl ?_
  rw[hw]
  rw[List.append_assoc (xs++H),<- ZeV polyW hkl] at hr2 ⊢
  exact mv rfl rfl<|WL.nil<|WE.backH (x:=(k,s',G)) (k+1,s2,G3) ⟨by omega,Mem.le_trans hle hle3,hr2⟩ (fc rfl (fc rfl (fc rfl (fc rfl (fc rfl fn))))) (fun w hs=>hs) (by show l.length-(k+1)<l.length-k; omega)
 have hke:k=l.length:=by omega
 subst hke
 rw[List.take_length,List.append_assoc] at hr ⊢
 exact WC.exit<|WE.thenExit<|WE.thenExit<|WE.exitHere<|WE.retN<|WE.ret0 rfl ⟨rfl,s',rfl,hr⟩
theorem Zlx(l:List (List Za))(p:Option Addr)(c:Nat):WrC 119 (fun _=>[.slice p l.length c]) (fun G=>SlR RP G (.slice p l.length c) l) (polysW l):=by
 intro wb xs s hlen
 refine CtrL.enter (args:=[_,_]) (N:=9) func119 rfl rfl rfl (fun w0 G0 hL0 hpre=>?_)
 obtain⟨hrow,hsl⟩:=hpre
 refine WC.region<|mv rfl rfl<|mv rfl rfl<|mv rfl rfl<|yy (Y0.makeFunc rfl rfl) rfl ?_
 refine WL.conseq (S':=St w0 G0 G0 (WrL wb s xs.length++[])) (fun w hs=>hs) ?_
 refine Zaj [] (Zpj l p c) Ze rfl (YC.of E141 rfl) hlen hrow hsl (by rw[hL0]; exact Zce hrow) (fun s' G' hle hrow'=>?_)
 exact WL.nil<|WE.retN<|WE.ret0 rfl ⟨rfl,s',rfl,hrow'⟩
theorem Zp6(k:Zg)(hn:0<=k.n)(cs:List Value):WrC 81 (fun _=>[.agg cs.toArray]) (fun G=>Zcr.rep G cs k) (coreW k):=by
 intro wb xs s hlen
 refine CtrL.enter (args:=[_,_]) (N:=16) func81 rfl rfl rfl (fun w0 G0 hL0 hpre=>?_)
 obtain⟨hrow,hrep⟩:=hpre
 have hz:w0.L.zero:=by rw[hL0]; exact Zce hrow
 unfold coreW at hlen ⊢
 simp only[List.length_append] at hlen
 refine sr<|WL.box 3 Ze rfl rfl (fun b3=>nx ?_)
 refine WC.knowBox 3 rfl (by rw[hL0]; rfl) (fun G1 hle1 hk1 _=>?_)
 have hbox:At Zcr G1 b3 0 k:=At.box hk1 rfl (Zcr.mono hle1 hrep)
 obtain⟨p1,c1,p2,c2,hk,h1,h2⟩:=ZlR hbox
 refine WC.conseq (S':=St w0 G0 G1 (WrL wb s xs.length++[])) (fun w hs=>hs.weaken ZhE) ?_
 refine sr<|mv rfl rfl<|yy (Y0.Zeo rfl) rfl<|yy (Y0.loadG sc3 rfl (hk 0 _ rfl)) rfl ?_
 refine Zaj [] (Zok k.n hn) Ze rfl (YC.of E118 rfl) (by simp only[List.length_append]; omega) (hrow.mono hle1) trivial hz (fun s1 G2 hle2 hrow1=>?_)
 refine nx<|sr<|mv rfl rfl<|yy (Y0.Zfq rfl) rfl<|yy (Y0.loadG sc44 rfl (hle2 _ _ _ (hk 1 _ rfl))) rfl ?_
 refine Zaj [] (Zlx k.eqs p1 c1) Ze rfl (YC.of E119 rfl) (by simp only[List.length_append]; omega) hrow1 (h1.mono hle2) hz (fun s2 G3 hle3 hrow2=>?_)
 refine nx<|WC.region<|mv rfl rfl<|yy (Y0.Zfr rfl) rfl<|yy (Y0.loadG sc44 rfl (hle3 _ _ _ (hle2 _ _ _ (hk 2 _ rfl)))) rfl ?_
 refine Zaj [] (Zlx k.neqs p2 c2) Ze rfl (YC.of E119 rfl) (by simp only[List.length_append]; omega) hrow2 (h2.mono (Mem.le_trans hle2 hle3)) hz (fun s3 G4 hle4 hrow3=>?_)
 have e:xs++numW k.n++polysW k.eqs++polysW k.neqs=xs++(numW k.n++polysW k.eqs++polysW k.neqs):=by simp only[List.append_assoc]
 rw[e] at hrow3 ⊢
 exact WL.nil<|WE.retN<|WE.ret0 rfl ⟨rfl,s3,rfl,hrow3⟩
theorem Zlz(k:Zg)(p1:Option Addr)(c1:Nat)(p2:Option Addr)(c2:Nat)(r:ByteArray)(hr:(ZgM k).Ret r):Ctr prog 38 #[.agg ([.int .i64 k.n,.slice p1 k.eqs.length c1,.slice p2 k.neqs.length c2]).toArray] (fun G=>SlR RP G (.slice p1 k.eqs.length c1) k.eqs/\SlR RP G (.slice p2 k.neqs.length c2) k.neqs) (fun G v=>v = .string r):=by
 refine Ctr.enter (args:=[_]) (N:=12) func38 rfl rfl rfl (fun w0 G0 hL0 hpre=>?_)
 obtain⟨h1,h2⟩:=hpre
 obtain⟨v,hv,hr⟩:=hr
 have h0:∀ i,w0.L.get i=none:=fun i=>by rw[hL0]; rfl
 have hz:w0.L.zero:=by rw[hL0]; intro q hq; cases hq
 refine sr<|WL.box 1 Ze rfl rfl (fun b1=>?_)
 refine sg rfl rfl<|nx ?_
 refine WC.knowBox 1 rfl (h0 _) (fun G1 hle1 hk1 _=>?_)
 have hrep:Zcr.rep G1 [.int .i64 k.n,.slice p1 k.eqs.length c1,.slice p2 k.neqs.length c2] k:=⟨[_],[_,_],rfl,rfl,⟨[_],[_],rfl,⟨_,rfl,h1.mono hle1⟩,⟨_,rfl,h2.mono hle1⟩⟩⟩
 have hk:∀ j u,([.int .i64 k.n,.slice p1 k.eqs.length c1,.slice p2 k.neqs.length c2]:List Value)[j]? = some u->G1 b1 (0+j)=some u:=fun j u h=>by rw[Nat.zero_add]; exact hk1 j u (by simpa [Value.cells] using h)
 refine WC.conseq (S':=St w0 G0 G1 []) (fun w hs=>hs.weaken ln) ?_
 refine WC.seq<|sr<|yy (Y0.loadRp ag46 rfl hrep hk) rfl ?_
 refine WL.call0 Ze rfl (YC.of E80 rfl) (Zj9 _ _ _ _ _ _ hv) rfl ⟨h1.mono hle1,h2.mono hle1⟩ ?_
 refine yy (Y0.not rfl) rfl<|nx ?_
 refine WC.cond (b:=!v) rfl (fun hc=>?_) (fun hc=>?_)
 .have hv0:v=false:=by cases v <;> simp_all
  subst hv0
  replace hr:_=r:=hr
  subst hr
  exact sr<|sg rfl rfl<|nx<|WC.ret<|WE.thenRet<|WE.ret1 rfl rfl rfl
 have hv0:v=true:=by cases v <;> simp_all
 subst hv0
 obtain⟨⟨hn,hlen⟩,hr⟩:=hr
 replace hr:_=r:=hr
 subst hr
 refine WC.skip<|WE.then<|sr<|WL.alloc 6000 Ze z133 rfl (fun wb=>?_)
 refine WL.conseq (S':=St w0 G0 G1 (WrL wb (none,0,none) ([]:List Int).length++[])) (fun w hs=>hs.weaken (show Lo.sub [(6000,some ⟨wb,.cells #[.slice none 0 0] 133 (0,0),0⟩),(5000,none)] _ from lc rfl (lw ln))) ?_
 refine nx<|sr<|yy (Y0.loadRp ag46 rfl hrep hk) rfl ?_
 refine Zaj [] (Zp6 k hn _) Ze rfl (YC.of E81 rfl) hlen RowR.nil hrep hz (fun s' G' hle hrow=>?_)
 refine nx<|sr<|yy (Y0.Zdj rfl) rfl<|yy (Y0.loadL 6000 sc23 rfl rfl rfl) rfl ?_
 refine WL.freezeT 5000 hrow rfl (h0 _) (fun tk4 G4 hle4 hsl4 _=>?_)
 refine yy (Y0.convBS underlying23 underlying5 underlying9 hsl4 rfl) rfl<|sg rfl rfl<|nx<|WC.ret ?_
 exact WE.ret1 rfl rfl rfl
theorem bQ'{t f e j h r}(hr:(ZA t).Ret r):CtrL prog 137 #[.slice f j e,.func (.func 138) #[] #[]] [(5000,h)] (fun G=>RowR g' 91 G (.slice f j e) t h) (fun G L v=>∃ k,L=[(5000,k)]/\v = .tuple #[]/\RowR g' 91 G (.slice f j e) r k):=by
 refine bl' (args:=[_,_]) (N:=14) func137 z z z (fun q A u m=>?_)
 have d:=m
 have hz:q.L.zero:=by
  rw[u]; intro p o x B
  simp only[List.mem_cons,List.not_mem_nil,or_false] at o
  subst o; exact cC' d B
 refine sr<|mw0 z<|yw0 (Y0.lenRow N' d z)<|sx1 z<|w'<|mw0 z<|mw0 z<|mw0 z<|yw0 (K' aC' underlying168 z)<|oE hr fun F n hr=>T' z z (k' E135 z) (dR' n) z (trivial)<|mw0 z<|oE hr fun E l hr=>bo' z z (k' E158 z) (bV' l) z (d) (lc z ln) hz (fun D s C y c=>?_)
 obtain⟨i,rfl,rfl,g⟩:=c
 refine p'<|WE.retN ?_
 obtain rfl:_=r:=hr
 refine bh' (S':=St q A s [(5000,i)]) (w1 z)<|WE.ret0 z  ⟨_,z,z,g⟩
theorem es'{o l h r}(hr:(Zck o).Ret r):CtrL prog 116 #[.map (some l)] [(5500,h)] (fun G=>MapR ky77 (RvA bm' G) (.map (some l)) o h) (fun G L v=>L=[(5500,h)]/\(∃ zp zc,v=sv0 zp r zc/\sl g' G zp zc r)):=by
 refine bl' (args:=[_]) (N:=28) func116 z z z (fun w0 T D ak=>?_)
 have q:=ak
 have hz:w0.L.zero:=by
  rw[D]; intro p hp x hx
  simp only[List.mem_cons,List.not_mem_nil,or_false] at hp
  subst hp; exact MapR.zero q hx
 refine sr<|sw0 z<|nr<|mw0 z<|yw0 (Y0.lenM 5500 ds' q z z)<|oA hr fun al hr=>WL.makeC (r:=g') (e:=91) (n:=(o.length:Int)) 4008 z z N' el91 z (by decide) z z al fun p1 aB ae av=>sx1 z<|c'<|sr<|mw0 z<|WL.rangeM 5500 4010 z z ds' q z z fun ab Z ag=>nx<|aa' (X:=(List Za)×Option Addr×Nat×Option Ow×List ((Fin 8->Int)×Zc)×Option Ow×Mem) hr (fun ⟨s,C,B,m,R1,P,A⟩=>⟨(s,R1),[(3,sv0 C s B),(0,.map (some l)),(10,ab)],Mem.le T A/\RowR g' 91 A (sv0 C s B) s m/\IterR ky77 (RvA bm' A) h ab R1 none P,St w0 T A [(4003,m),(5500,h),(4010,P)]⟩) (fun (⟨I,K,J,E,R⟩:(List Za)×Option Addr×Nat×Option Ow×Mem)=>⟨I,[(3,sv0 K I J),(0,.map (some l))],Mem.le T R/\RowR g' 91 R (sv0 K I J) I E,St w0 T R [(4003,E),(5500,h)]⟩) ⟨([]:List Za),p1,aB,ae,o,Z,T⟩ z (fz0 z) ⟨mr,av,(IterR.forget ag)⟩ ?_ ?_ ?_
 .intro w O
  have O:=O.rekey (i:=4008) (j:=4003) z (by rw[D]; rfl)
  exact O.weaken (lc z (lc z (lc z ln)))
 .rintro _ ⟨s,C,B,m,R1,P,A⟩ ⟨F,M,am⟩ hr
  refine sr<|WL.nextM 5500 4010 z z am z z z (fun Ra k Rb U Y Q aN aP=>?_) (fun Y=>?_)
  .replace hr:=hr.2 _ _ _ Y
   generalize Ra++Rb=R2 at hr Q
   refine ex0 z<|nx<|c'<|aR' z<|t'<|b'<|U'<|sr<|WL.entryM 5500 4010 z z Q z z z (fun u1 az aS=>?_)
   obtain⟨aW,rfl,aC⟩:=az
   obtain⟨c,g,f,d,rfl,y,t⟩:=ZmI aC
   refine ex0 z<|ex0 z<|P' 4 z z77 z fun b1=>P' 5 z z40 z fun b2=>x' 4 z sz77 z z z (an' _ _ _) (an' _ _ _) (fun u hu=>Rp.one (Rp.vec .i64 8) (G:=A) (x:=k.1) (cs:=vi8 k.1) z u (by first|simpa using hu|simpa [Value.cells] using hu))<|stB 5 bk' z<|nr<|yw0 (C' 5 aN' z z z)<|oE hr fun aT ai hr=>T' z z (k' E66 z) (bK' ai) z (⟨y,t⟩)<|yw0 (bU' z z)<|nx<|I' hr z (fun aD hr=>?_) (fun aD hr=>?_)
   .refine w'<|mw0 z<|yw0 (C' 5 aN' z z z)<|yw0 (C' 4 bt' z z (an' _ _ _))<|yw0 (ax' (vs:=#[(0,.agg ((v40' k.2 c g f d)).toArray),(1,.agg (vi8 k.1).toArray)]) (v:=.agg (((v40' k.2 c g f d):List Value)++(vi8 k.1)).toArray) z z (fun _=>by kernel_rfl))<|aO' (e:=91) (r:=g') (vs:=#[(0,.agg (((v40' k.2 c g f d):List Value)++(vi8 k.1)).toArray)]) (cs:=(((v40' k.2 c g f d):List Value)++(vi8 k.1))++([])) ([(Za.mk k.2 k.1)]:List Za) z z z z z (by decide) (fun _=>by kernel_rfl) ⟨((v40' k.2 c g f d):List Value)++(vi8 k.1),[],z,⟨(v40' k.2 c g f d),vi8 k.1,z,⟨(v38' k.2.num c g),(v38' k.2.den f d),z,⟨[.bool k.2.num.neg],[sv0 c k.2.num.mag g],z,z,⟨_,z,y⟩⟩,⟨[.bool k.2.den.neg],[sv0 f k.2.den.mag d],z,z,⟨_,z,t⟩⟩⟩,z⟩,z⟩ (key:=999) z (by rw[D]; rfl) (fun p2 an H ax=>?_)
    refine oA hr fun af hr=>dG' (r:=g') (e:=91) 4003 z z N' el91 z (by decide) z z (M.mono H) z ax af fun p3 ar ac aw=>sw0 z<|p'<|E'<|O' ⟨(s++[(Za.mk k.2 k.1)]),p3,ar,ac,R2,U,an⟩ hr ⟨(mx F H),aw,(IterR.forget (IterR.monoA Q H))⟩ (fz0 z) (w3 z z z)
   refine t'<|E'<|O' ⟨s,C,B,m,R2,U,A⟩ hr ⟨F,M,(IterR.forget Q)⟩ (fz0 z) (w3 z z z)
  replace hr:=hr.1 Y
  refine ex0 z<|nx<|c'<|bJ' z<|Z'<|f'<|f'<|F'<|ab' ⟨s,C,B,m,A⟩ ⟨hr,F,M⟩ (fz0 z) (w2 z z)
 rintro⟨I,K,J,E,R⟩ ⟨hr,aF,aj⟩
 refine b'<|sr<|mw0 z<|oE hr fun aV ah hr=>bM' (fun w O=>O.rekey (i:=4003) (j:=5000) z (by rw[D]; rfl))<|bo' z z (k' E137 z) (bQ' ah) z (aj) (lc z ln) hz (fun aO aU aL aH S=>?_)
 obtain⟨au,rfl,rfl,V⟩:=S
 refine bM' (fun w O=>O.rekey (i:=5000) (j:=4003) z (by rw[D]; rfl))<|nr<|mw0 z<|sx1 z<|q' ?_
 obtain rfl:_=r:=hr
 refine WE.freezeT (r:=g') (e:=91) 4003 V z (by rw[D]; rfl) fun aR ao aE W aG=>bh' (S':=St w0 T ao [(5500,h)]) (w1 z)<|o' z z ⟨z,⟨_,_,(bs' W),(bq' W)⟩⟩
theorem eh'{C l B D r}(hr:(Zb1 C l).Ret r):Ctr prog 79 #[sv0 B C D,.agg (vi8 l).toArray] (fun G=>sl g' G B D C) (wlt' g' r):=by
 refine B' (args:=[_,_]) (N:=59) func79 z z z (fun T L aa au=>?_)
 have ab:=au
 have hz:T.L.zero:=by rw[aa]; intro p hp; simp at hp
 refine sr<|ah' 3 z z z fun F=>sw0 z<|sw0 z<|nr<|P' 6 z z155 z fun b2=>nx<|c'<|sr<|yw0 (C' 3 ag58 z z (an' _ _ _))<|mw0 z<|nx<|aa' (X:=Int×(Fin 8->Bool)×Mem) hr (fun ⟨o,R,S⟩=>⟨(o,R),[(0,sv0 B C D),(3,pt0 F),(6,pt0 b2),(15,.agg (vi8 l).toArray),(16,i' o)],Mem.le L S,St T L S [(3,bk0 F (vi8 l) 58),(6,bk0 b2 (vecG Value.bool 8 R) 155)]⟩) (fun (gx:Mem)=>match gx with|E=>⟨(.inr ()),[(0,sv0 B C D),(3,pt0 F)],Mem.le L E,St T L E [(3,bk0 F (vi8 l) 58)]⟩) ⟨0,(fun _=>false),L⟩ z (fz0 z) mr (w2 z z) ?_ ?_
 .rintro _ ⟨o,R,S⟩ V hr
  refine sr<|ls0 z<|nx<|c'<|I' hr z (fun aC hr=>?_) (fun aC hr=>?_)
  .refine t'<|b'<|c'<|U'<|sr<|oA hr fun ai hr=>yw0 (Y0.index dA' sc3 sz3 z z ai (br' _ _ _ ai))<|sx1 z<|c'<|sr<|mw0 z<|aQ' hr z (ae' z z) z (fun aI hr=>?_) (fun aI hr=>?_)
   .refine mw0 z<|sn2 z<|pt00 z<|mw0 z<|sn3 z<|pt00 z<|nx<|aR' z<|sr<|sw0 z<|sx1 z<|q'<|j'<|H'<|j'<|j'<|H'<|az'<|j' ?_
    obtain rfl:_=r:=hr
    exact aW' z z z ⟨_,_,z,(ay' g' _)⟩
   refine mw0 z<|gm0 z<|aQ' hr (as' z z) (bc' z z) z (fun aB hr=>?_) (fun aB hr=>?_)
   .refine pf00 z<|mw0 z<|sn3 z<|pt00 z<|nx<|aR' z<|sr<|sw0 z<|sx1 z<|q'<|j'<|H'<|j'<|j'<|H'<|az'<|j' ?_
    obtain rfl:_=r:=hr
    exact aW' z z z ⟨_,_,z,(ay' g' _)⟩
   refine pf00 z<|mw0 z<|gm0 z<|oA hr fun aj hr=>gy z z (bn' underlying155 sz4 z z aj) z<|gy z z (A' 6 sc4 z z (br' _ _ _ aj)) z<|pf00 z<|nx<|aX' hr z (fun az hr=>?_) (fun az hr=>?_)
   .exact (show False from hr).elim
   refine t'<|b'<|w'<|mw0 z<|oA hr fun ay hr=>yw0 (bn' underlying155 sz4 z z ay)<|cr' 6 (vecG Value.bool 8 (setF R ((getF l o).toNat) true)).toArray z sz4 z z z (by first|(rw[an']; omega)|(show _<(vecG _ _ _).toArray.size; rw[an']; omega)) z (Za5 _ _ _ _ _)<|p'<|E'<|b'<|w'<|ad0 z<|mw0 z<|p'<|O' ⟨i64.wrap (o+1),setF R ((getF l o).toNat) true,S⟩ hr V (fz0 z) (w2 z z)
  refine Z'<|f'<|f'<|F'<|ab' S ⟨hr,V⟩ (fz0 z) (w1 z)
 rintro E ⟨hr,K⟩
 refine b'<|sr<|WL.makeMap (ky:=ky77) (Rv:=RvA bm' E) 4033 z z fun H ae al=>sx1 z<|c'<|sr<|mw0 z<|yw0 (D' N' (ab.mono K) z)<|mw0 z<|nx<|aa' (X:=Int×(List ((Fin 8->Int)×Zc))×Option Ow×Mem) hr (fun ⟨n,P,q,s⟩=>⟨(n,P),[(3,pt0 F),(34,sv0 B C D),(35,i' (C.length:Int)),(36,i' n),(9,.map (some H))],Mem.le E s/\MapR ky77 (RvA bm' s) (.map (some H)) P q,St T L s [(3,bk0 F (vi8 l) 58),(4033,q)]⟩) (fun (gx:(List ((Fin 8->Int)×Zc))×Option Ow×Mem)=>match gx with|⟨ac,J,W⟩=>⟨ac,[(9,.map (some H))],Mem.le E W/\MapR ky77 (RvA bm' W) (.map (some H)) ac J,St T L W [(4033,J)]⟩) ⟨0,[],ae,E⟩ z (fz0 z) ⟨mr,al⟩ (w2 z z) ?_ ?_
 .rintro _ ⟨n,P,q,s⟩ ⟨y,Z⟩ hr
  refine sr<|ls0 z<|nx<|c'<|I' hr z (fun aJ hr=>?_) (fun aJ hr=>?_)
  .refine t'<|b'<|c'<|U'<|sr<|oE hr fun g ak hr=>yw0 (Q' N' by' (ab.mono (mx K y)) z z ak) ?_
   obtain⟨c,e,f,d,ax,t,v⟩:=bB' (M' (ad' ab ak) (mx K y))
   refine yw0 (aP' _ ag91 z z ax)<|P' 11 z z91 z fun b3=>x' 11 z by' z z z z z (fun u hu=>Rp.one g' (G:=s) (x:=g) (cs:=((v40' g.c c e f d):List Value)++(vi8 g.m)) ⟨(v40' g.c c e f d),vi8 g.m,z,⟨(v38' g.c.num c e),(v38' g.c.den f d),z,⟨[.bool g.c.num.neg],[sv0 c g.c.num.mag e],z,z,⟨_,z,t⟩⟩,⟨[.bool g.c.den.neg],[sv0 f g.c.den.mag d],z,z,⟨_,z,v⟩⟩⟩,z⟩ u (by first|simpa using hu|simpa [Value.cells] using hu))<|nr<|P' 12 z z77 z fun b4=>nx<|c'<|sr<|yw0 (bb' z)<|yw0 (ag' (vi8 g.m).toArray 11 bt' z z (an' _ _ _) (aq' ((v40' g.c c e f d)) (vi8 g.m) ([])))<|mw0 z<|nx<|aa' (X:=Int×(Fin 8->Int)×Mem) hr (fun ⟨m,I,M⟩=>⟨(m,I),[(3,pt0 F),(11,pt0 b3),(12,pt0 b4),(34,sv0 B C D),(35,i' (C.length:Int)),(36,i' n),(41,.agg (vi8 g.m).toArray),(42,i' m),(9,.map (some H))],Mem.le s M,St T L M [(3,bk0 F (vi8 l) 58),(11,bk0 b3 (((v40' g.c c e f d):List Value)++(vi8 g.m)) 91),(12,bk0 b4 (vi8 I) 77),(4033,q)]⟩) (fun (⟨Q,O⟩:(Fin 8->Int)×Mem)=>⟨Q,[(3,pt0 F),(11,pt0 b3),(12,pt0 b4),(34,sv0 B C D),(35,i' (C.length:Int)),(36,i' n),(9,.map (some H))],Mem.le s O,St T L O [(3,bk0 F (vi8 l) 58),(11,bk0 b3 (((v40' g.c c e f d):List Value)++(vi8 g.m)) 91),(12,bk0 b4 (vi8 Q) 77),(4033,q)]⟩) ⟨0,(fun _=>0),s⟩ z (fz0 z) mr (w4 z z z z) ?_ ?_
   .rintro _ ⟨m,I,M⟩ U hr
    refine sr<|ls0 z<|nx<|c'<|I' hr z (fun aA hr=>?_) (fun aA hr=>?_)
    .refine t'<|b'<|c'<|U'<|sr<|mw0 z<|oA hr fun ah hr=>yw0 (Y0.index av' sc3 sz3 z z ah (br' _ _ _ ah))<|sw0 z<|sx1 z<|w'<|mw0 z<|oA hr fun ag hr=>yw0 (bn' dA' sz3 z z ag)<|yw0 (A' 3 sc3 z z (br' _ _ _ ag))<|mw0 z<|oA hr fun aH hr=>yw0 (bn' av' sz3 z z aH)<|cr' 12 (vi8 (setF I ((getF l m).toNat) (getF g.m m))).toArray z sz3 z z z (by first|(rw[an']; omega)|(show _<(vecG _ _ _).toArray.size; rw[an']; omega)) z (Za5 _ _ _ _ _)<|p'<|E'<|b'<|w'<|ad0 z<|mw0 z<|p'<|O' ⟨i64.wrap (m+1),setF I ((getF l m).toNat) (getF g.m m),M⟩ hr U (fz0 z) (w4 z z z z)
    refine Z'<|f'<|f'<|F'<|ab' ⟨I,M⟩ ⟨hr,U⟩ (fz0 z) (w4 z z z z)
   rintro⟨Q,O⟩ ⟨hr,A⟩
   refine b'<|w'<|mw0 z<|yw0 (C' 12 bt' z z (an' _ _ _))<|yw0 (bu' z)<|yw0 (ag' ((v40' g.c c e f d)).toArray 11 aN' z z z (aq' ([]) ((v40' g.c c e f d)) ((vi8 g.m)))) ?_
   obtain⟨⟨aF,av⟩,hr⟩:=hr
   refine WL.mapPut (Rv':=RvA bm' O) (k:=Q) (z:=g.c) 4033 z ds' (MapR.monoA Z A) z z z z aF ⟨(v40' g.c c e f d),z,⟨(v38' g.c.num c e),(v38' g.c.den f d),z,⟨[.bool g.c.num.neg],[sv0 c g.c.num.mag e],z,z,⟨_,z,(t.mono A)⟩⟩,⟨[.bool g.c.den.neg],[sv0 f g.c.den.mag d],z,z,⟨_,z,(v.mono A)⟩⟩⟩⟩ (fun _ _ _ _ h=>h) av fun aw ar=>p'<|E'<|b'<|w'<|ad0 z<|mw0 z<|p'<|O' ⟨i64.wrap (n+1),(mput P Q g.c),aw,O⟩ hr ⟨(mx y A),ar⟩ (fz0 z) (w2 z z)
  refine Z'<|f'<|f'<|F'<|ab' ⟨P,q,s⟩ ⟨hr,y,Z⟩ (f1 z) (w1 z)
 rintro⟨ac,J,W⟩ ⟨hr,aK,ap⟩
 refine b'<|sr<|mw0 z<|oE hr fun aR ao hr=>bM' (fun w hs=>hs.rekey (i:=4033) (j:=5500) z (by rw[aa]; rfl))<|WL.callRO z z (k' E116 z) (es' ao) z (ap) (lc z ln) (fun i hi=>by simp only[List.map_cons,List.map_nil,List.mem_cons,List.not_mem_nil,or_false] at hi; subst hi; exact z) hz (fun aN aQ aL Y=>?_)
 obtain⟨aP,aM,rfl,aq⟩:=Y
 refine bM' (fun w hs=>hs.rekey (i:=5500) (j:=4033) z (by rw[aa]; rfl))<|sw0 z<|sx1 z<|q' ?_
 obtain rfl:_=r:=hr
 exact aW' z z z ⟨_,_,z,aq⟩
theorem Zd6(d:(List (List Za)))(k:(Fin 8->Int))(D:Option Addr)(C:Nat)(r:(List (List Za)))(hr:(ZbQ d k).Ret r):Ctr prog 37 #[sv0 D d C,.agg (vi8 k).toArray] (fun G=>sl (Rp.sl g') G D C d) (wl' (Rp.sl g') r):=by
 refine B' (args:=[_,_]) (N:=29) func37 z z z (fun R A W K=>?_)
 have p:=K
 refine sr<|ah' 3 z z z fun O=>sw0 z<|nr<|mw0 z<|yw0 (D' al' p z)<|oA hr fun P hr=>bj' (r:=(Rp.sl g')) (e:=54) (n:=(d.length:Int)) (zx:=[]) 4010 z z al' el54 z (by decide) (by decide) ⟨_,z,(ay' _ _)⟩ z z P fun E J T=>sx1 z<|c'<|sr<|mw0 z<|yw0 (D' al' p z)<|mw0 z<|nx<|aa' (X:=(List (List Za))×Option Ow×Int×Mem) hr (fun ⟨m,f,c,l⟩=>⟨(m,c),[(3,pt0 O),(5,.slice E (d.length:Int).toNat ((d.length:Int).toNat)),(11,sv0 D d C),(12,i' (d.length:Int)),(13,i' c)],Mem.le A l/\RowR (Rp.sl g') 54 l (.slice E (d.length:Int).toNat ((d.length:Int).toNat)) m f,St R A l [(3,bk0 O (vi8 k) 58),(4010,f)]⟩) (fun (⟨B,h,q⟩:(List (List Za))×Option Ow×Mem)=>⟨B,[(5,.slice E (d.length:Int).toNat ((d.length:Int).toNat))],Mem.le A q/\RowR (Rp.sl g') 54 q (.slice E (d.length:Int).toNat ((d.length:Int).toNat)) B h,St R A q [(4010,h)]⟩) ⟨(List.replicate (d.length:Int).toNat []),J,0,A⟩ z (fz0 z) ⟨mr,T⟩ (w2 z z) ?_ ?_
 .rintro _ ⟨m,f,c,l⟩ ⟨g,o⟩ hr
  refine sr<|ls0 z<|nx<|c'<|I' hr z (fun Y hr=>?_) (fun Y hr=>?_)
  .refine t'<|b'<|c'<|U'<|sr<|mw0 z<|oE hr fun x1 H hr=>yw0 (Q' al' sz54 (p.mono g) z z H) ?_
   obtain⟨p2,af,S,V⟩:=cw' (M' (ad' p H) g)
   refine yw0 (ac' sc54 z (S))<|sw0 z<|sx1 z<|w'<|mw0 z<|mw0 z<|mw0 z<|yw0 (C' 3 ag58 z z (an' _ _ _))<|oE hr fun y L hr=>y' z z (k' E79 z) (eh' L) z (V) (fun ac U j s=>?_)
   obtain⟨v,t,rfl,x⟩:=s
   refine mw0 z<|ex0 z<|ex0 z<|oE hr fun x2 F hr=>yw0 (aB' al' sz54 (o.mono j) z z F)<|aI' (r:=(Rp.sl g')) (e:=54) (cs':=[sv0 v y.1 t]) (i:=c) (z':=y.1) 4010 z sz54 z (o.mono j) z z z z ⟨_,z,x⟩ F fun Q M=>p'<|E'<|b'<|w'<|ad0 z<|mw0 z<|p'<|O' ⟨(m.set c.toNat y.1),Q,i64.wrap (c+1),U⟩ hr ⟨(mx g j),M⟩ (fz0 z) (w2 z z)
  refine Z'<|f'<|f'<|F'<|ab' ⟨m,f,l⟩ ⟨hr,g,o⟩ (f1 z) (w1 z)
 rintro⟨B,h,q⟩ ⟨hr,Z,I⟩
 refine b'<|sr<|mw0 z<|sx1 z<|q' ?_
 obtain rfl:_=r:=hr
 refine WE.freezeT (r:=(Rp.sl g')) (e:=54) 4010 I z (by rw[W]; rfl) fun ae ad ab u aa=>o' z z ⟨_,_,(bs' u),(bq' u)⟩
theorem cL'{c f h r}(hr:(Zae c).Ret r):Ctr prog 29 #[sv0 f c h] (fun G=>SlR (Rp.sl (Rp.sl g')) G (sv0 f c h) c) (wl' (Rp.sl g') r):=by
 refine B' (args:=[_]) (N:=36) func29 z z z (fun O I K aa=>?_)
 have g:=aa
 have hz:O.L.zero:=by rw[K]; intro p hp; simp at hp
 refine sr<|sw0 z<|nr<|sx1 z<|c'<|sr<|mw0 z<|yw0 (D' cE' g z)<|mw0 z<|nx<|aa' (X:=Int×Int×Mem) hr (fun ⟨t,y,H⟩=>⟨(t,y),[(0,sv0 f c h),(3,i' t),(9,sv0 f c h),(10,i' (c.length:Int)),(11,i' y)],Mem.le I H,St O I H []⟩) (fun (⟨D,P⟩:Int×Mem)=>⟨D,[(0,sv0 f c h),(3,i' D)],Mem.le I P,St O I P []⟩) ⟨0,0,I⟩ z (fz0 z) mr (wk ln) ?_ ?_
 .rintro _ ⟨t,y,H⟩ A hr
  refine sr<|ls0 z<|nx<|c'<|I' hr z (fun ah hr=>?_) (fun ah hr=>?_)
  .refine t'<|b'<|c'<|U'<|sr<|oE hr fun x2 S hr=>yw0 (Q' cE' sz44 (g.mono A) z z S) ?_
   obtain⟨p3,az,ad,aj⟩:=cw' (M' (ad' g S) A)
   refine yw0 (ac' sc44 z (ad))<|sw0 z<|nr<|mw0 z<|mw0 z<|yw0 (D' al' aj z)<|ad0 z<|sw0 z<|nr<|mw0 z<|ls0 z<|nx<|I' hr z (fun al hr=>?_) (fun al hr=>?_)
   .exact (show False from hr).elim
   refine t'<|E'<|b'<|w'<|ad0 z<|mw0 z<|p'<|O' ⟨i64.wrap (t+(x2.length:Int)),i64.wrap (y+1),H⟩ hr A (fz0 z) (wk ln)
  refine Z'<|f'<|f'<|F'<|ab' ⟨t,H⟩ ⟨hr,A⟩ (fz0 z) (wk ln)
 rintro⟨D,P⟩ ⟨hr,C⟩
 refine b'<|sr<|mw0 z<|oE hr fun ae ac hr=>bo' z z (k' E59 z) (cI' ac) z trivial ln hz (fun au M ar F L=>?_)
 obtain⟨Y,W,R,rfl,rfl,V⟩:=L
 refine bM' (fun w Q=>Q.rekey (i:=7000) (j:=4024) z (by rw[K]; rfl))<|sx1 z<|c'<|sr<|mw0 z<|yw0 (D' cE' (g.mono (mx C F)) z)<|mw0 z<|nx<|aa' (X:=(List (List Za))×Option Addr×Nat×Option Ow×Int×Mem) hr (fun ⟨d,m,n,k,v,B⟩=>⟨(d,v),[(6,sv0 m d n),(25,sv0 f c h),(26,i' (c.length:Int)),(27,i' v)],Mem.le M B/\RowR (Rp.sl g') 54 B (sv0 m d n) d k,St O I B [(4006,k)]⟩) (fun (⟨l,q,s,o,J⟩:(List (List Za))×Option Addr×Nat×Option Ow×Mem)=>⟨l,[(6,sv0 q l s)],Mem.le M J/\RowR (Rp.sl g') 54 J (sv0 q l s) l o,St O I J [(4006,o)]⟩) ⟨ae,Y,W,R,0,M⟩ z (fz0 z) ⟨mr,V⟩ ?_ ?_ ?_
 .intro w Q
  have Q:=Q.rekey (i:=4024) (j:=4006) z (by rw[K]; rfl)
  exact Q.weaken (lc z ln)
 .rintro _ ⟨d,m,n,k,v,B⟩ ⟨x,u⟩ hr
  refine sr<|ls0 z<|nx<|c'<|I' hr z (fun am hr=>?_) (fun am hr=>?_)
  .refine t'<|b'<|c'<|U'<|sr<|oE hr fun x1 T hr=>yw0 (Q' cE' sz44 (g.mono (mx (mx C F) x)) z z T) ?_
   obtain⟨p1,aA,ag,ai⟩:=cw' (M' (ad' g T) (mx (mx C F) x))
   refine yw0 (ac' sc44 z (ag))<|sx1 z<|w'<|mw0 z<|mw0 z<|oA hr fun ab hr=>dG' (r:=(Rp.sl g')) (e:=54) 4006 z z al' el54 z (by decide) z z u z ai ab fun p2 af Z ak=>sw0 z<|p'<|E'<|b'<|w'<|ad0 z<|mw0 z<|p'<|O' ⟨(d++x1),p2,af,Z,i64.wrap (v+1),B⟩ hr ⟨x,ak⟩ (fz0 z) (w1 z)
  refine Z'<|f'<|f'<|F'<|ab' ⟨d,m,n,k,B⟩ ⟨hr,x,u⟩ (f1 z) (w1 z)
 rintro⟨l,q,s,o,J⟩ ⟨hr,ap,E⟩
 refine b'<|sr<|mw0 z<|sx1 z<|q' ?_
 obtain rfl:_=r:=hr
 refine WE.freezeT (r:=(Rp.sl g')) (e:=54) 4006 E z (by rw[K]; rfl) fun ay aB ao U an=>o' z z ⟨_,_,z,U⟩
theorem eK'{m e c r}(hr:(ZfE m).Ret r):Ctr prog 70 #[.agg ((v38' m e c)).toArray] (fun G=>sl (Rp.int .u32) G e c m.mag) (w40' r):=by
 refine B' (args:=[_]) (N:=6) func70 z z z (fun E C x q=>?_)
 have n:=q
 refine sr<|ah' 1 z z z fun y=>P' 2 z z40 z fun F=>nx<|c'<|aj' [ff,ff] mix (by kernel_rfl) fun B=>cn (fun _ o=>C' 1 W' z z z)<|oE hr fun k s hr=>at' (post:=w38' k) (fun _=>z) (fun _ _=>k' E62 z) (cA' s) z (fun A o=>trivial) (fun v H D o h=>?_) ?_
 .obtain⟨f,g,rfl,j⟩:=h
  exact⟨_,_,z,j.mono o⟩
 refine aF' (d:=4) (post:=w38' k) (fun t u p l=>?_)
 obtain⟨f,g,rfl,j⟩:=l
 refine yw0 (ax' (vs:=#[(0,.agg ((v38' m e c)).toArray),(1,.agg ((v38' k f g)).toArray)]) (v:=.agg ([.bool m.neg,sv0 e m.mag c,.bool k.neg,sv0 f k.mag g]).toArray) z z (fun _=>by kernel_rfl))<|stB 2 bk' z<|p'<|ar'<|b'<|q' ?_
 obtain rfl:_=r:=hr
 exact o' z (af' (i:=2) aN' z z z) ⟨_,_,_,_,z,(n.mono p),j⟩
theorem eL'{q r}(hr:(Zdy q).Ret r):Ctr prog 33 #[i' q] (fun G=>True) (w40' r):=by
 refine B' (args:=[_]) (N:=6) func33 z z z fun H F D v=>sr<|P' 2 z z40 z fun E=>nr<|mw0 z<|oE hr fun B n hr=>y' z z (k' E62 z) (cA' n) z (trivial) (fun u y t e=>?_)
 obtain⟨o,p,rfl,f⟩:=e
 refine oE hr fun A m hr=>y' z z (k' E70 z) (eK' m) z (f) (fun x C s g=>?_)
 obtain⟨k,j,h,l,rfl,d,c⟩:=g
 refine stB 2 bk' z<|nx<|q' ?_
 obtain rfl:_=r:=hr
 exact o' z (af' (i:=2) aN' z z z) ⟨_,_,_,_,z,d,c⟩
theorem ea'{h g c d f r}(hr:(ZbI h).Ret r):Ctr prog 32 #[.agg ((v40' h g c d f)).toArray] (fun G=>sl (Rp.int .u32) G g c h.num.mag/\sl (Rp.int .u32) G d f h.den.mag) (wl' g' r):=by
 refine B' (args:=[_]) (N:=9) func32 z z z (fun y u n k=>?_)
 obtain⟨j,i⟩:=k
 refine sr<|ah' 1 z z z fun t=>sx1 z<|c'<|sr<|yw0 (C' 1 aN' z z z)<|oE hr fun q l hr=>T' z z (k' E66 z) (bK' l) z (⟨j,i⟩)<|yw0 (aK' z z)<|nx<|I' hr z (fun o hr=>?_) (fun o hr=>?_)
 .exact (show False from hr).elim
 refine t'<|b'<|sr<|yw0 (C' 1 aN' z z z)<|yw0 (ax' (vs:=#[(0,.agg ((v40' h g c d f)).toArray)]) (v:=.agg (((v40' h g c d f):List Value)++(vi8 (fun _=>0))).toArray) z z (fun _=>by kernel_rfl))<|aO' (e:=91) (r:=g') (vs:=#[(0,.agg (((v40' h g c d f):List Value)++(vi8 (fun _=>0))).toArray)]) (cs:=(((v40' h g c d f):List Value)++(vi8 (fun _=>0)))++([])) ([(Za.mk h (fun _=>0))]:List Za) z z z z z (by decide) (fun _=>by kernel_rfl) ⟨((v40' h g c d f):List Value)++(vi8 (fun _=>0)),[],z,⟨(v40' h g c d f),vi8 (fun _=>0),z,⟨(v38' h.num g c),(v38' h.den d f),z,⟨[.bool h.num.neg],[sv0 g h.num.mag c],z,z,⟨_,z,j⟩⟩,⟨[.bool h.den.neg],[sv0 d h.den.mag f],z,z,⟨_,z,i⟩⟩⟩,z⟩,z⟩ (key:=999) z (by rw[n]; rfl) fun x s p m=>sx1 z<|q' ?_
 obtain rfl:_=r:=hr
 exact o' z z ⟨_,_,z,m⟩
theorem em'{h m e d r}(hr:(ZdJ h m).Ret r):Ctr prog 30 #[sv0 e h d,i' m] (fun G=>sl g' G e d h) (fun G v=>v = .bool r):=by
 refine B' (args:=[_,_]) (N:=20) func30 z z z (fun t s q i=>?_)
 have c:=i
 refine sr<|sw0 z<|nr<|mw0 z<|oE hr fun k j hr=>T' z z (k' E60 z) (dr' j) z (c) ?_
 cases k
 .refine mw0 z<|sn6 z<|pf00 z<|mw0 z<|sn3 z<|pf00 z<|sx1 z<|q' (k0' hr z z)
 refine mw0 z<|gm0 z<|oE hr fun o f hr=>T' (as' z z) z (k' E61 z) (dz' f) z (c)<|gy z z (K' aJ' aC' z) z<|gm0 z<|oA hr fun l hr=>gy z z (bH' z z l) z<|aQ' hr (as' z z) (aK' z z) z (fun n hr=>?_) (fun n hr=>?_)
 .refine pt00 z<|mw0 z<|gm0 z<|oE hr fun p g hr=>T' (as' z z) z (k' E34 z) (cg' g) z (c)<|gy z z (bF' z z) z<|pt00 z<|sx1 z<|q' (k0' hr z z)
 refine pt00 z<|mw0 z<|sn3 z<|pf00 z<|sx1 z<|q' (k0' hr z z)
theorem ZaU(o:Int)(j:(List (List Za)))(c:(List (List Za)))(p:Option Addr)(q:Nat)(d:Option Addr)(f:Nat)(r:Zg×Int)(hr:(ZaB o j c).Ret r):Ctr prog 13 #[i' o,sv0 p j q,sv0 d c f] (fun G=>sl (Rp.sl g') G p q j/\sl (Rp.sl g') G d f c) (w46t' r):=by
 refine B' (args:=[_,_,_]) (N:=97) func13 z z z (fun w0 G0 aA b8=>?_)
 obtain⟨aw,av⟩:=b8
 refine sr<|P' 6 z z46 z fun b1=>sx1 z<|aD' hr (fun (⟨aI,ac,aa,Q,P,aX⟩:Zg×Option Addr×Nat×Option Addr×Nat×Mem)=>⟨[(0,i' o),(1,sv0 p j q),(2,sv0 d c f),(6,pt0 b1)],ZeI o j c aI,Mem.le G0 aX/\sl (Rp.sl g') aX ac aa aI.eqs/\sl (Rp.sl g') aX Q P aI.neqs,St w0 G0 aX [(6,bk0 b1 (v46' aI ac aa Q P) 46)]⟩) ?_ ?_
 .refine sr<|mw0 z<|aQ' hr z (ae' z z) z (fun cu hr=>?_) (fun cu hr=>?_)
  .refine mw0 z<|sn2 z<|pt00 z<|nx<|aR' z<|sr<|yw0 (ax' (vs:=#[]) (v:=.agg ([i' 0,.slice none 0 0,.slice none 0 0]).toArray) z z (fun _=>by kernel_rfl))<|stB 6 sz46 z<|sx1 z<|q'<|j' ?_
   obtain rfl:_=r:=hr
   exact aW' z (af' (i:=6) ag46 z z z) z ⟨_,_,_,_,z,(ay' (Rp.sl g') _),(ay' (Rp.sl g') _)⟩
  refine mw0 z<|gm0 z<|gy z z (aL' z z) z<|pf00 z<|nx<|I' hr z (fun cq hr=>?_) (fun cq hr=>?_)
  .refine sr<|yw0 (ax' (vs:=#[]) (v:=.agg ([i' 0,.slice none 0 0,.slice none 0 0]).toArray) z z (fun _=>by kernel_rfl))<|stB 6 sz46 z<|sx1 z<|q'<|j' ?_
   obtain rfl:_=r:=hr
   exact aW' z (af' (i:=6) ag46 z z z) z ⟨_,_,_,_,z,(ay' (Rp.sl g') _),(ay' (Rp.sl g') _)⟩
  refine t'<|ao' ⟨(Zg.mk 0 [] []),none,0,none,0,G0⟩ ⟨hr,mr,(ay' _ _),(ay' _ _)⟩ (fz0 z) (w1 z)
 rintro⟨aI,ac,aa,Q,P,aX⟩ ⟨hr,F,bf,a1⟩
 refine c'<|sr<|mw0 z<|mw0 z<|aO' (e:=44) (r:=(Rp.sl (Rp.sl g'))) (vs:=#[(0,sv0 p j q),(1,sv0 d c f)]) (cs:=[sv0 p j q]++([sv0 d c f]++([]))) ([j,c]:List (List (List Za))) z z z z z (by decide) (fun _=>by kernel_rfl) ⟨[sv0 p j q],[sv0 d c f]++([]),z,⟨_,z,(aw.mono F)⟩,⟨[sv0 d c f],[],z,⟨_,z,(av.mono F)⟩,z⟩⟩ (key:=999) z (by rw[aA]; rfl) (fun p1 c1 H cv=>?_)
 refine oE hr fun bG bV hr=>y' z z (k' E29 z) (cL' bV) z (cv) (fun cR bl E ba=>?_)
 obtain⟨b6,bL,rfl,a2⟩:=ba
 refine yw0 (D' al' a2 z)<|mw0 z<|nx<|aa' (X:=Int×Zg×Option Addr×Nat×Option Addr×Nat×Mem) hr (fun ⟨au,aF,M,I,C,A,aE⟩=>⟨(au,aF),[(0,i' o),(1,sv0 p j q),(2,sv0 d c f),(6,pt0 b1),(27,sv0 b6 bG bL),(28,i' (bG.length:Int)),(29,i' au)],Mem.le bl aE/\sl (Rp.sl g') aE M I aF.eqs/\sl (Rp.sl g') aE C A aF.neqs,St w0 G0 aE [(6,bk0 b1 (v46' aF M I C A) 46)]⟩) (fun (⟨an,l,k,g,h,ar⟩:Zg×Option Addr×Nat×Option Addr×Nat×Mem)=>⟨(.inr an),[(0,i' o),(1,sv0 p j q),(2,sv0 d c f),(6,pt0 b1)],Mem.le bl ar/\sl (Rp.sl g') ar l k an.eqs/\sl (Rp.sl g') ar g h an.neqs,St w0 G0 ar [(6,bk0 b1 (v46' an l k g h) 46)]⟩) ⟨0,aI,ac,aa,Q,P,bl⟩ z (fz0 z) ⟨mr,(bf.mono (mx H E)),(a1.mono (mx H E))⟩ (w1 z) ?_ ?_
 .rintro _ ⟨au,aF,M,I,C,A,aE⟩ ⟨ax,aH,aD⟩ hr
  refine sr<|ls0 z<|nx<|c'<|I' hr z (fun cj hr=>?_) (fun cj hr=>?_)
  .refine t'<|b'<|c'<|U'<|sr<|oE hr fun x3 bD hr=>yw0 (Q' al' sz54 (a2.mono ax) z z bD) ?_
   obtain⟨cW,cG,bO,bT⟩:=cw' (M' (ad' a2 bD) ax)
   refine yw0 (ac' sc54 z (bO))<|sw0 z<|nr<|mw0 z<|mw0 z<|oE hr fun c4 bU hr=>T' z z (k' E30 z) (em' bU) z (bT)<|yw0 (bf' z)<|nx<|aX' hr z (fun cw hr=>?_) (fun cw hr=>?_)
   .refine sr<|yw0 (ax' (vs:=#[]) (v:=.agg ([i' 0,.slice none 0 0,.slice none 0 0]).toArray) z z (fun _=>by kernel_rfl))<|stB 6 sz46 z<|sx1 z<|q'<|H'<|j'<|j'<|H'<|az'<|j' ?_
    obtain rfl:_=r:=hr
    exact aW' z (af' (i:=6) ag46 z z z) z ⟨_,_,_,_,z,(ay' (Rp.sl g') _),(ay' (Rp.sl g') _)⟩
   refine t'<|E'<|b'<|w'<|ad0 z<|mw0 z<|p'<|O' ⟨i64.wrap (au+1),aF,M,I,C,A,aE⟩ hr ⟨ax,aH,aD⟩ (fz0 z) (w1 z)
  refine Z'<|f'<|f'<|F'<|ab' ⟨aF,M,I,C,A,aE⟩ ⟨hr,ax,aH,aD⟩ (fz0 z) (w1 z)
 rintro⟨an,l,k,g,h,ar⟩ ⟨hr,U,cd,cc⟩
 refine b'<|sr<|sw0 z<|sx1 z<|c'<|sr<|mw0 z<|yw0 (D' al' (aw.mono (mx (mx (mx F H) E) U)) z)<|mw0 z<|nx<|aa' (X:=(List (List Za))×Option Addr×Nat×Option Ow×Int×Mem) hr (fun ⟨s,K,L,J,am,aJ⟩=>⟨(s,am),[(0,i' o),(2,sv0 d c f),(6,pt0 b1),(10,sv0 K s L),(11,.slice none 0 0),(39,sv0 p j q),(40,i' (j.length:Int)),(41,i' am)],Mem.le ar aJ/\sl (Rp.sl g') aJ K L s/\Tok 1 54 (sv0 K s L) s.length J,St w0 G0 aJ [(6,bk0 b1 (v46' an l k g h) 46),(1010,J)]⟩) (fun (⟨O,S,R,ab,aB⟩:(List (List Za))×Option Addr×Nat×Option Ow×Mem)=>⟨O,[(0,i' o),(2,sv0 d c f),(6,pt0 b1),(10,sv0 S O R),(11,.slice none 0 0)],Mem.le ar aB/\sl (Rp.sl g') aB S R O/\Tok 1 54 (sv0 S O R) O.length ab,St w0 G0 aB [(6,bk0 b1 (v46' an l k g h) 46),(1010,ab)]⟩) ⟨[],none,0,none,0,ar⟩ z (fz0 z) ⟨mr,(ay' _ _),cD'⟩ (wk (lc z (lw ln))) ?_ ?_
 .rintro _ ⟨s,K,L,J,am,aJ⟩ ⟨ak,aC,ap⟩ hr
  refine sr<|ls0 z<|nx<|c'<|I' hr z (fun cC hr=>?_) (fun cC hr=>?_)
  .refine t'<|b'<|c'<|U'<|sr<|oE hr fun x2 bB hr=>yw0 (Q' al' sz54 (aw.mono (mx (mx (mx (mx F H) E) U) ak)) z z bB) ?_
   obtain⟨p7,c6,cl,bC⟩:=cw' (M' (ad' aw bB) (mx (mx (mx (mx F H) E) U) ak))
   refine yw0 (ac' sc54 z (cl))<|sw0 z<|nr<|mw0 z<|yw0 (D' N' bC z)<|yw0 (aL' z z)<|nx<|I' hr z (fun cx hr=>?_) (fun cx hr=>?_)
   .refine w'<|mw0 z<|mw0 z<|oE hr fun aR ca hr=>y' z z (k' E31 z) (dy' ca) z (bC) (fun cH cL aU bc=>?_)
    obtain⟨a7,a3,rfl,b9⟩:=bc
    refine aO' (e:=54) (r:=(Rp.sl g')) (vs:=#[(0,sv0 a7 aR a3)]) (cs:=[sv0 a7 aR a3]++([])) ([aR]:List (List Za)) z z z z z (by decide) (fun _=>by kernel_rfl) ⟨[sv0 a7 aR a3],[],z,⟨_,z,b9⟩,z⟩ (key:=999) z (by rw[aA]; rfl) (fun p8 cN aY cg=>?_)
    refine oA hr fun bS hr=>bG' (r:=(Rp.sl g')) 1010 z z al' el54 z (by decide) z z (aC.mono (mx aU aY)) z (by rw[aA]; rfl) ap cg bS fun p9 cp bP bZ bq ci bX=>sw0 z<|p'<|E'<|b'<|w'<|ad0 z<|mw0 z<|p'<|O' ⟨(s++[aR]),p9,cp,bP,i64.wrap (am+1),bZ⟩ hr ⟨(mx (mx (mx ak aU) aY) bq),ci,bX⟩ (fz0 z) (w2 z z)
   refine t'<|E'<|b'<|w'<|ad0 z<|mw0 z<|p'<|O' ⟨s,K,L,J,i64.wrap (am+1),aJ⟩ hr ⟨ak,aC,ap⟩ (fz0 z) (w2 z z)
  refine Z'<|f'<|f'<|F'<|ab' ⟨s,K,L,J,aJ⟩ ⟨hr,ak,aC,ap⟩ (fz0 z) (w2 z z)
 rintro⟨O,S,R,ab,aB⟩ ⟨hr,aL,br,bd⟩
 refine b'<|c'<|sr<|mw0 z<|yw0 (D' al' (av.mono (mx (mx (mx (mx F H) E) U) aL)) z)<|mw0 z<|nx<|aa' (X:=(List (List Za))×Option Addr×Nat×Option Ow×(List (List Za))×Option Addr×Nat×Option Ow×Int×Mem) hr (fun ⟨n,B,D,t,m,y,x,u,Z,az⟩=>⟨(n,m,Z),[(0,i' o),(6,pt0 b1),(10,sv0 B n D),(11,sv0 y m x),(54,sv0 d c f),(55,i' (c.length:Int)),(56,i' Z)],Mem.le aB az/\sl (Rp.sl g') az B D n/\Tok 1 54 (sv0 B n D) n.length t/\sl (Rp.sl g') az y x m/\Tok 1 54 (sv0 y m x) m.length u,St w0 G0 az [(6,bk0 b1 (v46' an l k g h) 46),(1010,t),(1011,u)]⟩) (fun (⟨V,aj,ai,aq,ad,ah,al,ao,aT⟩:(List (List Za))×Option Addr×Nat×Option Ow×(List (List Za))×Option Addr×Nat×Option Ow×Mem)=>⟨(V,ad),[(0,i' o),(6,pt0 b1),(10,sv0 aj V ai),(11,sv0 ah ad al)],Mem.le aB aT/\sl (Rp.sl g') aT aj ai V/\Tok 1 54 (sv0 aj V ai) V.length aq/\sl (Rp.sl g') aT ah al ad/\Tok 1 54 (sv0 ah ad al) ad.length ao,St w0 G0 aT [(6,bk0 b1 (v46' an l k g h) 46),(1010,aq),(1011,ao)]⟩) ⟨O,S,R,ab,[],none,0,none,0,aB⟩ z (fz0 z) ⟨mr,br,bd,(ay' _ _),cD'⟩ (wk (lc z (lc z (lw ln)))) ?_ ?_
 .rintro _ ⟨n,B,D,t,m,y,x,u,Z,az⟩ ⟨Y,af,W,ae,T⟩ hr
  refine sr<|ls0 z<|nx<|c'<|I' hr z (fun ct hr=>?_) (fun ct hr=>?_)
  .refine t'<|b'<|c'<|U'<|sr<|oE hr fun x1 bH hr=>yw0 (Q' al' sz54 (av.mono (mx (mx (mx (mx (mx F H) E) U) aL) Y)) z z bH) ?_
   obtain⟨p2,c2,cA,bo⟩:=cw' (M' (ad' av bH) (mx (mx (mx (mx (mx F H) E) U) aL) Y))
   refine yw0 (ac' sc54 z (cA))<|sx1 z<|U'<|sr<|mw0 z<|yw0 (D' N' bo z)<|yw0 (aK' z z)<|sx1 z<|I' hr z (fun cz hr=>?_) (fun cz hr=>?_)
   .refine w'<|mw0 z<|oE hr fun cV bI hr=>y' z z (k' E33 z) (eL' bI) z (trivial) (fun cP c3 aN bb=>?_)
    obtain⟨bz,bx,bw,bv,rfl,aM,aQ⟩:=bb
    refine oE hr fun aW b4 hr=>y' z z (k' E32 z) (ea' b4) z (⟨aM,aQ⟩) (fun cJ c5 aO be=>?_)
    obtain⟨a0,a6,rfl,bQ⟩:=be
    refine aO' (e:=54) (r:=(Rp.sl g')) (vs:=#[(0,sv0 a0 aW a6)]) (cs:=[sv0 a0 aW a6]++([])) ([aW]:List (List Za)) z z z z z (by decide) (fun _=>by kernel_rfl) ⟨[sv0 a0 aW a6],[],z,⟨_,z,bQ⟩,z⟩ (key:=999) z (by rw[aA]; rfl) (fun p3 cZ aK cy=>?_)
    refine oA hr fun bN hr=>bG' (r:=(Rp.sl g')) 1010 z z al' el54 z (by decide) z z (af.mono (mx (mx aN aO) aK)) z (by rw[aA]; rfl) W cy bN fun p4 cn cb co a8 cm bK=>sw0 z<|p'<|E'<|E'<|b'<|w'<|ad0 z<|mw0 z<|p'<|O' ⟨(n++[aW]),p4,cn,cb,m,y,x,u,i64.wrap (Z+1),co⟩ hr ⟨(mx (mx (mx (mx Y aN) aO) aK) a8),cm,bK,(ae.mono (mx (mx (mx aN aO) aK) a8)),T⟩ (fz0 z) (w3 z z z)
   refine sr<|mw0 z<|oE hr fun cY bJ hr=>T' z z (k' E34 z) (cg' bJ) z (bo)<|yw0 (aL' z z)<|sx1 z<|I' hr z (fun cr hr=>?_) (fun cr hr=>?_)
   .refine w'<|mw0 z<|mw0 z<|oE hr fun aV b7 hr=>y' z z (k' E31 z) (dy' b7) z (bo) (fun cO cI ay bh=>?_)
    obtain⟨a4,aZ,rfl,b0⟩:=bh
    refine aO' (e:=54) (r:=(Rp.sl g')) (vs:=#[(0,sv0 a4 aV aZ)]) (cs:=[sv0 a4 aV aZ]++([])) ([aV]:List (List Za)) z z z z z (by decide) (fun _=>by kernel_rfl) ⟨[sv0 a4 aV aZ],[],z,⟨_,z,b0⟩,z⟩ (key:=999) z (by rw[aA]; rfl) (fun p5 cT aG cB=>?_)
    refine oA hr fun bY hr=>bG' (r:=(Rp.sl g')) 1011 z z al' el54 z (by decide) z z (ae.mono (mx ay aG)) z (by rw[aA]; rfl) T cB bY fun p6 ck bR b3 aS ch bM=>sw0 z<|p'<|E'<|E'<|b'<|w'<|ad0 z<|mw0 z<|p'<|O' ⟨n,B,D,t,(m++[aV]),p6,ck,bR,i64.wrap (Z+1),b3⟩ hr ⟨(mx (mx (mx Y ay) aG) aS),(af.mono (mx (mx ay aG) aS)),W,ch,bM⟩ (fz0 z) (w3 z z z)
   refine t'<|E'<|E'<|b'<|w'<|ad0 z<|mw0 z<|p'<|O' ⟨n,B,D,t,m,y,x,u,i64.wrap (Z+1),az⟩ hr ⟨Y,af,W,ae,T⟩ (fz0 z) (w3 z z z)
  refine Z'<|f'<|f'<|F'<|ab' ⟨n,B,D,t,m,y,x,u,az⟩ ⟨hr,Y,af,W,ae,T⟩ (fz0 z) (w3 z z z)
 rintro⟨V,aj,ai,aq,ad,ah,al,ao,aT⟩ ⟨hr,cF,bm,ce,bs,cf⟩
 refine b'<|sr<|mw0 z<|mw0 z<|oE hr fun bE bW hr=>y' z z (k' E35 z) (ZeP _ _ _ _ bW) z (bm) (fun cQ c0 bA bi=>?_)
 obtain⟨bp,bj,rfl,bu⟩:=bi
 refine mw0 z<|oE hr fun bF b5 hr=>y' z z (k' E35 z) (ZeP _ _ _ _ b5) z ((bs.mono bA)) (fun cK cX a9 bg=>?_)
 obtain⟨bk,bt,rfl,bn⟩:=bg
 refine yw0 (ax' (vs:=#[(0,i' o),(1,sv0 bp bE bj),(2,sv0 bk bF bt)]) (v:=.agg ([i' o,sv0 bp bE bj,sv0 bk bF bt]).toArray) z z (fun _=>by kernel_rfl))<|P' 16 z z46 z fun b2=>stB 16 sz46 z<|nx<|c'<|sr<|yw0 (Y0.Zfq z)<|yw0 (A' 16 sc44 z z z)<|yw0 (D' al' (bu.mono a9) z)<|aQ' hr z (aL' z z) z (fun cD hr=>?_) (fun cD hr=>?_)
 .refine mw0 z<|sn4 z<|pt00 z<|nx<|aR' z<|sr<|yw0 (ax' (vs:=#[]) (v:=.agg ([i' 0,.slice none 0 0,.slice none 0 0]).toArray) z z (fun _=>by kernel_rfl))<|stB 6 sz46 z<|sx1 z<|q'<|j' ?_
  obtain rfl:_=r:=hr
  exact aW' z (af' (i:=6) ag46 z z z) z ⟨_,_,_,_,z,(ay' (Rp.sl g') _),(ay' (Rp.sl g') _)⟩
 refine mw0 z<|gy z z (Y0.Zfr z) z<|gy z z (A' 16 sc44 z z z) z<|gy z z (D' al' bn z) z<|gy z z (aL' z z) z<|pf00 z<|nx<|I' hr z (fun cE hr=>?_) (fun cE hr=>?_)
 .refine sr<|yw0 (ax' (vs:=#[]) (v:=.agg ([i' 0,.slice none 0 0,.slice none 0 0]).toArray) z z (fun _=>by kernel_rfl))<|stB 6 sz46 z<|sx1 z<|q'<|j' ?_
  obtain rfl:_=r:=hr
  exact aW' z (af' (i:=6) ag46 z z z) z ⟨_,_,_,_,z,(ay' (Rp.sl g') _),(ay' (Rp.sl g') _)⟩
 refine t'<|b'<|sr<|yw0 (C' 16 ag46 z z z)<|stB 6 sz46 z<|sx1 z<|q' ?_
 obtain rfl:_=r:=hr
 exact aW' z (af' (i:=6) ag46 z z z) z ⟨_,_,_,_,z,(bu.mono a9),bn⟩
abbrev pmv(f:Fin 8->Int):Array Value:=(vecG (Value.int .i64) 8 f).toArray
theorem Ze1(f:Fin 8->Int){k:Nat}(h:k<8):(pmv f)[k]? = some (.int .i64 (getF f (k:Int))):=ZhD (Value.int .i64) 8 f (i:=(k:Int)) ⟨by omega,by omega⟩
theorem ZmN(b lo len cap:Nat)(f:Fin 8->Int)(h:lo+len<=8):CtrL prog 78 #[.slice (some ⟨b,lo,none⟩) len cap] [(9003,some ⟨b,.cells (pmv f) 58 (0,0),0⟩)] (fun _=>True)
  (fun _ L v=>v = .tuple #[]/\L=[(9003,some ⟨b,.cells (pmv (revF f lo len (len / 2))) 58 (0,0),0⟩)]):=by
 refine CtrL.enter (args:=[_]) (N:=28) func78 rfl rfl rfl (fun w0 G0 hL0 _=>?_)
 have hw0:i64.wrap ((len:Int)-1)=(len:Int)-1-((0:Nat):Int):=by rw[IntKind.wrap_i64]; omega
 refine sr<|mv rfl rfl<|yy (Y0.lenC underlying129 rfl) rfl<|yy (Y0.sub rfl rfl) rfl<|sg rfl rfl<|sg rfl rfl<|nx<|WC.block ?_
 refine WC.loopH (X:=Nat) (fun k=>[(0,.slice (some ⟨b,lo,none⟩) len cap),(2,.int .i64 (k:Int)),(3,.int .i64 ((len:Int)-1-(k:Int)))])
  (fun k=>k<=len / 2) (fun k=>St w0 G0 G0 [(9003,some ⟨b,.cells (pmv (revF f lo len k)) 58 (0,0),0⟩)]) (fun k=>len-k) 0 (fc rfl (fc rfl (fc (by show some (Value.int .i64 (i64.wrap ((len:Int)-1)))=_; rw[hw0]) fn))) (Nat.zero_le _) (fun w hs=>hs) ?_
 intro k hk
 refine WC.seq<|sr<|mv rfl rfl<|mv rfl rfl<|yy (Y0.lss rfl rfl) rfl<|nx ?_
 refine WC.condD (p:=(k:Int)<(len:Int)-1-(k:Int)) rfl (fun hc=>?_) (fun hc=>?_)
 .have ej:(len:Int)-1-(k:Int)=((len-1-k:Nat):Int):=by omega
  have hw1:i64.wrap ((k:Int)+1)=((k+1:Nat):Int):=by rw[IntKind.wrap_i64]; omega
  have hw2:i64.wrap (((len-1-k:Nat):Int)-1)=(len:Int)-1-((k+1:Nat):Int):=by rw[IntKind.wrap_i64]; omega
  rw[ej]
  generalize hg:revF f lo len k=g
  refine WC.skip<|WE.then<|WC.seq<|WC.block ?_
  refine WC.drawn [false,false,true,true,false,false,false,false,false,false,false,false,false] mix (by kernel_rfl) (fun hb=>?_)
  refine cn (fun _ hle=>Y0.move rfl)<|cn (fun _ hle=>Y0.move rfl)<|Chain.float Ze (Y0.move rfl)<|Chain.float Ze (Y0.move rfl)<|cn (fun _ hle=>Y0.move rfl)<|cn (fun _ hle=>Y0.move rfl) ?_
  refine cn (fun _ hle=>Y0.idxSlN underlying129 sz3 rfl rfl (show len-1-k<len by omega))<|cn (fun _ hle=>Y0.loadL 9003 sc3 rfl rfl (by rw[Nat.mul_one]; exact Ze1 g (show lo+(len-1-k)<8 by omega))) ?_
  refine cn (fun _ hle=>Y0.move rfl)<|cn (fun _ hle=>Y0.move rfl)<|cn (fun _ hle=>Y0.idxSlN underlying129 sz3 rfl rfl (show k<len by omega))<|cn (fun _ hle=>Y0.loadL 9003 sc3 rfl rfl (by rw[Nat.mul_one]; exact Ze1 g (show lo+k<8 by omega))) ?_
  refine cn (fun _ hle=>Y0.idxSlN underlying129 sz3 rfl rfl (show k<len by omega))<|Chain.tail0 hb ?_
  refine WL.storeL 9003 (pmv (setF g (lo+k) (getF g ((lo+(len-1-k):Nat):Int)))) Ze sz3 rfl rfl rfl (by rw[Nat.mul_one,ZB]; omega) rfl (by rw[Nat.mul_one]; exact Za5 _ _ _ _ _) ?_
  refine yy (Y0.idxSlN underlying129 sz3 rfl rfl (show len-1-k<len by omega)) rfl ?_
  refine WL.storeL 9003 (pmv (swF g (lo+k) (lo+(len-1-k)))) Ze sz3 rfl rfl rfl (by rw[Nat.mul_one,ZB]; omega) rfl (by rw[Nat.mul_one]; exact Za5 _ _ _ _ _) ?_
  refine WL.nil<|WE.nx<|WE.inBlock<|WE.then<|WC.region<|mv rfl rfl<|yy (Y0.add rfl rfl) rfl<|mv rfl rfl<|yy (Y0.sub rfl rfl) rfl ?_
  rw[hw1,hw2]
  refine sg rfl rfl<|sg rfl rfl<|WL.nil<|WE.backH (x:=k) (k+1) (by omega) (fc rfl (fc rfl (fc rfl fn))) (fun w hs=>hs.weaken ?_) (by show len-(k+1)<len-k; omega)
  show Lo.sub [(9003,some ⟨b,.cells (pmv (swF (revF f lo len k) (lo+k) (lo+(len-1-k)))) 58 (0,0),0⟩)] _
  rw[hg]
  exact lc rfl ln
 have:k=len / 2:=by omega
 subst this
 exact WC.exit<|WE.thenExit<|WE.thenExit<|WE.exitHere<|WE.retN<|WE.ret0 rfl ⟨rfl,rfl⟩
theorem ZoM(n:Int):Ctr prog 36 #[.int .i64 n] (fun _=>True) (fun G v=>∃ b,v = .func (.func 77) #[] #[.pointer (some ⟨b,0,none⟩)]/\G b 0=some (.int .i64 n)):=by
 refine Ctr.enter (args:=[_]) (N:=4) func36 rfl rfl rfl (fun w0 G0 hL0 _=>?_)
 refine sr<|WL.boxF 1 rfl Ze rfl rfl (fun b=>?_)
 refine sg rfl rfl<|WL.nil<|WE.then ?_
 refine WC.knowBox 1 rfl (by rw[hL0]; rfl) (fun G1 hle hk _=>?_)
 refine sr<|yy (Y0.makeFunc rfl rfl) rfl<|sg rfl rfl<|nx<|WC.ret ?_
 exact WE.ret1 rfl rfl ⟨_,rfl,hk 0 _ rfl⟩
theorem ZmY{n:Nat}(h1:1<=n)(h4:n<=4){j:Nat}{p:Fin 8->Int}(h:(permsL n)[j]? = some p):(permsL n)[j+1]? = nextF n p:=by
 have key:∀ n:Fin 4,∀ j:Fin 24,(match (permsL (n.val+1))[j.val]? with|some p=>decide ((permsL (n.val+1))[j.val+1]? = nextF (n.val+1) p)|none=>true)=true:=by decide +kernel
 have hl:∀ n:Fin 4,(permsL (n.val+1)).length<=24:=by decide +kernel
 obtain⟨m,rfl⟩:∃ m,n=m+1:=⟨n-1,by omega⟩
 have hj:j<24:=Nat.lt_of_lt_of_le (List.getElem?_eq_some_iff.1 h).1 (hl ⟨m,by omega⟩)
 have:=key ⟨m,by omega⟩ ⟨j,hj⟩
 dsimp only at this
 rw[h] at this
 exact of_decide_eq_true this
def EM(n:Nat)(j:Nat)(u:Value)(_:Mem):Prop:=∃ p,(permsL n)[j]? = some p/\u = .agg (pmv p)
theorem ZjO{p:Fin 8->Int}:∀ {k i:Nat},ascF p k=some i->i<k/\getF p (i:Int)<=getF p ((i+1:Nat):Int)
 | 0,_,h=>by cases h
 | k+1,i,h=>by
  unfold ascF at h
  split at h
  .obtain⟨h1,h2⟩:=ZjO h
   exact⟨by omega,h2⟩
  cases h
  exact⟨Nat.lt_succ_self _,by omega⟩
theorem ZnF(b n:Nat)(h1:1<=n)(h4:n<=4):IterOk prog 77 #[.pointer (some ⟨b,0,none⟩)] (permsL n).length (EM n) (fun G=>G b 0=some (.int .i64 (n:Int))):=by
 intro σ yl I Lc pre hlow hmono hY s0 hI0 hz
 refine CtrL.enter (args:=[_,_]) (N:=61) func77 rfl rfl rfl (fun w0 G0 hL0 hp=>?_)
 obtain⟨hb,hpre⟩:=hp
 have hz0:w0.L.zero:=by rw[hL0]; exact hz
 have hno:∀ (s:σ) (x:Option Ow),Lo.sub (Lc s) ((9003,x)::Lc s):=fun s x i z h=>by
  rw[Lo.Zi,if_neg (fun e=>by rw[<- e,hlow s 9003 (by omega)] at h; cases h)]; exact h
 have hsub2:∀ (s:σ) (x:Option Ow) (R:Lo),Lo.sub ((9003,x)::Lc s) ((9003,x)::((9003,R.get 9003)::Lc s)):=fun s x R i z hz=>by
  rw[Lo.Zi] at hz ⊢
  split at hz
  .rename_i e; rw[if_pos e]; exact hz
  rename_i e; rw[if_neg e,Lo.Zi,if_neg e]; exact hz
 refine sr<|WL.alloc 9003 Ze z58 rfl (fun b3=>?_)
 refine nx<|WC.seq<|sr<|mv rfl rfl<|nx<|WC.block ?_
 refine WC.loopH (X:=Nat) (fun k=>[(0,.func (.yield yl) #[] #[]),(1,.pointer (some ⟨b,0,none⟩)),(3,.pointer (some ⟨b3,0,none⟩)),(7,.int .i64 (k:Int))])
  (fun k=>k<=8) (fun k=>St w0 G0 G0 ((9003,some ⟨b3,.cells (pmv (fun i=>if i.val<k then (i.val:Int) else 0)) 58 (0,0),0⟩)::Lc s0)) (fun k=>8-k) 0 (fc rfl (fc rfl (fc rfl (fc rfl fn)))) (by omega) (fun w hs=>hs) ?_
 .intro k hk
  refine sr<|yy (Y0.lss rfl rfl) rfl<|nx<|WC.seq ?_
  refine WC.condD (p:=(k:Int)<8) rfl (fun hc=>?_) (fun hc=>?_)
  .have hw:i64.wrap ((k:Int)+1)=((k+1:Nat):Int):=by rw[IntKind.wrap_i64]; omega
   have hst:setF (fun i:Fin 8=>if i.val<k then (i.val:Int) else 0) k (k:Int)=fun i=>if i.val<k+1 then (i.val:Int) else 0:=by
    funext i
    show (if i.val=k then (k:Int) else if i.val<k then (i.val:Int) else 0)=if i.val<k+1 then (i.val:Int) else 0
    by_cases e:i.val=k
    .rw[if_pos e,if_pos (by omega),e]
    rw[if_neg e]
    by_cases e2:i.val<k
    .rw[if_pos e2,if_pos (by omega)]
    rw[if_neg e2,if_neg (by omega)]
   refine WC.skip<|WE.then<|WC.seq<|WC.block<|sr<|mv rfl rfl<|sg rfl rfl<|nx<|WC.region<|mv rfl rfl<|mv rfl rfl<|yy (Y0.idxA0 underlying58 sz3 rfl rfl ⟨by omega,by omega⟩) rfl ?_
   refine WL.storeL 9003 (pmv (fun i=>if i.val<k+1 then (i.val:Int) else 0)) Ze sz3 rfl rfl rfl (by rw[ZB]; omega) rfl (by rw[<- hst]; exact Za5 _ _ _ _ _) ?_
   refine WL.nil<|WE.inBlock<|WE.then<|WC.region<|yy (Y0.add rfl rfl) rfl ?_
   rw[hw]
   exact mv rfl rfl<|WL.nil<|WE.backH (x:=k) (k+1) (by omega) (fc rfl (fc rfl (fc rfl (fc rfl fn)))) (fun w hs=>hs.weaken (hsub2 s0 _ [(9003,_)])) (by show 8-(k+1)<8-k; omega)
  have:k=8:=by omega
  subst this
  refine WC.exit<|WE.thenExit<|WE.thenExit<|WE.exitHere<|WE.then<|WC.block ?_
  have hid:(fun i:Fin 8=>if i.val<8 then (i.val:Int) else 0)=fun i=>(i.val:Int):=by funext i; rw[if_pos i.isLt]
  rw[hid]
  have hp0:(permsL n)[0]? = some fun i=>(i.val:Int):=rfl
  refine WC.loopH (X:=Nat×(Fin 8->Int)×σ×Mem) (fun gx=>[(0,.func (.yield yl) #[] #[]),(1,.pointer (some ⟨b,0,none⟩)),(3,.pointer (some ⟨b3,0,none⟩))])
   (fun gx=>match gx with|⟨j,p,s,G⟩=>(permsL n)[j]? = some p/\I j s/\Mem.le G0 G/\pre s G) (fun gx=>match gx with|⟨j,p,s,G⟩=>St w0 G0 G ((9003,some ⟨b3,.cells (pmv p) 58 (0,0),0⟩)::Lc s)) (fun gx=>(permsL n).length-gx.1) ⟨0,_,s0,G0⟩ (fc rfl (fc rfl (fc rfl fn))) ⟨hp0,hI0,Mem.le_refl _,hpre⟩ (fun w hs=>hs) ?_
  rintro⟨j,p,s,G⟩ ⟨hpj,hI,hle,hp⟩
  dsimp only at hpj hI hle hp ⊢
  have hjl:j<(permsL n).length:=(List.getElem?_eq_some_iff.1 hpj).1
  have hch:=ZmY h1 h4 hpj
  refine WC.seq<|WC.seq<|WC.regionI<|WLI.y0 Ze (Y0.move rfl) (fun c h=>by cases h) rfl<|WLI.y0 Ze (Y0.loadLA 9003 ag58 rfl rfl (ZB _ _ _)) (fun c h=>by cases h) rfl ?_
  refine WLI.callZ (R:=[(9003,_)]) Ze rfl rfl rfl (hY j _ s hjl hI) ⟨hp,p,hpj,rfl⟩ hz0 (fun i hi=>by simp only[List.map_cons,List.map_nil,List.mem_singleton] at hi; subst hi; exact hlow s _ (by omega)) (fun bb G1 L1 hle1 hpost=>?_)
  obtain⟨rfl,s',hI',rfl,hp'⟩:=hpost
  have hle01:=Mem.le_trans hle hle1
  refine WLI.nil<|WE.then<|WC.condT rfl<|WC.skip<|WE.then<|WC.block ?_
  have hw0:i64.wrap ((n:Int)-2)=((n-1:Nat):Int)-1:=by rw[IntKind.wrap_i64]; omega
  have hw1:i64.wrap ((n:Int)-1)=((n-1:Nat):Int):=by rw[IntKind.wrap_i64]; omega
  refine sr<|yy (Y0.loadG sc3 rfl (hle01 _ _ _ hb)) rfl<|yy (Y0.sub rfl rfl) rfl ?_
  rw[hw0]
  refine sg rfl rfl<|nx<|WC.seqH (X:=Nat) (fun k=>[(0,.func (.yield yl) #[] #[]),(1,.pointer (some ⟨b,0,none⟩)),(3,.pointer (some ⟨b3,0,none⟩)),(5,.int .i64 ((k:Int)-1))])
   (fun k=>k<=n-1/\((k=0/\ascF p (n-1)=none)\/∃ i,k=i+1/\ascF p (n-1)=some i)) (fun _=>St w0 G0 G1 ((9003,some ⟨b3,.cells (pmv p) 58 (0,0),0⟩)::Lc s')) ?_ ?_
  .refine WC.block<|WC.loopH (X:=Nat) (fun k=>[(0,.func (.yield yl) #[] #[]),(1,.pointer (some ⟨b,0,none⟩)),(3,.pointer (some ⟨b3,0,none⟩)),(5,.int .i64 ((k:Int)-1))])
    (fun k=>k<=n-1/\ascF p k=ascF p (n-1)) (fun _=>St w0 G0 G1 ((9003,some ⟨b3,.cells (pmv p) 58 (0,0),0⟩)::Lc s')) (fun k=>k) (n-1) (fc rfl (fc rfl (fc rfl (fc rfl fn)))) ⟨Nat.le_refl _,rfl⟩ (fun w hs=>hs) ?_
   rintro k ⟨hk,hasc⟩
   refine WC.seq<|WC.seq ?_
   by_cases hk0:k=0
   .subst hk0
    refine WC.drawn [false,false,false,false,false,false,false,false,false,false,false] mix (by kernel_rfl) (fun hb=>?_)
    refine cn (fun _ hle=>Y0.move rfl)<|cn (fun _ hle=>Y0.eq (Y0.geq rfl rfl) (congrArg Value.bool (decide_eq_false (by omega))))<|cn (fun _ hle=>Y0.move rfl)<|ct rfl rfl<|ct rfl rfl<|ct rfl rfl<|ct rfl rfl<|ct rfl rfl<|ct rfl rfl<|ct rfl rfl<|ct rfl rfl<|Chain.tail0 hb ?_
    refine yy (Y0.pickF rfl rfl) rfl<|WL.nil<|WE.nx<|WE.then<|WC.condF rfl ?_
    exact WC.exit<|WE.thenExit<|WE.thenExit<|WE.exitHere<|WE.midH 0 ⟨hk,.inl ⟨rfl,hasc.symm⟩⟩ (fc rfl (fc rfl (fc rfl (fc rfl fn)))) (fun w hs=>hs)
   obtain⟨i,rfl⟩:∃ i,k=i+1:=⟨k-1,by omega⟩
   have e1:((i+1:Nat):Int)-1=(i:Int):=by omega
   have e2:i64.wrap ((i:Int)+1)=((i+1:Nat):Int):=by rw[IntKind.wrap_i64]; omega
   have e3:i64.wrap ((i:Int)-1)=(i:Int)-1:=by rw[IntKind.wrap_i64]; omega
   rw[e1]
   refine WC.drawn [false,false,false,false,false,false,false,false,false,false,false] mix (by kernel_rfl) (fun hb=>?_)
   refine cn (fun _ hle=>Y0.move rfl)<|cn (fun _ hle=>Y0.eq (Y0.geq rfl rfl) (congrArg Value.bool (decide_eq_true (by omega))))<|cn (fun _ hle=>Y0.move rfl) ?_
   refine cy rfl rfl (fun _ hle=>Y0.move rfl)<|cy rfl rfl (fun _ hle=>Y0.idxA0 underlying58 sz3 rfl rfl ⟨by omega,by omega⟩)<|cy rfl rfl (fun _ hle=>Y0.loadL 9003 sc3 rfl rfl (Ze1 p (show i<8 by omega))) ?_
   refine cy rfl rfl (fun _ hle=>Y0.move rfl)<|cy rfl rfl (fun _ hle=>Y0.eq (Y0.add rfl rfl) (congrArg (Value.int .i64) e2))<|cy rfl rfl (fun _ hle=>Y0.idxA0 underlying58 sz3 rfl rfl ⟨by omega,by omega⟩)<|cy rfl rfl (fun _ hle=>Y0.loadL 9003 sc3 rfl rfl (Ze1 p (show i+1<8 by omega)))<|cy rfl rfl (fun _ hle=>Y0.gtr rfl rfl)<|Chain.tail0 hb ?_
   refine yy (Y0.pickT rfl rfl) rfl<|WL.nil<|WE.nx<|WE.then<|WC.condD (p:=getF p ((i+1:Nat):Int)<getF p (i:Int)) rfl (fun hc=>?_) (fun hc=>?_)
   .have ha:ascF p (i+1)=ascF p i:=by show (if _ then _ else _)=_; rw[if_pos hc]
    refine WC.skip<|WE.then<|WC.block<|WC.region<|mv rfl rfl<|yy (Y0.sub rfl rfl) rfl ?_
    rw[e3]
    exact sg rfl rfl<|WL.nil<|WE.inBlock<|WE.backH (x:=i+1) i ⟨by omega,by rw[<- ha]; exact hasc⟩ (fc rfl (fc rfl (fc rfl (fc rfl fn)))) (fun w hs=>hs) (Nat.lt_succ_self i)
   have ha:ascF p (i+1)=some i:=by show (if _ then _ else _)=_; rw[if_neg hc]
   exact WC.exit<|WE.thenExit<|WE.thenExit<|WE.exitHere<|WE.midH (i+1) ⟨hk,.inr ⟨i,rfl,by rw[<- hasc]; exact ha⟩⟩ (fc rfl (fc rfl (fc rfl (fc (by rw[e1]; rfl) fn)))) (fun w hs=>hs)
  rintro k ⟨hk,hkk⟩
  refine WC.seq<|sr<|mv rfl rfl<|yy (Y0.lss rfl rfl) rfl<|nx ?_
  refine WC.condD (p:=(k:Int)-1<0) rfl (fun hc=>?_) (fun hc=>?_)
  .have hnone:ascF p (n-1)=none:=by
    rcases hkk with ⟨_,h⟩|⟨i,hi,_⟩
    .exact h
    omega
   have hend:(permsL n)[j+1]? = none:=by rw[hch]; unfold nextF; rw[hnone]
   have hjl2:(permsL n).length=j+1:=by have:=List.getElem?_eq_none_iff.1 hend; omega
   refine WC.ret<|WE.thenRet<|WE.inBlockRet<|WE.thenRet<|WE.inBlockRet ?_
   exact WE.conseq (S':=St w0 G0 G1 (Lc s')) (fun w hs=>hs.weaken (hno s' _)) (WE.ret0 rfl ⟨rfl,s',by rw[hjl2]; exact hI',rfl,hp'⟩)
  obtain⟨i,rfl,hasc⟩:∃ i,k=i+1/\ascF p (n-1)=some i:=by
   rcases hkk with ⟨h,_⟩|h
   .omega
   exact h
  have e1:((i+1:Nat):Int)-1=(i:Int):=by omega
  obtain⟨hin,hge⟩:=ZjO hasc
  rw[e1]
  refine WC.skip<|WE.then<|sr<|yy (Y0.loadG sc3 rfl (hle01 _ _ _ hb)) rfl<|yy (Y0.sub rfl rfl) rfl ?_
  rw[hw1]
  refine sg rfl rfl<|nx<|WC.seqH (X:=Nat) (fun m=>[(0,.func (.yield yl) #[] #[]),(1,.pointer (some ⟨b,0,none⟩)),(3,.pointer (some ⟨b3,0,none⟩)),(5,.int .i64 (i:Int)),(6,.int .i64 (m:Int))])
   (fun m=>m<=n-1/\geF p (getF p (i:Int)) (n-1)=m) (fun _=>St w0 G0 G1 ((9003,some ⟨b3,.cells (pmv p) 58 (0,0),0⟩)::Lc s')) ?_ ?_
  .refine WC.block<|WC.loopH (X:=Nat) (fun m=>[(0,.func (.yield yl) #[] #[]),(1,.pointer (some ⟨b,0,none⟩)),(3,.pointer (some ⟨b3,0,none⟩)),(5,.int .i64 (i:Int)),(6,.int .i64 (m:Int))])
    (fun m=>i+1<=m/\m<=n-1/\geF p (getF p (i:Int)) (n-1)=geF p (getF p (i:Int)) m) (fun _=>St w0 G0 G1 ((9003,some ⟨b3,.cells (pmv p) 58 (0,0),0⟩)::Lc s')) (fun m=>m) (n-1) (fc rfl (fc rfl (fc rfl (fc rfl (fc rfl fn))))) ⟨by omega,Nat.le_refl _,rfl⟩ (fun w hs=>hs) ?_
   rintro m ⟨him,hm,hgem⟩
   obtain⟨m,rfl⟩:∃ q,m=q+1:=⟨m-1,by omega⟩
   have e3:i64.wrap (((m+1:Nat):Int)-1)=(m:Int):=by rw[IntKind.wrap_i64]; omega
   refine WC.seq<|WC.seq ?_
   refine WC.drawn [false,false,false,false,false,false] mix (by kernel_rfl) (fun hb=>?_)
   refine cn (fun _ hle=>Y0.move rfl)<|cn (fun _ hle=>Y0.idxA0 underlying58 sz3 rfl rfl ⟨by omega,by omega⟩)<|cn (fun _ hle=>Y0.loadL 9003 sc3 rfl rfl (Ze1 p (show m+1<8 by omega))) ?_
   refine cn (fun _ hle=>Y0.move rfl)<|cn (fun _ hle=>Y0.idxA0 underlying58 sz3 rfl rfl ⟨by omega,by omega⟩)<|cn (fun _ hle=>Y0.loadL 9003 sc3 rfl rfl (Ze1 p (show i<8 by omega)))<|Chain.tail0 hb ?_
   refine yy (Y0.lss rfl rfl) rfl<|WL.nil<|WE.nx<|WE.then<|WC.condD (p:=getF p ((m+1:Nat):Int)<getF p (i:Int)) rfl (fun hc=>?_) (fun hc=>?_)
   .have ha:geF p (getF p (i:Int)) (m+1)=geF p (getF p (i:Int)) m:=by show (if _ then _ else _)=_; rw[if_pos hc]
    have hne:i+1≠m+1:=fun e=>by rw[<- e] at hc; omega
    refine WC.skip<|WE.then<|WC.block<|WC.region<|mv rfl rfl<|yy (Y0.sub rfl rfl) rfl ?_
    rw[e3]
    exact sg rfl rfl<|WL.nil<|WE.inBlock<|WE.backH (x:=m+1) m ⟨by omega,by omega,by rw[hgem,ha]⟩ (fc rfl (fc rfl (fc rfl (fc rfl (fc rfl fn))))) (fun w hs=>hs) (Nat.lt_succ_self m)
   have ha:geF p (getF p (i:Int)) (m+1)=m+1:=by show (if _ then _ else _)=_; rw[if_neg hc]
   exact WC.exit<|WE.thenExit<|WE.thenExit<|WE.exitHere<|WE.midH (m+1) ⟨hm,by rw[hgem,ha]⟩ (fc rfl (fc rfl (fc rfl (fc rfl (fc rfl fn))))) (fun w hs=>hs)
  rintro m ⟨hm,hgem⟩
  have e4:i64.wrap ((i:Int)+1)=((i+1:Nat):Int):=by rw[IntKind.wrap_i64]; omega
  have hnext:(permsL n)[j+1]? = some (revF (swF p i m) (i+1) (n-(i+1)) ((n-(i+1)) / 2)):=by rw[hch]; unfold nextF; rw[hasc]; dsimp only; rw[hgem]
  refine WC.seq<|WC.drawn [false,true,false,false,false,false,false,false,false] mix (by kernel_rfl) (fun hbx=>?_)
  refine cn (fun _ hle=>Y0.move rfl)<|Chain.float Ze (Y0.move rfl)<|cn (fun _ hle=>Y0.move rfl)<|cn (fun _ hle=>Y0.idxA0 underlying58 sz3 rfl rfl ⟨by omega,by omega⟩)<|cn (fun _ hle=>Y0.loadL 9003 sc3 rfl rfl (Ze1 p (show m<8 by omega))) ?_
  refine cn (fun _ hle=>Y0.move rfl)<|cn (fun _ hle=>Y0.idxA0 underlying58 sz3 rfl rfl ⟨by omega,by omega⟩)<|cn (fun _ hle=>Y0.loadL 9003 sc3 rfl rfl (Ze1 p (show i<8 by omega)))<|cn (fun _ hle=>Y0.idxA0 underlying58 sz3 rfl rfl ⟨by omega,by omega⟩)<|Chain.tail0 hbx ?_
  refine WL.storeL 9003 (pmv (setF p i (getF p (m:Int)))) Ze sz3 rfl rfl rfl (by rw[ZB]; omega) rfl (Za5 _ _ _ _ _) ?_
  refine yy (Y0.idxA0 underlying58 sz3 rfl rfl ⟨by omega,by omega⟩) rfl ?_
  refine WL.storeL 9003 (pmv (swF p i m)) Ze sz3 rfl rfl rfl (by rw[ZB]; omega) rfl (Za5 _ _ _ _ _) ?_
  refine WL.nil<|WE.nx<|WE.then<|WC.region<|mv rfl rfl<|yy (Y0.eq (Y0.add rfl rfl) (congrArg (Value.int .i64) e4)) rfl<|yy (Y0.loadG sc3 rfl (hle01 _ _ _ hb)) rfl<|yy (Y0.slArr underlying58 sz3 rfl rfl rfl (show i+1<8 by omega) (show i+1<=n by omega) (show n<=8 by omega)) rfl ?_
  refine WL.callT Ze rfl (YC.of E78 rfl) (ZmN b3 (i+1) (n-(i+1)) (8-(i+1)) (swF p i m) (by omega)) rfl trivial (lc rfl ln) hz0 (fun v G2 L2 hle2 hpost=>?_)
  obtain⟨rfl,rfl⟩:=hpost
  refine WL.nil<|WE.inBlock<|WE.backH (x:=(j,p,s,G)) (j+1,_,s',G2) ⟨hnext,hI',Mem.le_trans hle01 hle2,hmono _ _ _ hle2 hp'⟩ (fc rfl (fc rfl (fc rfl fn))) (fun w hs=>hs.weaken (fun q z hq=>?_)) (by show (permsL n).length-(j+1)<(permsL n).length-j; omega)
  simp only[Lo.without,List.map_cons,List.map_nil,List.cons_append,List.nil_append,Lo.Zi] at hq ⊢
  split at hq
  .rename_i e; rw[if_pos e]; exact hq
  rename_i e; simp only[if_neg e]; exact hq
abbrev coreV(c:Zg)(q:Option Addr×Nat×Option Addr×Nat):List Value:=[.int .i64 c.n,.slice q.1 c.eqs.length q.2.1,.slice q.2.2.1 c.neqs.length q.2.2.2]
abbrev CanonT:=Zg×(Option Addr×Nat×Option Addr×Nat)×(Fin 8->Int)×ByteArray
theorem Zjp(k1:Zg)(k1eqsp:Option Addr)(k1eqsc:Nat)(k1neqsp:Option Addr)(k1neqsc:Nat)(r:Zg×(Fin 8->Int))(hr:(ZeD k1).Ret r):Ctr prog 14 #[.agg ([.int .i64 k1.n,.slice k1eqsp k1.eqs.length k1eqsc,.slice k1neqsp k1.neqs.length k1neqsc]).toArray] (fun G=>SlR RP G (.slice k1eqsp k1.eqs.length k1eqsc) k1.eqs/\SlR RP G (.slice k1neqsp k1.neqs.length k1neqsc) k1.neqs)
  (fun G v=>∃ zr0eqsp zr0eqsc zr0neqsp zr0neqsc,v = .tuple #[.agg ([.int .i64 r.1.n,.slice zr0eqsp r.1.eqs.length zr0eqsc,.slice zr0neqsp r.1.neqs.length zr0neqsc]).toArray,.agg (vecG (Value.int .i64) 8 r.2).toArray]/\SlR RP G (.slice zr0eqsp r.1.eqs.length zr0eqsc) r.1.eqs/\SlR RP G (.slice zr0neqsp r.1.neqs.length zr0neqsc) r.1.neqs):=by
 obtain⟨⟨hn1,hn4⟩,fin,hfin,hr⟩:=hr
 replace hr:_=r:=hr
 subst hr
 obtain⟨n,hn⟩:∃ n:Nat,k1.n=n:=⟨k1.n.toNat,by omega⟩
 rw[hn,Int.toNat_natCast] at hfin
 refine CtrL.enterM (args:=[_]) (N:=45) func14 rfl rfl rfl (fun w0 G0 hL0 hpre=>?_)
 obtain⟨k1eqsh,k1neqsh⟩:=hpre
 refine sr<|WL.box 1 Ze rfl rfl (fun b1=>?_)
 refine WL.alloc 2 Ze z46 rfl (fun b2=>WL.alloc 3 Ze z58 rfl (fun b3=>nr<|WL.alloc 4 Ze z46 rfl (fun b4=>nr<|WL.alloc 5 Ze z58 rfl (fun b5=>nr<|WL.alloc 6 Ze z9 rfl (fun b6=>?_)))))
 refine WL.storeL 6 #[.string ByteArray.empty] Ze sz9 rfl rfl rfl Nat.zero_lt_one rfl rfl ?_
 refine nx<|WC.seq<|sr<|yy (Y0.Zeo rfl) rfl<|yy (Y0.loadL 1 sc3 rfl rfl rfl) rfl ?_
 refine WL.call Ze rfl (YC.of E36 rfl) (ZoM k1.n) rfl trivial (fun v G1 hle1 hpost=>?_)
 obtain⟨bn,rfl,hbn⟩:=hpost
 rw[hn] at hbn
 refine nx ?_
 refine WC.rangeAll (t:=14) (f:=77) rfl E77 (fun ac d lp rec ha hst hpe htm hps has hbo=>?_)
 let Lc:CanonT->Lo:=fun s=>[(8001,some ⟨lp,.loop rec,0⟩),(8002,some ⟨d,.deferred (some []),0⟩),(1,some ⟨b1,.cells ([.int .i64 k1.n,.slice k1eqsp k1.eqs.length k1eqsc,.slice k1neqsp k1.neqs.length k1neqsc]:List Value).toArray 46 (0,0),0⟩),(2,some ⟨b2,.cells (coreV ⟨0,[],[]⟩ (none,0,none,0)).toArray 46 (0,0),0⟩),(3,some ⟨b3,.cells (pmv fun _=>0) 58 (0,0),0⟩),
  (4,some ⟨b4,.cells (coreV s.1 s.2.1).toArray 46 (0,0),0⟩),(5,some ⟨b5,.cells (pmv s.2.2.1) 58 (0,0),0⟩),(6,some ⟨b6,.cells #[.string s.2.2.2] 9 (0,0),0⟩)]
 refine⟨_,Lc (⟨0,[],[]⟩,(none,0,none,0),fun _=>0,ByteArray.empty),_,lc rfl (lc rfl (lc rfl (lc rfl (lc rfl (lc rfl (lc rfl (lc rfl ln))))))),fun i _=>by rw[hL0]; rfl,
  ZnF bn n (by omega) (by omega) lp (fun j s=>(canonL k1 ((permsL n).drop j) (s.1,s.2.2)).Ret fin) Lc (fun s G=>SlR RP G (.slice k1eqsp k1.eqs.length k1eqsc) k1.eqs/\SlR RP G (.slice k1neqsp k1.neqs.length k1neqsc) k1.neqs/\SlR RP G (.slice s.2.1.1 s.1.eqs.length s.2.1.2.1) s.1.eqs/\SlR RP G (.slice s.2.1.2.2.1 s.1.neqs.length s.2.1.2.2.2) s.1.neqs)
   (fun s i hi=>?_) (fun G G' s hle ⟨q1,q2,q3,q4⟩=>⟨q1.mono hle,q2.mono hle,q3.mono hle,q4.mono hle⟩) (fun j u s hj hI=>?_) _ (by rw[List.drop_zero]; exact hfin) ?_,⟨hbn,k1eqsh.mono hle1,k1neqsh.mono hle1,SlR.nil _ _,SlR.nil _ _⟩,fun G' L' v hle hpost=>?_⟩
 .simp only[Lc]
  rw[Lo.Zi,if_neg (by omega),Lo.Zi,if_neg (by omega),Lo.Zi,if_neg (by omega),Lo.Zi,if_neg (by omega),Lo.Zi,if_neg (by omega),Lo.Zi,if_neg (by omega),Lo.Zi,if_neg (by omega),Lo.Zi,if_neg (by omega)]; rfl
 .refine YCtr.Zlb (N:=45) rfl hst hpe hps (by rw[htm]; exact ha.round (by decide)) (fun w0' G hL' hG=>?_)
  obtain⟨⟨hk1,hk2,hs1,hs2⟩,p,hp,rfl⟩:=hG
  obtain⟨c,q,f,key⟩:=s
  dsimp only at hI hs1 hs2 ⊢
  rw[List.drop_eq_getElem_cons hj,show (permsL n)[j]=p by rw[List.getElem?_eq_getElem hj] at hp; exact Option.some.inj hp] at hI
  obtain⟨st',⟨yv1,hyv1,yv2,hyv2,yv3,hyv3,hr⟩,hI'⟩:=hI
  refine Zjm has ?_
  refine WCI.region Zh1 rfl (WL.alloc 7 Ze z58 rfl (fun b7=>?_))
  refine WL.storeLA 7 Ze sz58 rfl rfl rfl (ZB _ _ _) (ZB _ _ _) (fun u hu=>ZeK _ _ _ (fun _=>rfl) u (by simpa using hu))<|WL.nil (fun a1 v1 ha1 hs1'=>⟨_,_,_,ha1,hs1',rfl,?_⟩)
  refine Zjm hbo ?_
  refine WCI.block<|WCI.seq ?_
  refine WCI.drawn (Zc6 (Za2 Za3)) rfl [false,false,false,false,false,false,false,false,false,false,false,false,false,true,false] mix (by kernel_rfl) (fun hb=>?_)
  refine cn (fun _ hle=>Y0.Zeo rfl)<|cn (fun _ hle=>Y0.loadL 1 sc3 rfl rfl rfl)<|cn (fun _ hle=>Y0.Zfq rfl)<|cn (fun _ hle=>Y0.loadL 1 sc44 rfl rfl rfl)<|cn (fun _ hle=>Y0.loadLA 7 ag58 rfl rfl (ZB _ _ _)) ?_
  refine Chain.callU (post:=fun G v=>∃ yv1p yv1c,v = .slice yv1p yv1.length yv1c/\SlR (Rp.sl Zk) G (.slice yv1p yv1.length yv1c) yv1) (fun _=>Ze) (fun _ _=>YC.of E37 rfl) (Zd6 _ _ _ _ _ hyv1) rfl (fun G' hle=>(hk1.mono hle)) (fun v G1 G2 hle h=>?_) ?_
  .obtain⟨yv1p,yv1c,rfl,yv1h⟩:=h
   exact⟨_,_,rfl,yv1h.mono hle⟩
  refine cu (fun _ _ hle=>Y0.Zfr rfl)<|cu (fun _ _ hle=>Y0.loadL 1 sc44 rfl rfl rfl)<|cu (fun _ _ hle=>Y0.loadLA 7 ag58 rfl rfl (ZB _ _ _)) ?_
  refine Chain.callU (post:=fun G v=>∃ yv2p yv2c,v = .slice yv2p yv2.length yv2c/\SlR (Rp.sl Zk) G (.slice yv2p yv2.length yv2c) yv2) (fun _=>Ze) (fun _ _=>YC.of E37 rfl) (Zd6 _ _ _ _ _ hyv2) rfl (fun G' hle=>(hk2.mono hle)) (fun v G1 G2 hle h=>?_) ?_
  .obtain⟨yv2p,yv2c,rfl,yv2h⟩:=h
   exact⟨_,_,rfl,yv2h.mono hle⟩
  refine Chain.callUU (f:=13) (φ:=fun G v=>∃ yv3r0eqsp yv3r0eqsc yv3r0neqsp yv3r0neqsc,v = .tuple #[.agg ([.int .i64 yv3.1.n,.slice yv3r0eqsp yv3.1.eqs.length yv3r0eqsc,.slice yv3r0neqsp yv3.1.neqs.length yv3r0neqsc]).toArray,.int .i64 yv3.2]/\SlR (Rp.sl Zk) G (.slice yv3r0eqsp yv3.1.eqs.length yv3r0eqsc) yv3.1.eqs/\SlR (Rp.sl Zk) G (.slice yv3r0neqsp yv3.1.neqs.length yv3r0neqsc) yv3.1.neqs) (fun _=>Ze) (fun v G1 G2 hle h=>?_) (fun u G' hle hu=>?_) ?_
  .obtain⟨yv3r0eqsp,yv3r0eqsc,yv3r0neqsp,yv3r0neqsc,rfl,yv3r0eqsh,yv3r0neqsh⟩:=h
   exact⟨_,_,_,_,rfl,yv3r0eqsh.mono hle,yv3r0neqsh.mono hle⟩
  .obtain⟨⟨yv2p,yv2c,yv2hu,yv2h⟩,⟨yv1p,yv1c,yv1hu,yv1h⟩,_⟩:=(show (fun G v=>∃ yv2p yv2c,v = .slice yv2p yv2.length yv2c/\SlR (Rp.sl Zk) G (.slice yv2p yv2.length yv2c) yv2) G'.m (u 25)/\(fun G v=>∃ yv1p yv1c,v = .slice yv1p yv1.length yv1c/\SlR (Rp.sl Zk) G (.slice yv1p yv1.length yv1c) yv1) G'.m (u 21)/\True from hu)
   exact⟨_,_,_,fun _=>YC.of E13 rfl,ZaU _ _ _ _ _ _ _ _ hyv3,(by simp only[yv2hu,yv1hu] <;> rfl),⟨yv1h,yv2h⟩⟩
  refine Chain.y0UU (φ:=fun G v=>∃ p1 p1c p2 p2c,v = .tuple #[.agg ([.int .i64 yv3.1.n,.slice p1 yv3.1.eqs.length p1c,.slice p2 yv3.1.neqs.length p2c]).toArray,.int .i64 yv3.2]/\SlR (Rp.sl Zk) G (.slice p1 yv3.1.eqs.length p1c) yv3.1.eqs/\SlR (Rp.sl Zk) G (.slice p2 yv3.1.neqs.length p2c) yv3.1.neqs) (fun _=>Ze) (fun v G1 G2 hle h=>?_) (fun u G' hle hu=>?_) ?_
  .obtain⟨p1,p1c,p2,p2c,rfl,p1h,p2h⟩:=h
   exact⟨_,_,_,_,rfl,p1h.mono hle,p2h.mono hle⟩
  .obtain⟨⟨yv3r0eqsp,yv3r0eqsc,yv3r0neqsp,yv3r0neqsc,yv3hu,yv3r0eqsh,yv3r0neqsh⟩,_,_,_⟩:=(show (fun G v=>∃ yv3r0eqsp yv3r0eqsc yv3r0neqsp yv3r0neqsc,v = .tuple #[.agg ([.int .i64 yv3.1.n,.slice yv3r0eqsp yv3.1.eqs.length yv3r0eqsc,.slice yv3r0neqsp yv3.1.neqs.length yv3r0neqsc]).toArray,.int .i64 yv3.2]/\SlR (Rp.sl Zk) G (.slice yv3r0eqsp yv3.1.eqs.length yv3r0eqsc) yv3.1.eqs/\SlR (Rp.sl Zk) G (.slice yv3r0neqsp yv3.1.neqs.length yv3r0neqsc) yv3.1.neqs) G'.m (u 26)/\True/\True/\True from hu)
   simp only[undFr,yv3hu]
   exact⟨_,Y0.move rfl,yv3r0eqsp,yv3r0eqsc,yv3r0neqsp,yv3r0neqsc,rfl,yv3r0eqsh,yv3r0neqsh⟩
  refine Chain.y0UU (φ:=fun G v=>∃ p3 p3c p4 p4c,v = .agg ([.int .i64 yv3.1.n,.slice p3 yv3.1.eqs.length p3c,.slice p4 yv3.1.neqs.length p4c]).toArray/\SlR (Rp.sl Zk) G (.slice p3 yv3.1.eqs.length p3c) yv3.1.eqs/\SlR (Rp.sl Zk) G (.slice p4 yv3.1.neqs.length p4c) yv3.1.neqs) (fun _=>Ze) (fun v G1 G2 hle h=>?_) (fun u G' hle hu=>?_) ?_
  .obtain⟨p3,p3c,p4,p4c,rfl,p3h,p4h⟩:=h
   exact⟨_,_,_,_,rfl,p3h.mono hle,p4h.mono hle⟩
  .obtain⟨⟨p1,p1c,p2,p2c,yv4hu,p1h,p2h⟩,_,_,_,_⟩:=(show (fun G v=>∃ p1 p1c p2 p2c,v = .tuple #[.agg ([.int .i64 yv3.1.n,.slice p1 yv3.1.eqs.length p1c,.slice p2 yv3.1.neqs.length p2c]).toArray,.int .i64 yv3.2]/\SlR (Rp.sl Zk) G (.slice p1 yv3.1.eqs.length p1c) yv3.1.eqs/\SlR (Rp.sl Zk) G (.slice p2 yv3.1.neqs.length p2c) yv3.1.neqs) G'.m (u 15)/\True/\True/\True/\True from hu)
   simp only[undFr,yv4hu]
   exact⟨_,Y0.extract rfl rfl,p1,p1c,p2,p2c,rfl,p1h,p2h⟩
  refine Chain.floatUD (c:=.int .i64 yv3.2) (fun _=>Ze) (fun u G' hle hu=>?_) ?_
  .obtain⟨_,⟨p1,p1c,p2,p2c,yv4hu,p1h,p2h⟩,_,_,_,_⟩:=(show True/\(fun G v=>∃ p1 p1c p2 p2c,v = .tuple #[.agg ([.int .i64 yv3.1.n,.slice p1 yv3.1.eqs.length p1c,.slice p2 yv3.1.neqs.length p2c]).toArray,.int .i64 yv3.2]/\SlR (Rp.sl Zk) G (.slice p1 yv3.1.eqs.length p1c) yv3.1.eqs/\SlR (Rp.sl Zk) G (.slice p2 yv3.1.neqs.length p2c) yv3.1.neqs) G'.m (u 15)/\True/\True/\True/\True from hu)
   simp only[undFr,yv4hu]
   exact Y0.extract rfl rfl
  refine Chain.alloc (fun _=>Ze) z46 ?_
  refine Chain.tailX6 (fun z1v yv5v yv4v yv3v yv2v yv1v X1 X1le z1post yv5post yv4post yv3post yv2post yv1post=>?_)
  obtain⟨b8,rfl,z1hb⟩:=z1post
  obtain⟨p3,p3c,p4,p4c,rfl,p3h,p4h⟩:=yv5post
  obtain⟨p1,p1c,p2,p2c,rfl,p1h,p2h⟩:=yv4post
  obtain⟨yv3r0eqsp,yv3r0eqsc,yv3r0neqsp,yv3r0neqsc,rfl,yv3r0eqsh,yv3r0neqsh⟩:=yv3post
  obtain⟨yv2p,yv2c,rfl,yv2h⟩:=yv2post
  obtain⟨yv1p,yv1c,rfl,yv1h⟩:=yv1post
  refine WL.adopt z1hb (WL.unX (show WL _ _ _ _ _ _ (St _ _ X1.m _) from ?_))
  refine WL.storeLA 8 Ze sz46 rfl rfl rfl rfl rfl (List.all_eq_true.1 rfl) ?_
  refine sg rfl rfl<|WL.nil ?_
  refine WE.nx ?_
  refine WCI.then<|WCI.seq<|WCI.seq<|WCI.region (Zc6 (Zc6 (Za2 Za3))) rfl<|mv rfl rfl<|yy (Y0.neq rfl rfl) rfl<|WL.nil<|WCI.then ?_
  refine WCI.condD (p:=¬ yv3.2=0) rfl (fun hc1=>?_) (fun hc1=>?_)
  .replace hr:=hr.pos hc1
   replace hr:_=st':=hr
   subst hr
   refine WCI.exit<|WE.thenExit<|WE.exitHere ?_
   exact fun a2 w2 _ hs3=>⟨_,_,Lc (c,q,f,key),hs3,rfl,lc rfl (lc rfl (lc rfl (lc rfl (lc rfl (lc rfl (lc rfl (lc rfl ln))))))),rfl,(c,q,f,key),hI',rfl,hk1.mono X1le,hk2.mono X1le,hs1.mono X1le,hs2.mono X1le⟩
  replace hr:=hr.neg hc1
  obtain⟨yv6,hyv6,hr⟩:=hr
  refine WCI.skip<|WCI.then<|WCI.seq<|WCI.region (Zc6 (Za2 Za3)) rfl<|yy (Y0.loadLA 8 ag46 rfl rfl rfl) rfl ?_
  refine WL.call0 Ze rfl (YC.of E38 rfl) (Zlz _ _ _ _ _ _ hyv6) rfl (⟨p3h,p4h⟩) ?_
  refine sg rfl rfl<|WL.nil<|WCI.then<|WCI.seq<|WCI.region (Zc6 (Za2 Za3)) rfl<|yy (Y0.loadL 6 sc9 rfl rfl rfl) rfl ?_
  refine WL.caseY0 (p:=key=ByteArray.empty) Ze (Y0.eqlS underlying9 rfl rfl) rfl (fun hb1=>?_) (fun hb1=>?_)
  .replace hr:=hr.pos hb1
   replace hr:_=st':=hr
   subst hr
   refine mv rfl rfl<|sf rfl rfl rfl<|sf rfl rfl rfl<|sf rfl rfl rfl<|yy (Y0.pickT rfl rfl) rfl<|WL.nil<|WCI.then ?_
   refine WCI.cond (b:=true) rfl (fun _=>?_) (fun h=>by cases h)
   refine WCI.drawnB (Za2 Za3) rfl [(7,some ⟨b7,.cells (pmv p) 58 (0,0),0⟩)] (lc rfl ln) [false,true,true] mix (by kernel_rfl) (fun hb=>?_)
   refine cn (fun _ hle=>Y0.loadLA 8 ag46 rfl rfl rfl) ?_
   refine Chain.floatB Ze (Y0.loadLA 7 ag58 rfl rfl (ZB _ _ _))<|Chain.floatB Ze (Y0.move rfl) ?_
   refine Chain.tailB hb<|WLT.one (fun w hs=>hs.weaken (lc rfl ln)) ?_
   refine WL.storeLA 4 Ze sz46 rfl rfl rfl rfl rfl (List.all_eq_true.1 rfl)<|WLT.back<|WLT.one (fun w hs=>hs.weaken (lc rfl ln)) ?_
   refine WL.storeLA 5 Ze sz58 rfl rfl rfl (ZB _ _ _) (ZB _ _ _) (fun u hu=>ZeK _ _ _ (fun _=>rfl) u (by simpa using hu))<|WLT.back ?_
   refine WLT.storeL (fun w hs=>hs.weaken (lc rfl ln)) 6 #[.string yv6] Ze sz9 rfl rfl rfl Nat.zero_lt_one rfl rfl<|WLT.nil (fun w hs=>hs.weaken (lc rfl ln))<|WE.nx<|WE.inBlock ?_
   exact fun a2 w2 _ hs3=>⟨_,_,Lc (yv3.1,(p3,p3c,p4,p4c),p,yv6),hs3,rfl,lc rfl (lc rfl (lc rfl (lc rfl (lc rfl (lc rfl (lc rfl (lc rfl ln))))))),rfl,(yv3.1,(p3,p3c,p4,p4c),p,yv6),hI',rfl,hk1.mono X1le,hk2.mono X1le,p3h,p4h⟩
  replace hr:=hr.neg hb1
  refine mv rfl rfl<|gy rfl rfl (Y0.move rfl) rfl<|gy rfl rfl (Y0.loadL 6 sc9 rfl rfl rfl) rfl<|gy rfl rfl (Y0.lssS rfl rfl) rfl<|yy (Y0.pickF rfl rfl) rfl<|WL.nil<|WCI.then ?_
  refine WCI.cond (b:=Op.bytesLess yv6.toList key.toList) rfl (fun hc2=>?_) (fun hc2=>?_)
  .replace hr:=hr.pos hc2
   replace hr:_=st':=hr
   subst hr
   refine WCI.drawnB (Za2 Za3) rfl [(7,some ⟨b7,.cells (pmv p) 58 (0,0),0⟩)] (lc rfl ln) [false,true,true] mix (by kernel_rfl) (fun hb=>?_)
   refine cn (fun _ hle=>Y0.loadLA 8 ag46 rfl rfl rfl) ?_
   refine Chain.floatB Ze (Y0.loadLA 7 ag58 rfl rfl (ZB _ _ _))<|Chain.floatB Ze (Y0.move rfl) ?_
   refine Chain.tailB hb<|WLT.one (fun w hs=>hs.weaken (lc rfl ln)) ?_
   refine WL.storeLA 4 Ze sz46 rfl rfl rfl rfl rfl (List.all_eq_true.1 rfl)<|WLT.back<|WLT.one (fun w hs=>hs.weaken (lc rfl ln)) ?_
   refine WL.storeLA 5 Ze sz58 rfl rfl rfl (ZB _ _ _) (ZB _ _ _) (fun u hu=>ZeK _ _ _ (fun _=>rfl) u (by simpa using hu))<|WLT.back ?_
   refine WLT.storeL (fun w hs=>hs.weaken (lc rfl ln)) 6 #[.string yv6] Ze sz9 rfl rfl rfl Nat.zero_lt_one rfl rfl<|WLT.nil (fun w hs=>hs.weaken (lc rfl ln))<|WE.nx<|WE.inBlock ?_
   exact fun a2 w2 _ hs3=>⟨_,_,Lc (yv3.1,(p3,p3c,p4,p4c),p,yv6),hs3,rfl,lc rfl (lc rfl (lc rfl (lc rfl (lc rfl (lc rfl (lc rfl (lc rfl ln))))))),rfl,(yv3.1,(p3,p3c,p4,p4c),p,yv6),hI',rfl,hk1.mono X1le,hk2.mono X1le,p3h,p4h⟩
  replace hr:=hr.neg (Bool.eq_false_iff.1 hc2)
  replace hr:_=st':=hr
  subst hr
  refine WCI.skip<|WE.inBlock ?_
  exact fun a2 w2 _ hs3=>⟨_,_,Lc (c,q,f,key),hs3,rfl,lc rfl (lc rfl (lc rfl (lc rfl (lc rfl (lc rfl (lc rfl (lc rfl ln))))))),rfl,(c,q,f,key),hI',rfl,hk1.mono X1le,hk2.mono X1le,hs1.mono X1le,hs2.mono X1le⟩
 .intro q hq x hx
  simp only[Lc,List.mem_cons,List.not_mem_nil,or_false] at hq
  rcases hq with rfl|rfl|rfl|rfl|rfl|rfl|rfl|rfl <;> cases hx <;> rfl
 obtain⟨rfl,⟨c,q,f,key⟩,hI,rfl,hq1,hq2,hq3,hq4⟩:=hpost
 dsimp only at hI hq3 hq4
 rw[List.drop_length] at hI
 replace hI:(c,f,key)=fin:=hI
 subst hI
 refine⟨rfl,WCD.seq<|WCD.drawnB [(5,some ⟨b5,.cells (pmv f) 58 (0,0),0⟩)] (lc rfl ln) [false,true] mix (by kernel_rfl) (fun hb=>?_)⟩
 refine cn (fun _ hle=>Y0.loadLA 4 ag46 rfl rfl rfl) ?_
 refine Chain.floatB Ze (Y0.loadLA 5 ag58 rfl rfl (ZB _ _ _)) ?_
 refine Chain.tailB hb<|WLT.one (fun w hs=>hs.weaken (lc rfl ln)) ?_
 refine WL.storeLA 2 Ze sz46 rfl rfl rfl rfl rfl (List.all_eq_true.1 rfl)<|WLT.back<|WLT.one (fun w hs=>hs.weaken (lc rfl ln)) ?_
 refine WL.storeLA 3 Ze sz58 rfl rfl rfl (ZB _ _ _) (ZB _ _ _) (fun u hu=>ZeK _ _ _ (fun _=>rfl) u (by simpa using hu))<|WLT.back<|WLT.nil (fun w hs=>hs.weaken (lc rfl ln))<|WE.nx<|WCD.then<|WCD.ret ?_
 refine WE.retD (rvs:=[.cell 2 46,.cell 3 58]) [] [.agg (coreV c q).toArray,.agg (pmv f)] rfl rfl rfl (fun i rv v e1 e2=>?_) ln ⟨_,_,_,_,rfl,hq3,hq4⟩
 match i with
 | 0=>simp at e1 e2; subst e1 e2; exact RV.cellA (i:=2) ag46 rfl rfl rfl
 | 1=>simp at e1 e2; subst e1 e2; exact RV.cellA (i:=3) ag58 rfl rfl (ZB _ _ _)
 | i+2=>simp at e1
theorem cT'{q K t y i r}(hr:(Zdh q K).Ret r):CtrL prog 120 #[sv0 t q y,.int .u64 K] [(5000,i)] (fun G=>RowR (Rp.int .u8) 5 G (sv0 t q y) q i) (fun G L v=>∃ T W B,L=[(5000,B)]/\v=sv0 T r W/\RowR (Rp.int .u8) 5 G (sv0 T r W) r B):=by
 refine bl' (args:=[_,_]) (N:=21) func120 z z z (fun I p C J=>?_)
 have Y:=J
 refine sr<|sx1 z<|c'<|aa' (X:=(List Int)×Option Addr×Nat×Option Ow×Int×Mem) hr (fun ⟨g,k,o,d,c,f⟩=>⟨(g,c),[(0,sv0 k g o),(1,.int .u64 c)],Mem.le p f/\RowR (Rp.int .u8) 5 f (sv0 k g o) g d,St I p f [(5000,d)]⟩) (fun (⟨u,x,s,h,j,l⟩:(List Int)×Option Addr×Nat×Option Ow×Int×Mem)=>⟨(u,j),[(0,sv0 x u s),(1,.int .u64 j)],Mem.le p l/\RowR (Rp.int .u8) 5 l (sv0 x u s) u h,St I p l [(5000,h)]⟩) ⟨q,t,y,i,K,p⟩ z (fz0 z) ⟨mr,Y⟩ (w1 z) ?_ ?_
 .rintro _ ⟨g,k,o,d,c,f⟩ ⟨n,D⟩ hr
  refine c'<|sr<|mw0 z<|yw0 (aL' z z)<|nx<|I' hr z (fun Z hr=>?_) (fun Z hr=>?_)
  .refine t'<|b'<|U'<|sr<|mw0 z<|mw0 z<|yw0 (aV' z z (by decide))<|yw0 (K' h' aJ' z)<|ad0 z<|aO' (e:=5) (r:=(Rp.int .u8)) (vs:=#[(0,.int .u8 (u8.wrap ((u8.wrap (Int.tmod c 128))+128)))]) (cs:=[.int .u8 (u8.wrap ((u8.wrap (Int.tmod c 128))+128))]++([])) ([u8.wrap ((u8.wrap (Int.tmod c 128))+128)]:List Int) z z z z z (by decide) (fun _=>by kernel_rfl) ⟨[.int .u8 (u8.wrap ((u8.wrap (Int.tmod c 128))+128))],[],z,z,z⟩ (key:=999) z (by rw[C]; rfl) (fun p3 R m U=>?_)
   refine oA hr fun F hr=>dG' (r:=(Rp.int .u8)) (e:=5) 5000 z z bZ' el5 z (by decide) z z (D.mono m) z U F fun p4 P E aa=>sx1 z<|w'<|mw0 z<|yw0 (bv' z z (by decide))<|sw0 z<|p'<|E'<|O' ⟨(g++[u8.wrap ((u8.wrap (Int.tmod c 128))+128)]),p4,P,E,u64.wrap (Int.tdiv c 128),R⟩ hr ⟨(mx n m),aa⟩ (fz0 z) (w1 z)
  refine Z'<|f'<|f'<|F'<|ab' ⟨g,k,o,d,c,f⟩ ⟨hr,n,D⟩ (fz0 z) (w1 z)
 rintro⟨u,x,s,h,j,l⟩ ⟨hr,ab,Q⟩
 refine b'<|sr<|mw0 z<|mw0 z<|yw0 (K' h' aJ' z)<|aO' (e:=5) (r:=(Rp.int .u8)) (vs:=#[(0,.int .u8 (u8.wrap j))]) (cs:=[.int .u8 (u8.wrap j)]++([])) ([u8.wrap j]:List Int) z z z z z (by decide) (fun _=>by kernel_rfl) ⟨[.int .u8 (u8.wrap j)],[],z,z,z⟩ (key:=999) z (by rw[C]; rfl) (fun p1 O A S=>?_)
 refine oA hr fun M hr=>dG' (r:=(Rp.int .u8)) (e:=5) 5000 z z bZ' el5 z (by decide) z z (Q.mono A) z S M fun p2 ad H V=>sx1 z<|q' ?_
 obtain rfl:_=r:=hr
 refine bh' (S':=St I p O [(5000,H)]) (w1 z)<|o' z z ⟨_,_,_,z,z,V⟩
theorem fn'{g D j l e r}(hr:(ZiD g D).Ret r):CtrL prog 83 #[sv0 j g l,i' D] [(5000,e)] (fun G=>RowR (Rp.int .u8) 5 G (sv0 j g l) g e) (fun G L v=>∃ C E k,L=[(5000,k)]/\v=sv0 C r E/\RowR (Rp.int .u8) 5 G (sv0 C r E) r k):=by
 refine bl' (args:=[_,_]) (N:=20) func83 z z z (fun o y F q=>?_)
 have f:=q
 have hz:o.L.zero:=by
  rw[F]; intro p A x S
  simp only[List.mem_cons,List.not_mem_nil,or_false] at A
  subst A; exact cC' f S
 refine sr<|sx1 z<|c'<|sr<|mw0 z<|ls0 z<|nx<|I' hr z (fun H hr=>?_) (fun H hr=>?_)
 .refine sr<|mw0 z<|mw0 z<|ad0 z<|yw0 (Y0.neg z)<|yw0 (K' aC' h' z)<|yw0 (bE' z z)<|ad0 z<|oE hr fun W t hr=>bo' z z (k' E120 z) (cT' t) z (f) (lc z ln) hz (fun M u K J c=>?_)
  obtain⟨R,Q,i,rfl,rfl,n⟩:=c
  refine sx1 z<|q'<|j' ?_
  obtain rfl:_=r:=hr
  refine bh' (S':=St o y u [(5000,i)]) (w1 z)<|o' z z ⟨_,_,_,z,z,n⟩
 refine t'<|b'<|sr<|mw0 z<|mw0 z<|yw0 (K' aC' h' z)<|yw0 (bE' z z)<|oE hr fun V m hr=>bo' z z (k' E120 z) (cT' m) z (f) (lc z ln) hz (fun U B T I d=>?_)
 obtain⟨O,P,h,rfl,rfl,s⟩:=d
 refine sx1 z<|q' ?_
 obtain rfl:_=r:=hr
 refine bh' (S':=St o y B [(5000,h)]) (w1 z)<|o' z z ⟨_,_,_,z,z,s⟩
theorem eC'{A C F M s i g r}(hr:(ZgH A C).Ret r):CtrL prog 162 #[sv0 F A M,.agg ((v38' C i g)).toArray] [(5000,s)] (fun G=>RowR (Rp.int .u8) 5 G (sv0 F A M) A s/\sl (Rp.int .u32) G i g C.mag) (fun G L v=>∃ zp zc R,L=[(5000,R)]/\v=sv0 zp r zc/\RowR (Rp.int .u8) 5 G (sv0 zp r zc) r R):=by
 refine bl' (args:=[_,_]) (N:=46) func162 z z z (fun I o V ac=>?_)
 obtain⟨U,d⟩:=ac
 have hz:I.L.zero:=by
  rw[V]; intro p hp x hx
  simp only[List.mem_cons,List.not_mem_nil,or_false] at hp
  subst hp; exact cC' U hx
 refine sr<|ah' 3 z z z fun P=>sw0 z<|nr<|sx1 z<|aD' hr (fun (⟨s1,J⟩:Int×Mem)=>⟨[(0,sv0 F A M),(3,pt0 P),(5,.int .u64 s1)],Zem A C s1,Mem.le o J,St I o J [(3,bk0 P (v38' C i g) 38),(5000,s)]⟩) ?_ ?_
 .refine sr<|yw0 (aw' z)<|yw0 (A' 3 sc4 z z z)<|nx<|aX' hr z (fun ai hr=>?_) (fun ai hr=>?_)
  .refine w'<|sw0 z<|p'<|ao' ⟨1,o⟩ ⟨hr,mr⟩ (fz0 z) (w2 z z)
  refine t'<|ao' ⟨0,o⟩ ⟨hr,mr⟩ (fz0 z) (w2 z z)
 rintro⟨s1,J⟩ ⟨hr,f⟩
 refine sr<|mw0 z<|yw0 (ai' z)<|yw0 (A' 3 aE' z z z)<|yw0 (D' a' (d.mono f) z)<|yw0 (K' aC' h' z)<|yw0 (bE' z z)<|mw0 z<|ad0 z<|oE hr fun af ae hr=>bo' z z (k' E120 z) (cT' ae) z ((U.mono f)) (lc z ln) hz (fun av D au k B=>?_)
 obtain⟨Z,Y,O,rfl,rfl,W⟩:=B
 refine sx1 z<|c'<|sr<|sx1 z<|aa' (X:=(List Int)×Option Addr×Nat×Option Ow×Int×Mem) hr (fun ⟨q,t,u,l,Q,m⟩=>⟨(q,Q),[(0,sv0 t q u),(3,pt0 P),(6,i' Q)],Mem.le D m/\RowR (Rp.int .u8) 5 m (sv0 t q u) q l,St I o m [(3,bk0 P (v38' C i g) 38),(5000,l)]⟩) (fun (⟨E,H,K,j,n⟩:(List Int)×Option Addr×Nat×Option Ow×Mem)=>⟨E,[(0,sv0 H E K)],Mem.le D n/\RowR (Rp.int .u8) 5 n (sv0 H E K) E j,St I o n [(5000,j)]⟩) ⟨af,Z,Y,O,0,D⟩ z (fz0 z) ⟨mr,W⟩ (w2 z z) ?_ ?_
 .rintro _ ⟨q,t,u,l,Q,m⟩ ⟨h,T⟩ hr
  refine c'<|sr<|mw0 z<|yw0 (ai' z)<|yw0 (A' 3 aE' z z z)<|yw0 (D' a' (d.mono (mx (mx f k) h)) z)<|ls0 z<|nx<|I' hr z (fun ap hr=>?_) (fun ap hr=>?_)
  .refine t'<|b'<|c'<|U'<|sr<|yw0 (ai' z)<|yw0 (A' 3 aE' z z z)<|mw0 z<|oE hr fun c S hr=>yw0 (Q' a' R' (d.mono (mx (mx f k) h)) z z S)<|yw0 (ac' au' z (ak' (M' (ad' d S) (mx (mx f k) h))))<|sx1 z<|w'<|mw0 z<|mw0 z<|yw0 (bH' z z (by decide))<|yw0 (K' m' aJ' z)<|mw0 z<|yw0 (bH' z z (by decide))<|yw0 (K' m' aJ' z)<|mw0 z<|yw0 (bH' z z (by decide))<|yw0 (K' m' aJ' z)<|mw0 z<|yw0 (K' m' aJ' z)<|aO' (e:=5) (r:=(Rp.int .u8)) (vs:=#[(0,.int .u8 (u8.wrap (Int.fdiv c (2 ^ (min (24:Int).toNat u32.bits))))),(1,.int .u8 (u8.wrap (Int.fdiv c (2 ^ (min (16:Int).toNat u32.bits))))),(2,.int .u8 (u8.wrap (Int.fdiv c (2 ^ (min (8:Int).toNat u32.bits))))),(3,.int .u8 (u8.wrap c))]) (cs:=[.int .u8 (u8.wrap (Int.fdiv c (2 ^ (min (24:Int).toNat u32.bits))))]++([.int .u8 (u8.wrap (Int.fdiv c (2 ^ (min (16:Int).toNat u32.bits))))]++([.int .u8 (u8.wrap (Int.fdiv c (2 ^ (min (8:Int).toNat u32.bits))))]++([.int .u8 (u8.wrap c)]++([]))))) ([u8.wrap (Int.fdiv c (2 ^ (min (24:Int).toNat u32.bits))),u8.wrap (Int.fdiv c (2 ^ (min (16:Int).toNat u32.bits))),u8.wrap (Int.fdiv c (2 ^ (min (8:Int).toNat u32.bits))),u8.wrap c]:List Int) z z z z z (by decide) (fun _=>by kernel_rfl) ⟨[.int .u8 (u8.wrap (Int.fdiv c (2 ^ (min (24:Int).toNat u32.bits))))],[.int .u8 (u8.wrap (Int.fdiv c (2 ^ (min (16:Int).toNat u32.bits))))]++([.int .u8 (u8.wrap (Int.fdiv c (2 ^ (min (8:Int).toNat u32.bits))))]++([.int .u8 (u8.wrap c)]++([]))),z,z,⟨[.int .u8 (u8.wrap (Int.fdiv c (2 ^ (min (16:Int).toNat u32.bits))))],[.int .u8 (u8.wrap (Int.fdiv c (2 ^ (min (8:Int).toNat u32.bits))))]++([.int .u8 (u8.wrap c)]++([])),z,z,⟨[.int .u8 (u8.wrap (Int.fdiv c (2 ^ (min (8:Int).toNat u32.bits))))],[.int .u8 (u8.wrap c)]++([]),z,z,⟨[.int .u8 (u8.wrap c)],[],z,z,z⟩⟩⟩⟩ (key:=999) z (by rw[V]; rfl) (fun p1 aj y al=>?_)
   refine oA hr fun ad hr=>dG' (r:=(Rp.int .u8)) (e:=5) 5000 z z bZ' el5 z (by decide) z z (T.mono y) z al ad fun p2 ag aa ao=>sw0 z<|p'<|E'<|b'<|w'<|mw0 z<|ad0 z<|sw0 z<|p'<|O' ⟨(q++[u8.wrap (Int.fdiv c (2 ^ (min (24:Int).toNat u32.bits))),u8.wrap (Int.fdiv c (2 ^ (min (16:Int).toNat u32.bits))),u8.wrap (Int.fdiv c (2 ^ (min (8:Int).toNat u32.bits))),u8.wrap c]),p2,ag,aa,i64.wrap (Q+1),aj⟩ hr ⟨(mx h y),ao⟩ (fz0 z) (w2 z z)
  refine Z'<|f'<|f'<|F'<|ab' ⟨q,t,u,l,m⟩ ⟨hr,h,T⟩ (f1 z) (w1 z)
 rintro⟨E,H,K,j,n⟩ ⟨hr,aq,am⟩
 refine b'<|sr<|mw0 z<|sx1 z<|q' ?_
 obtain rfl:_=r:=hr
 refine bh' (S':=St I o n [(5000,j)]) (w1 z)<|o' z z ⟨_,_,_,z,z,am⟩
theorem fb'{s h y B q f c e d r}(hr:(ZgG s h).Ret r):CtrL prog 143 #[sv0 y s B,.agg ((v40' h f c e d)).toArray] [(5000,q)] (fun G=>RowR (Rp.int .u8) 5 G (sv0 y s B) s q/\sl (Rp.int .u32) G f c h.num.mag/\sl (Rp.int .u32) G e d h.den.mag) (fun G L v=>∃ P Q A,L=[(5000,A)]/\v=sv0 P r Q/\RowR (Rp.int .u8) 5 G (sv0 P r Q) r A):=by
 refine bl' (args:=[_,_]) (N:=12) func143 z z z (fun M X R H=>?_)
 obtain⟨D,j,i⟩:=H
 have hz:M.L.zero:=by
  rw[R]; intro p K x hx
  simp only[List.mem_cons,List.not_mem_nil,or_false] at K
  subst K; exact cC' D hx
 refine sr<|ah' 3 z z z fun b2=>sx1 z<|c'<|WC.drawnBP (l:=permOps [0,1,2,4,5,3,6,7] _) (Zj3 (by kernel_rfl)) [(3,bk0 b2 (v40' h f c e d) 40)] (lc z ln) [ff,ff,ff,tt,tt] mix (by kernel_rfl) fun t=>cm0 z<|cn (fun _ C=>aT' z)<|cn (fun _ C=>ag' ((v38' h.num f c)).toArray 3 W' z z z (aq' ([]) ((v38' h.num f c)) ((v38' h.den e d))))<|cF' z (aM' z)<|cF' z (ag' ((v38' h.den e d)).toArray 3 W' z z z (aq' ((v38' h.num f c)) ((v38' h.den e d)) ([])))<|Chain.tailB t<|WLT.one (fun w k=>k.weaken (lc z ln))<|oE hr fun ag J hr=>bo' z z (k' E162 z) (eC' J) z (⟨D,j⟩) (lc z ln) hz (fun U ae T g n=>?_)
 obtain⟨Z,Y,S,rfl,rfl,F⟩:=n
 refine WLT.back<|WLT.one (fun w k=>(k.memLe t g).weaken (lc z ln))<|oE hr fun af E hr=>bo' z z (k' E162 z) (eC' E) z (⟨F,(i.mono g)⟩) (lc z ln) hz (fun ad O ac m o=>?_)
 obtain⟨V,W,u,rfl,rfl,I⟩:=o
 refine WLT.back<|WLT.y0 (fun w k=>(k.memLe t (mx g m)).weaken (lc z ln)) z (Y0.assign z) z<|WLT.nil (fun w k=>(k.memLe t (mx g m)).weaken (lc z ln))<|ar'<|b'<|q' ?_
 obtain rfl:_=r:=hr
 refine bh' (S':=St M X O [(5000,u)]) (w1 z)<|o' z z ⟨_,_,_,z,z,I⟩
theorem fy'{b1 M ah ao S n t r}(hr:(Zkx b1 M).Ret r):CtrL prog 121 #[sv0 ah b1 ao,sv0 n M t] [(5000,S)] (fun G=>RowR (Rp.int .u8) 5 G (sv0 ah b1 ao) b1 S/\sl g' G n t M) (fun G L v=>∃ zp zc ar,L=[(5000,ar)]/\v=sv0 zp r zc/\RowR (Rp.int .u8) 5 G (sv0 zp r zc) r ar):=by
 refine bl' (args:=[_,_]) (N:=40) func121 z z z (fun O U aM aG=>?_)
 obtain⟨aj,f⟩:=aG
 have hz:O.L.zero:=by
  rw[aM]; intro p hp x hx
  simp only[List.mem_cons,List.not_mem_nil,or_false] at hp
  subst hp; exact cC' aj hx
 refine sr<|sw0 z<|nr<|mw0 z<|mw0 z<|yw0 (D' N' f z)<|yw0 (K' aC' h' z)<|oE hr fun aR az hr=>bo' z z (k' E120 z) (cT' az) z (aj) (lc z ln) hz (fun a1 T aZ d I=>?_)
 obtain⟨aF,ax,Z,rfl,rfl,aC⟩:=I
 refine sx1 z<|c'<|sr<|sx1 z<|aa' (X:=(List Int)×Option Addr×Nat×Option Ow×Int×Mem) hr (fun ⟨F,B,C,j,J,s⟩=>⟨(F,J),[(0,sv0 B F C),(1,sv0 n M t),(5,i' J)],Mem.le T s/\RowR (Rp.int .u8) 5 s (sv0 B F C) F j,St O U s [(5000,j)]⟩) (fun (⟨Y,V,W,k,u⟩:(List Int)×Option Addr×Nat×Option Ow×Mem)=>⟨Y,[(0,sv0 V Y W)],Mem.le T u/\RowR (Rp.int .u8) 5 u (sv0 V Y W) Y k,St O U u [(5000,k)]⟩) ⟨aR,aF,ax,Z,0,T⟩ z (fz0 z) ⟨mr,aC⟩ (w1 z) ?_ ?_
 .rintro _ ⟨F,B,C,j,J,s⟩ ⟨c,ai⟩ hr
  refine c'<|sr<|mw0 z<|mw0 z<|yw0 (D' N' (f.mono (mx d c)) z)<|ls0 z<|nx<|I' hr z (fun aU hr=>?_) (fun aU hr=>?_)
  .refine t'<|b'<|c'<|U'<|sr<|mw0 z<|mw0 z<|mw0 z<|oE hr fun x1 au hr=>yw0 (Q' N' by' (f.mono (mx d c)) z z au)<|yw0 (bu' z) ?_
   obtain⟨am,ap,aq,al,aJ,q,o⟩:=cW' (M' (AtK.fst (bW' (ad' f au))) (mx d c))
   refine yw0 (aP' _ aN' z z aJ)<|oE hr fun aN aA hr=>bo' z z (k' E143 z) (fb' aA) z (⟨ai,q,o⟩) (lc z ln) hz (fun a0 R aY h Q=>?_)
   obtain⟨aB,av,ac,rfl,rfl,aH⟩:=Q
   refine sw0 z<|nr<|sx1 z<|aa' (X:=(List Int)×Option Addr×Nat×Option Ow×Int×Mem) hr (fun ⟨H,y,E,i,k1,m⟩=>⟨(H,k1),[(0,sv0 y H E),(1,sv0 n M t),(5,i' J),(6,i' k1)],Mem.le R m/\RowR (Rp.int .u8) 5 m (sv0 y H E) H i,St O U m [(5000,i)]⟩) (fun (⟨P,A,D,g,l⟩:(List Int)×Option Addr×Nat×Option Ow×Mem)=>⟨P,[(0,sv0 A P D),(1,sv0 n M t),(5,i' J)],Mem.le R l/\RowR (Rp.int .u8) 5 l (sv0 A P D) P g,St O U l [(5000,g)]⟩) ⟨aN,aB,av,ac,0,R⟩ z (fz0 z) ⟨mr,aH⟩ (w1 z) ?_ ?_
   .rintro _ ⟨H,y,E,i,k1,m⟩ ⟨e,an⟩ hr
    refine c'<|sr<|mw0 z<|ls0 z<|nx<|I' hr z (fun aO hr=>?_) (fun aO hr=>?_)
    .refine t'<|b'<|c'<|U'<|w'<|mw0 z<|mw0 z<|mw0 z<|mw0 z<|oE hr fun x2 ag hr=>yw0 (Q' N' by' (f.mono (mx (mx (mx d c) h) e)) z z ag)<|yw0 (bb' z)<|oA hr fun ak hr=>yw0 (Y0.idxA av' sz3 z z ak)<|yw0 (ac' sc3 z (AtK.vecAt (M' (cS' (bW' (ad' f ag))) (mx (mx (mx d c) h) e)) ak))<|yw0 (K' aC' h' z)<|oE hr fun aP aD hr=>bo' z z (k' E120 z) (cT' aD) z (an) (lc z ln) hz (fun aW aQ a2 af K=>?_)
     obtain⟨aw,aE,ad,rfl,rfl,ay⟩:=K
     refine sw0 z<|p'<|E'<|b'<|w'<|mw0 z<|ad0 z<|sw0 z<|p'<|O' ⟨aP,aw,aE,ad,i64.wrap (k1+1),aQ⟩ hr ⟨(mx e af),ay⟩ (fz0 z) (w1 z)
    refine Z'<|f'<|f'<|F'<|ab' ⟨H,y,E,i,m⟩ ⟨hr,e,an⟩ (fz0 z) (w1 z)
   rintro⟨P,A,D,g,l⟩ ⟨hr,aa,aI⟩
   refine E'<|b'<|w'<|mw0 z<|ad0 z<|sw0 z<|p'<|O' ⟨P,A,D,g,i64.wrap (J+1),l⟩ hr ⟨(mx (mx c h) aa),aI⟩ (fz0 z) (w1 z)
  refine Z'<|f'<|f'<|F'<|ab' ⟨F,B,C,j,s⟩ ⟨hr,c,ai⟩ (f1 z) (w1 z)
 rintro⟨Y,V,W,k,u⟩ ⟨hr,aV,aS⟩
 refine b'<|sr<|mw0 z<|sx1 z<|q' ?_
 obtain rfl:_=r:=hr
 refine bh' (S':=St O U u [(5000,k)]) (w1 z)<|o' z z ⟨_,_,_,z,z,aS⟩
end Go.Proofs.YtgllmhmhldlemaaGreat

