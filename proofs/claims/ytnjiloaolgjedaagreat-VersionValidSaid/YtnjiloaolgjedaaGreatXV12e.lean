/- The law VersionValid holds for every input: a part of its proof (what the code does, plain models, and what they return). No condition. -/
import Derived.Test.YtnjiloaolgjedaaGreatXV12d
import Derived.Test.YtnjiloaolgjedaaGreatXV12c
import Derived.Test.YtnjiloaolgjedaaGreatXV12b
set_option linter.unusedVariables false
set_option linter.unusedSimpArgs false
namespace Go.Proofs.YtnjiloaolgjedaaGreat
open Go.IntKind (i8 i16 i32 i64 u8 u16 u32 u64)
open Go.Proofs.Tryz
open Go Go.EL Go.RowKit Go.Proofs
theorem em'{f i C p c m tk q d r}(hr:(Zbi f i C).Ret r):CtrL prog 129 #[.slice p m c,i' i,.slice q C.length d] [(5000,tk)] (fun G=>RowR Rp.str 9 G (.slice p m c) f tk/\sl Rp.str G q d C) (fun G L v=>∃ zp zc ah,L=[(5000,ah)]/\v = .slice zp r.length zc/\RowR Rp.str 9 G (.slice zp r.length zc) r ah):=by
 obtain⟨⟨⟨a1,aH⟩,aG,aZ⟩,hr⟩:=hr
 obtain rfl:_=r:=hr
 obtain⟨j,rfl⟩:∃ j:Nat,i=j:=⟨i.toNat,by omega⟩
 refine bh' (args:=[_,_,_]) (N:=95) func129 z z z (fun w0 K az ap=>?_)
 obtain⟨I,ai⟩:=ap
 obtain⟨p',c1,hf⟩:=I.form
 cases hf
 simp only[Int.toNat_natCast]
 refine sr<|sg z z<|nr<|mv z z<|mv z z<|yy (Y0.slcG F' sz9 z z (by omega)) z<|nr<|mv z z<|yy (ed' F' z) z<|sx0 z z<|n'<|sr<|mv z z<|yy (at' z z) z<|nx<|bd' (by rw[show decide ((C.length:Int)=0)=false from decide_eq_false (by omega)]; rfl)<|q'<|g'<|sr<|mv z z<|yy (ed' F' z) z<|sx0 z z<|n'<|sr<|mv z z<|mv z z<|yy (at' z z) z<|nx<|dF' (p:=(j:Int)=(f.length:Int)) z (fun hc=>?_) (fun hc=>?_)
 .have hj:j=f.length:=by omega
  subst hj
  have e1:f.take f.length++C++f.drop f.length=f++C:=by simp
  rw[e1]
  refine sr<|mv z z<|mv z z<|cr' (r:=Rp.str) (e:=9) 5000 z z F' el9 z (by decide) z z I z ai (by simp only[List.length_append,small]; omega) fun p2 c2 aF Y=>sx0 z z<|j'<|a'<|aE' (S':=St w0 K K [(5000,aF)]) (fun w A=>?_) (k' z z ⟨_,_,_,z,z,Y⟩)
  exact A.weaken (lc z ln)
 cases tk with
 | none=>have:=I.1; subst this; simp at aH hc; omega
 | some y=>
 obtain⟨aR,cs,s,hv,ho,ag,X,U,aD,t⟩:=I
 cases hv
 obtain⟨b,ob,mk⟩:=y
 dsimp only at ho ag
 subst ho ag
 have aT:=X.len
 have aY:j<f.length:=by omega
 have aq:=RepL.split (l:=f.take j) (m:=f.drop j) (by rw[List.take_append_drop]; exact X)
 obtain⟨x,g,al,ae,Q⟩:=aq
 subst al
 have E:=ae.len
 have R:=Q.len
 rw[List.length_take,Nat.min_eq_left (by omega)] at E
 rw[List.length_drop] at R
 obtain⟨qy,dy,ds,aE,a0,an,aa,D,B⟩:=ai
 cases aE
 have ac:=aa (by omega)
 obtain⟨⟨vb,vo,vs⟩,rfl⟩:=Option.isSome_iff_exists.1 ac
 have af:=an _ z (by omega)
 dsimp only at af
 subst af
 have B:∀ k u,ds[k]? = some u->K vb (vo+k)=some u:=B
 have F:=D.len
 rw[aG,Nat.one_mul] at F
 have W:(Rp.str).size=1:=z
 rw[W] at E R F U
 simp only[List.length_append] at U
 have J:∀ (bb S:Nat) (rs:List Value),(x++ds++g++rs).length=S*1->S<=maxLen->f.length+1<=S->RowR Rp.str 9 K (.slice (some ⟨bb,0,none⟩) (f.take j++C++f.drop j).length S) (f.take j++C++f.drop j) (bk0 bb (x++ds++g++rs) 9):=fun bb S rs h1 Y h3=>
  ⟨S,x++ds++g,rs,z,z,z,(ae.append D).append Q,by rw[W]; exact h1,Y,by simp only[List.length_append,List.length_take,List.length_drop]; omega⟩
 have P:(f.take j++C++f.drop j).length=f.length+1:=by simp only[List.length_append,List.length_take,List.length_drop]; omega
 refine q'<|g'<|n'<|sr<|mv z z<|mv z z<|yy (W' z z) z<|mv z z<|yy (Y0.capS F' z) z<|yy (be' z z) z<|nx ?_
 have V:i64.wrap ((f.length:Int)+(C.length:Int))=((f.length+1:Nat):Int):=by rw[IntKind.wrap_i64]; omega
 rw[V]
 refine dF' (p:=(c:Int)<((f.length+1:Nat):Int)) z (fun aB=>?_) (fun aB=>?_)
 .refine sr<|mv z z<|mv z z<|yy (Y0.slc (l:=0) (h:=j) (m:=c) (b:=b) (o:=0) F' sz9 z z ⟨_,z⟩ z (by omega) (by omega) (by omega)) z<|mv z z<|mv z z<|yy (W' z z) z<|mv z z<|yy (bk' z z) z ?_
  rw[V]
  have au:i64.wrap (((f.length+1:Nat):Int)-(j:Int))=((f.length+1-j:Nat):Int):=by rw[IntKind.wrap_i64]; omega
  rw[au]
  simp only[Nat.zero_mul,Nat.add_zero,ite_self,Nat.sub_zero]
  refine WL.appendZ (sz:=1) (bytes:=16) (n:=j) (cap:=c) (m:=f.length+1-j) (b:=b) 5000 7001 z z F' aA' el9 z (by decide) (by decide) z z z (by omega) (by omega) (by simp only[small]; omega) (by simp only[List.length_append]; omega) (fun T M Z h1 Y h3=>?_)
  have et:List.take (j*1) (x++g++s)=x:=by rw[List.append_assoc,<- E,List.take_left]
  have e0:j+(f.length+1-j)=f.length+1:=by omega
  rw[e0] at h1
  rw[et,e0]
  refine sg z z<|nr<|mv z z<|mv z z<|yy (de' (l:=j) (n:=f.length+1) (cap:=M) (b:=T) F' sz9 z z (by omega) (by omega) (by omega)) z<|mv z z<|dG' (sz:=1) (dn:=f.length+1-j) (sn:=C.length) (ds:=ds) (b:=T) (o:=j*1) 7001 z z F' sz9 z z z (by rw[F]; simp only[Nat.min_def]; split <;> omega) (fun w A k u H=>A.imm _ _ _ (B k u H)) (by simp only[List.length_append]; omega) D.one ?_
  have e2:spl (x++Z) (j*1) ds=x++ds++Z.drop 1:=by
   rw[<- E]; simp only[spl,List.take_left,<- List.drop_drop,List.drop_left,F]
  rw[e2]
  refine nx<|n'<|ah' [ff,ff,ff,ff,ff,ff,ff,ff] mix (by kernel_rfl) fun hb=>cn (fun _ t=>e' z)<|cn (fun _ t=>e' z)<|cn (fun _ t=>e' z)<|cn (fun _ t=>W' z z) ?_
  have O:i64.wrap ((j:Int)+(C.length:Int))=((j+1:Nat):Int):=by rw[IntKind.wrap_i64]; omega
  rw[O]
  refine cn (fun _ t=>de' (l:=j+1) (n:=f.length+1) (cap:=M) (b:=T) F' sz9 z z (by omega) (by omega) (by omega))<|cn (fun _ t=>e' z)<|cn (fun _ t=>e' z)<|cn (fun _ t=>de' (l:=j) (n:=f.length) (cap:=c) (b:=b) F' sz9 z z (by omega) (by omega) (by omega))<|T' hb ?_
  .refine dG' (sz:=1) (dn:=f.length+1-(j+1)) (sn:=f.length-j) (ds:=g) (b:=T) (o:=(j+1)*1) 7001 z z F' sz9 z z z (by rw[R]; congr 1; simp only[Nat.min_def]; split <;> omega) (fun w A k u H=>by
    rw[A.cellOwn (key:=5000) (b:=b) (c:=x++g++s) (e:=9) z,List.append_assoc,List.getElem?_append_right (by omega),<- E,Nat.add_sub_cancel_left,List.getElem?_append_left (List.getElem?_eq_some_iff.1 H).1]
    exact H) (by simp only[List.length_append,List.length_drop]; omega) Q.one ?_
   have e3:spl (x++ds++Z.drop 1) ((j+1)*1) g=x++ds++g++(Z.drop 1).drop g.length:=by
    have:(j+1)*1=(x++ds).length:=by simp only[List.length_append]; omega
    rw[this]; simp only[spl,List.take_left,<- List.drop_drop,List.drop_left]
   rw[e3]
   refine v'<|ar'<|g'<|sr<|mv z z<|sx0 z z<|j'<|a'<|aE' (S':=St w0 K K [(5000,bk0 T (x++ds++g++(Z.drop 1).drop g.length) 9)]) (fun w A=>?_) (k' z z ⟨_,_,_,z,by rw[P],J T M _ (by simp only[List.length_append,List.length_drop]; omega) Y h1⟩)
   have A:=A.rekey (i:=7001) (j:=5000) z (by rw[az]; rfl)
   exact A.weaken (lc z ln)
 refine q'<|g'<|sr<|mv z z<|mv z z<|mv z z<|yy (W' z z) z ?_
 rw[V]
 refine yy (Y0.slc (l:=0) (h:=f.length+1) (m:=c) (b:=b) (o:=0) F' sz9 z z ⟨_,z⟩ z (by omega) (by omega) (by omega)) z ?_
 simp only[Nat.zero_mul,Nat.add_zero,ite_self,Nat.sub_zero]
 refine sx0 z z<|n'<|sr<|mv z z<|mv z z<|mv z z<|mv z z<|yy (W' z z) z ?_
 have O:i64.wrap ((j:Int)+(C.length:Int))=((j+1:Nat):Int):=by rw[IntKind.wrap_i64]; omega
 rw[O]
 refine yy (de' (l:=j+1) (n:=f.length+1) (cap:=c) (b:=b) F' sz9 z z (by omega) (by omega) (by omega)) z ?_
 obtain⟨u0,aC⟩:∃ u,ds[0]? = some u:=⟨ds[0],by simp⟩
 refine yy (Y0.ext z (fun w A=>ZeO (tR:=4) (key:=5000) F' sz9 func170 z z (by kernel_rfl) (by kernel_rfl) A z (by simp only[List.size_toArray,List.length_append]; omega) (B 0 u0 aC))) z<|yy (al' z) z<|nx<|U' z<|n'<|ah' [ff,ff,ff,ff,ff,ff,ff,ff] mix (by kernel_rfl) fun hb=>cn (fun _ t=>e' z)<|cn (fun _ t=>e' z)<|cn (fun _ t=>e' z)<|cn (fun _ t=>W' z z) ?_
 rw[O]
 refine cn (fun _ t=>de' (l:=j+1) (n:=f.length+1) (cap:=c) (b:=b) F' sz9 z z (by omega) (by omega) (by omega))<|cn (fun _ t=>e' z)<|cn (fun _ t=>e' z)<|cn (fun _ t=>de' (l:=j) (n:=f.length+1) (cap:=c) (b:=b) F' sz9 z z (by omega) (by omega) (by omega))<|T' hb<|dG' (sz:=1) (dn:=f.length+1-(j+1)) (sn:=f.length+1-j) (ds:=g) (b:=b) (o:=(j+1)*1) 5000 z z F' sz9 z z z (by rw[R]; congr 1; simp only[Nat.min_def]; split <;> omega) (fun w A k u H=>by
  rw[A.cellOwn (key:=5000) (b:=b) (c:=x++g++s) (e:=9) z,List.append_assoc,List.getElem?_append_right (by omega),<- E,Nat.add_sub_cancel_left,List.getElem?_append_left (List.getElem?_eq_some_iff.1 H).1]
  exact H) (by simp only[List.length_append]; omega) Q.one ?_
 refine v'<|ar'<|g'<|sr<|mv z z<|mv z z<|yy (de' (l:=j) (n:=f.length+1) (cap:=c) (b:=b) F' sz9 z z (by omega) (by omega) (by omega)) z<|mv z z ?_
 have ax:(spl (x++g++s) ((j+1)*1) g).length=c*1:=by rw[Zc0 (by simp only[List.length_append]; omega)]; simp only[List.length_append]; omega
 refine dG' (sz:=1) (dn:=f.length+1-j) (sn:=C.length) (ds:=ds) (b:=b) (o:=j*1) 5000 z z F' sz9 z z z (by rw[F]; simp only[Nat.min_def]; split <;> omega) (fun w A k u H=>A.imm _ _ _ (B k u H)) (by rw[ax]; omega) D.one ?_
 have e4:spl (spl (x++g++s) ((j+1)*1) g) (j*1) ds=x++ds++g++(x++g++s).drop ((j+1)*1+g.length):=by
  have e5:spl (x++g++s) ((j+1)*1) g=x++((g++s).take 1++(g++(x++g++s).drop ((j+1)*1+g.length))):=by
   simp only[spl]
   rw[show (j+1)*1=x.length+1 by omega,List.append_assoc x g s,List.take_length_add_append]
   simp only[List.append_assoc]
  rw[e5,<- E]
  have e6:((g++s).take 1).length=1:=by rw[List.length_take,List.length_append]; omega
  simp only[spl,List.take_left,<- List.drop_drop,List.drop_left,F]
  rw[List.drop_left' e6]
  simp only[List.append_assoc]
 rw[e4]
 refine nr<|mv z z<|sx0 z z<|j'<|a'<|aE' (S':=St w0 K K [(5000,bk0 b (x++ds++g++(x++g++s).drop ((j+1)*1+g.length)) 9)]) (fun w A=>?_) (k' z z ⟨_,_,_,z,by rw[P],J b c _ (by simp only[List.length_append,List.length_drop]; omega) aD (by omega)⟩)
 exact A.weaken (lc z ln)
theorem en'{d i P p c m H r}(hr:(Zbh d i P).Ret r):CtrL prog 134 #[.slice p m c,i' i,i' P] [(5000,H)] (fun G=>RowR Rp.str 9 G (.slice p m c) d H) (fun G L v=>∃ zp zc T,L=[(5000,T)]/\v = .slice zp r.length zc/\RowR Rp.str 9 G (.slice zp r.length zc) r T):=by
 obtain⟨⟨az,ay,af,aA⟩,hr⟩:=hr
 obtain rfl:_=r:=hr
 obtain⟨j,rfl⟩:∃ j:Nat,i=j:=⟨i.toNat,by omega⟩
 obtain⟨k,rfl⟩:∃ k:Nat,P=k:=⟨P.toNat,by omega⟩
 refine bh' (args:=[_,_,_]) (N:=33) func134 z z z (fun w0 Q aB t=>?_)
 obtain⟨p',c',hf⟩:=t.form
 cases hf
 simp only[Int.toNat_natCast]
 have X:d.length<=c:=by
  cases H with
  | none=>have:=t.1; subst this; simp
  | some y=>obtain⟨c1,cs,g,Z,Y,I,K,D,R,x⟩:=t; cases Z; exact x
 refine sr<|sg z z<|nr<|mv z z<|mv z z<|mv z z<|mv z z<|yy (ed' F' z) z<|yy (Y0.slcA F' sz9 z z z z (by omega) (by omega) X) z<|nx<|n'<|sr<|mv z z<|mv z z<|yy (at' z z) z<|nx<|dF' (p:=(j:Int)=(k:Int)) z (fun hc=>?_) (fun hc=>?_)
 .have hj:j=k:=by omega
  subst hj
  rw[List.take_append_drop]
  refine sr<|mv z z<|sx0 z z<|j'<|a'<|aE' (S':=St w0 Q Q [(5000,H)]) (fun w J=>J.weaken (lc z ln)) (k' z z ⟨_,_,_,z,z,t⟩)
 cases H with
 | none=>have:=t.1; subst this; simp at af hc; omega
 | some y=>
 obtain⟨c1,cs,g,Z,Y,I,K,D,R,x⟩:=t
 cases Z
 obtain⟨b,ob,mk⟩:=y
 dsimp only at Y I
 subst Y I
 have B:(Rp.str).size=1:=z
 obtain⟨s,cb,V,S,ae⟩:=RepL.split (l:=d.take j) (m:=d.drop j) (by rw[List.take_append_drop]; exact K)
 subst V
 obtain⟨A,f,aa,am,F⟩:=RepL.split (l:=(d.drop j).take (k-j)) (m:=d.drop k) (by
  have:d.drop k=(d.drop j).drop (k-j):=by rw[List.drop_drop]; congr 1; omega
  rw[this,List.take_append_drop]; exact ae)
 subst aa
 have E:=S.len
 have U:=am.len
 have C:=F.len
 rw[List.length_take,Nat.min_eq_left (by omega),B] at E
 rw[List.length_take,List.length_drop,Nat.min_eq_left (by omega),B] at U
 rw[List.length_drop,B] at C
 rw[B] at D
 simp only[List.length_append] at D
 refine q'<|g'<|sr<|mv z z<|yy (ed' F' z) z<|sx0 z z<|n' ?_
 have e0:(s++(A++f)++g)=s++A++(f++g):=by simp only[List.append_assoc]
 rw[e0]
 have ac:(s++A).length=k*1:=by rw[List.length_append,E,U,<- Nat.add_mul]; congr 1; omega
 refine ah' [ff,ff,ff,ff,ff,ff] mix (by kernel_rfl) fun hb=>cn (fun _ x=>e' z)<|cn (fun _ x=>e' z)<|cn (fun _ x=>Y0.slc (l:=0) (h:=j) (m:=c) (b:=b) (o:=0) F' sz9 z z ⟨_,z⟩ z (by omega) (by omega) (by omega))<|cn (fun _ x=>e' z)<|cn (fun _ x=>e' z)<|cn (fun _ x=>Y0.slc (l:=k) (h:=d.length) (m:=c) (b:=b) (o:=0) F' sz9 z z ⟨z,z⟩ ⟨_,z⟩ (by omega) (by omega) (by omega)) ?_
 simp only[Nat.zero_mul,Nat.add_zero,ite_self,Nat.sub_zero]
 refine T' hb<|WL.appendOwn (sz:=1) (ds:=f) (b:=b) (n:=j) (cap:=c) (m:=d.length-k) 5000 z z F' sz9 z z z (by rw[C]) (fun w J q u hu=>by
  have O:=(List.getElem?_eq_some_iff.1 hu).1
  have al:¬ c=k:=fun e=>by subst e; rw[C] at O; rw[show d.length-c=0 by omega] at O; omega
  rw[if_neg al,Nat.zero_add,J.cellOwn (key:=5000) (b:=b) (c:=s++A++(f++g)) (e:=9) z,List.getElem?_append_right (by omega),<- ac,Nat.add_sub_cancel_left,List.getElem?_append_left O]
  exact hu) (by omega) (by simp only[List.length_append]; omega) F.one ?_
 refine sg z z<|v'<|ar'<|g'<|sr<|mv z z<|mv z z<|yy (ed' F' z) z<|mv z z<|yy (Y0.slc (l:=j+(d.length-k)) (h:=d.length) (m:=c) (b:=b) (o:=0) F' sz9 z z ⟨_,z⟩ ⟨_,z⟩ (by omega) (by omega) (by omega)) z ?_
 rw[if_neg (show ¬ c=j+(d.length-k) by omega),Nat.zero_add ((j+(d.length-k))*1)]
 have M:(spl (s++A++(f++g)) (j*1) f).length=c*1:=by rw[Zc0 (by simp only[List.length_append]; omega)]; simp only[List.length_append]; omega
 refine WL.clearOwn (n:=d.length-(j+(d.length-k))) (b:=b) (o:=(j+(d.length-k))*1) 5000 z trivial F' z9 (List.all_eq_true.1 z) z z (by rw[M]; show _+_*1<=_; omega) (fun ds ab=>?_)
 have aC:ds.length=(d.length-(j+(d.length-k)))*1:=ab
 have ad:(spl (spl (s++A++(f++g)) (j*1) f) ((j+(d.length-k))*1) ds).length=c*1:=by rw[Zc0 (by rw[M]; omega),M]
 have e4:spl (spl (s++A++(f++g)) (j*1) f) ((j+(d.length-k))*1) ds=s++f++(spl (spl (s++A++(f++g)) (j*1) f) ((j+(d.length-k))*1) ds).drop (s++f).length:=by
  have e5:∃ q,spl (s++A++(f++g)) (j*1) f=(s++f)++q:=⟨_,by rw[<- E]; simp only[spl]; rw[List.append_assoc s A,List.take_left]⟩
  obtain⟨q,hq⟩:=e5
  have W:(j+(d.length-k))*1=(s++f).length:=by rw[List.length_append,E,C,<- Nat.add_mul]
  rw[hq,W]
  simp only[spl]
  rw[List.take_left,List.append_assoc (s++f) ds,List.drop_left]
 rw[e4]
 refine nr<|mv z z<|sx0 z z<|j'<|aE' (S':=St w0 Q Q [(5000,bk0 b (s++f++(spl (spl (s++A++(f++g)) (j*1) f) ((j+(d.length-k))*1) ds).drop (s++f).length) 9)]) (fun w J=>J.weaken (lc z ln)) (k' z z ⟨_,_,_,z,?_,⟨c,s++f,_,z,z,z,S.append F,?_,R,?_⟩⟩)
 .rw[show (d.take j++d.drop k).length=j+(d.length-k) by simp only[List.length_append,List.length_take,List.length_drop]; omega]
 .rw[<- e4,ad,B]
 simp only[List.length_append,List.length_take,List.length_drop]; omega
theorem ds'{k r}(hr:(Zae k).Ret r):CtrL prog 172 #[.slice none 0 0,i' k] [] (fun _=>True) (fun G L v=>∃ s t f,L=[(7000,f)]/\v = .slice s r.length t/\RowR b' 110 G (.slice s r.length t) r f):=by
 obtain⟨⟨C,D⟩,hr⟩:=hr
 replace hr:[]=r:=hr
 subst hr
 obtain⟨m,rfl⟩:∃ m:Nat,k=m:=⟨k.toNat,by omega⟩
 refine bh' (args:=[_,_]) (N:=27) func172 z z z fun n e u _=>sr<|sx0 z z<|n'<|sr<|mv z z<|yy (aj' z z) z<|nx<|bd' (by rw[show decide ((m:Int)<0)=false from decide_eq_false (by omega)]; rfl)<|q'<|g'<|n'<|sr<|mv z z<|mv z z<|yy (Y0.capS y' z) z<|mv z z<|yy (ed' y' z) z<|yy (bk' z z) z<|yy (bk' z z) z ?_
 have y:i64.wrap ((m:Int)-i64.wrap (((0:Nat):Int)-((0:Nat):Int)))=m:=by simp only[IntKind.wrap_i64]; omega
 rw[y]
 refine sx0 z z<|sr<|mv z z<|yy (be' z z) z<|nx<|dF' (p:=(0:Int)<(m:Int)) z (fun A=>?_) (fun A=>?_)
 .refine A'<|mv z z<|mv z z<|yy (Y0.capS y' z) z<|yy (Y0.nilH y' aT' z z) z<|mv z z<|WL.appendZ0 (sz:=2) (bytes:=32) (m:=m) 7001 z z y' aA' el110 z (by decide) (by decide) z z (by omega) (by simp only[small]; omega) fun q c g x B=>mv z z<|yy (ed' y' z) z<|yy (Y0.slc (l:=0) (h:=0) (m:=c) (b:=q) (o:=0) y' aT' z z ⟨_,z⟩ z (Nat.le_refl _) (Nat.zero_le _) (Nat.le_refl _)) z ?_
  simp only[Nat.zero_mul,Nat.add_zero,ite_self,Nat.sub_zero]
  refine sg z z<|v'<|g'<|sr<|mv z z<|sx0 z z<|j'<|aE' (S':=St n e e [(7000,bk0 q g 110)]) (fun w d=>?_) (k' z z ⟨_,_,_,z,z,⟨c,[],g,z,z,z,z,B,x,Nat.zero_le _⟩⟩)
  have d:=d.rekey (i:=7001) (j:=7000) z (by rw[u]; rfl)
  exact d.weaken (lc z ln)
 refine q'<|g'<|sr<|mv z z<|sx0 z z<|j'<|aE' (S':=St n e e [(7000,none)]) (fun w d=>d.weaken (lw ln)) (k' z z ⟨_,_,_,z,z,RowR.nil⟩)
theorem dC'{f i C p c m tk q d r}(hr:(ZU f i C).Ret r):CtrL prog 180 #[.slice p m c,i' i,.slice q C.length d] [(5000,tk)] (fun G=>RowR b' 110 G (.slice p m c) f tk/\sl b' G q d C) (fun G L v=>∃ zp zc ah,L=[(5000,ah)]/\v = .slice zp r.length zc/\RowR b' 110 G (.slice zp r.length zc) r ah):=by
 obtain⟨⟨⟨a1,aH⟩,aG,aZ⟩,hr⟩:=hr
 obtain rfl:_=r:=hr
 obtain⟨j,rfl⟩:∃ j:Nat,i=j:=⟨i.toNat,by omega⟩
 refine bh' (args:=[_,_,_]) (N:=95) func180 z z z (fun w0 K az ap=>?_)
 obtain⟨I,ai⟩:=ap
 obtain⟨p',c1,hf⟩:=I.form
 cases hf
 simp only[Int.toNat_natCast]
 refine sr<|sg z z<|nr<|mv z z<|mv z z<|yy (Y0.slcG y' aT' z z (by omega)) z<|nr<|mv z z<|yy (ed' y' z) z<|sx0 z z<|n'<|sr<|mv z z<|yy (at' z z) z<|nx<|bd' (by rw[show decide ((C.length:Int)=0)=false from decide_eq_false (by omega)]; rfl)<|q'<|g'<|sr<|mv z z<|yy (ed' y' z) z<|sx0 z z<|n'<|sr<|mv z z<|mv z z<|yy (at' z z) z<|nx<|dF' (p:=(j:Int)=(f.length:Int)) z (fun hc=>?_) (fun hc=>?_)
 .have hj:j=f.length:=by omega
  subst hj
  have e1:f.take f.length++C++f.drop f.length=f++C:=by simp
  rw[e1]
  refine sr<|mv z z<|mv z z<|cr' (r:=b') (e:=110) 5000 z z y' el110 z (by decide) z z I z ai (by simp only[List.length_append,small]; omega) fun p2 c2 aF Y=>sx0 z z<|j'<|a'<|aE' (S':=St w0 K K [(5000,aF)]) (fun w A=>?_) (k' z z ⟨_,_,_,z,z,Y⟩)
  exact A.weaken (lc z ln)
 cases tk with
 | none=>have:=I.1; subst this; simp at aH hc; omega
 | some y=>
 obtain⟨aR,cs,s,hv,ho,ag,X,U,aD,t⟩:=I
 cases hv
 obtain⟨b,ob,mk⟩:=y
 dsimp only at ho ag
 subst ho ag
 have aT:=X.len
 have aY:j<f.length:=by omega
 have aq:=RepL.split (l:=f.take j) (m:=f.drop j) (by rw[List.take_append_drop]; exact X)
 obtain⟨x,g,al,ae,Q⟩:=aq
 subst al
 have E:=ae.len
 have R:=Q.len
 rw[List.length_take,Nat.min_eq_left (by omega)] at E
 rw[List.length_drop] at R
 obtain⟨qy,dy,ds,aE,a0,an,aa,D,B⟩:=ai
 cases aE
 have ac:=aa (by omega)
 obtain⟨⟨vb,vo,vs⟩,rfl⟩:=Option.isSome_iff_exists.1 ac
 have af:=an _ z (by omega)
 dsimp only at af
 subst af
 have B:∀ k u,ds[k]? = some u->K vb (vo+k)=some u:=B
 have F:=D.len
 rw[aG,Nat.one_mul] at F
 have W:(b').size=2:=z
 rw[W] at E R F U
 simp only[List.length_append] at U
 have J:∀ (bb S:Nat) (rs:List Value),(x++ds++g++rs).length=S*2->S<=maxLen->f.length+1<=S->RowR b' 110 K (.slice (some ⟨bb,0,none⟩) (f.take j++C++f.drop j).length S) (f.take j++C++f.drop j) (bk0 bb (x++ds++g++rs) 110):=fun bb S rs h1 Y h3=>
  ⟨S,x++ds++g,rs,z,z,z,(ae.append D).append Q,by rw[W]; exact h1,Y,by simp only[List.length_append,List.length_take,List.length_drop]; omega⟩
 have P:(f.take j++C++f.drop j).length=f.length+1:=by simp only[List.length_append,List.length_take,List.length_drop]; omega
 refine q'<|g'<|n'<|sr<|mv z z<|mv z z<|yy (W' z z) z<|mv z z<|yy (Y0.capS y' z) z<|yy (be' z z) z<|nx ?_
 have V:i64.wrap ((f.length:Int)+(C.length:Int))=((f.length+1:Nat):Int):=by rw[IntKind.wrap_i64]; omega
 rw[V]
 refine dF' (p:=(c:Int)<((f.length+1:Nat):Int)) z (fun aB=>?_) (fun aB=>?_)
 .refine sr<|mv z z<|mv z z<|yy (Y0.slc (l:=0) (h:=j) (m:=c) (b:=b) (o:=0) y' aT' z z ⟨_,z⟩ z (by omega) (by omega) (by omega)) z<|mv z z<|mv z z<|yy (W' z z) z<|mv z z<|yy (bk' z z) z ?_
  rw[V]
  have au:i64.wrap (((f.length+1:Nat):Int)-(j:Int))=((f.length+1-j:Nat):Int):=by rw[IntKind.wrap_i64]; omega
  rw[au]
  simp only[Nat.zero_mul,Nat.add_zero,ite_self,Nat.sub_zero]
  refine WL.appendZ (sz:=2) (bytes:=32) (n:=j) (cap:=c) (m:=f.length+1-j) (b:=b) 5000 7001 z z y' aA' el110 z (by decide) (by decide) z z z (by omega) (by omega) (by simp only[small]; omega) (by simp only[List.length_append]; omega) (fun T M Z h1 Y h3=>?_)
  have et:List.take (j*2) (x++g++s)=x:=by rw[List.append_assoc,<- E,List.take_left]
  have e0:j+(f.length+1-j)=f.length+1:=by omega
  rw[e0] at h1
  rw[et,e0]
  refine sg z z<|nr<|mv z z<|mv z z<|yy (de' (l:=j) (n:=f.length+1) (cap:=M) (b:=T) y' aT' z z (by omega) (by omega) (by omega)) z<|mv z z<|dG' (sz:=2) (dn:=f.length+1-j) (sn:=C.length) (ds:=ds) (b:=T) (o:=j*2) 7001 z z y' aT' z z z (by rw[F]; simp only[Nat.min_def]; split <;> omega) (fun w A k u H=>A.imm _ _ _ (B k u H)) (by simp only[List.length_append]; omega) D.one ?_
  have e2:spl (x++Z) (j*2) ds=x++ds++Z.drop 2:=by
   rw[<- E]; simp only[spl,List.take_left,<- List.drop_drop,List.drop_left,F]
  rw[e2]
  refine nx<|n'<|ah' [ff,ff,ff,ff,ff,ff,ff,ff] mix (by kernel_rfl) fun hb=>cn (fun _ t=>e' z)<|cn (fun _ t=>e' z)<|cn (fun _ t=>e' z)<|cn (fun _ t=>W' z z) ?_
  have O:i64.wrap ((j:Int)+(C.length:Int))=((j+1:Nat):Int):=by rw[IntKind.wrap_i64]; omega
  rw[O]
  refine cn (fun _ t=>de' (l:=j+1) (n:=f.length+1) (cap:=M) (b:=T) y' aT' z z (by omega) (by omega) (by omega))<|cn (fun _ t=>e' z)<|cn (fun _ t=>e' z)<|cn (fun _ t=>de' (l:=j) (n:=f.length) (cap:=c) (b:=b) y' aT' z z (by omega) (by omega) (by omega))<|T' hb ?_
  .refine dG' (sz:=2) (dn:=f.length+1-(j+1)) (sn:=f.length-j) (ds:=g) (b:=T) (o:=(j+1)*2) 7001 z z y' aT' z z z (by rw[R]; congr 1; simp only[Nat.min_def]; split <;> omega) (fun w A k u H=>by
    rw[A.cellOwn (key:=5000) (b:=b) (c:=x++g++s) (e:=110) z,List.append_assoc,List.getElem?_append_right (by omega),<- E,Nat.add_sub_cancel_left,List.getElem?_append_left (List.getElem?_eq_some_iff.1 H).1]
    exact H) (by simp only[List.length_append,List.length_drop]; omega) Q.one ?_
   have e3:spl (x++ds++Z.drop 2) ((j+1)*2) g=x++ds++g++(Z.drop 2).drop g.length:=by
    have:(j+1)*2=(x++ds).length:=by simp only[List.length_append]; omega
    rw[this]; simp only[spl,List.take_left,<- List.drop_drop,List.drop_left]
   rw[e3]
   refine v'<|ar'<|g'<|sr<|mv z z<|sx0 z z<|j'<|a'<|aE' (S':=St w0 K K [(5000,bk0 T (x++ds++g++(Z.drop 2).drop g.length) 110)]) (fun w A=>?_) (k' z z ⟨_,_,_,z,by rw[P],J T M _ (by simp only[List.length_append,List.length_drop]; omega) Y h1⟩)
   have A:=A.rekey (i:=7001) (j:=5000) z (by rw[az]; rfl)
   exact A.weaken (lc z ln)
 refine q'<|g'<|sr<|mv z z<|mv z z<|mv z z<|yy (W' z z) z ?_
 rw[V]
 refine yy (Y0.slc (l:=0) (h:=f.length+1) (m:=c) (b:=b) (o:=0) y' aT' z z ⟨_,z⟩ z (by omega) (by omega) (by omega)) z ?_
 simp only[Nat.zero_mul,Nat.add_zero,ite_self,Nat.sub_zero]
 refine sx0 z z<|n'<|sr<|mv z z<|mv z z<|mv z z<|mv z z<|yy (W' z z) z ?_
 have O:i64.wrap ((j:Int)+(C.length:Int))=((j+1:Nat):Int):=by rw[IntKind.wrap_i64]; omega
 rw[O]
 refine yy (de' (l:=j+1) (n:=f.length+1) (cap:=c) (b:=b) y' aT' z z (by omega) (by omega) (by omega)) z ?_
 obtain⟨u0,aC⟩:∃ u,ds[0]? = some u:=⟨ds[0],by simp⟩
 refine yy (Y0.ext z (fun w A=>ZeO (tR:=4) (key:=5000) y' aT' func198 z z (by kernel_rfl) (by kernel_rfl) A z (by simp only[List.size_toArray,List.length_append]; omega) (B 0 u0 aC))) z<|yy (al' z) z<|nx<|U' z<|n'<|ah' [ff,ff,ff,ff,ff,ff,ff,ff] mix (by kernel_rfl) fun hb=>cn (fun _ t=>e' z)<|cn (fun _ t=>e' z)<|cn (fun _ t=>e' z)<|cn (fun _ t=>W' z z) ?_
 rw[O]
 refine cn (fun _ t=>de' (l:=j+1) (n:=f.length+1) (cap:=c) (b:=b) y' aT' z z (by omega) (by omega) (by omega))<|cn (fun _ t=>e' z)<|cn (fun _ t=>e' z)<|cn (fun _ t=>de' (l:=j) (n:=f.length+1) (cap:=c) (b:=b) y' aT' z z (by omega) (by omega) (by omega))<|T' hb<|dG' (sz:=2) (dn:=f.length+1-(j+1)) (sn:=f.length+1-j) (ds:=g) (b:=b) (o:=(j+1)*2) 5000 z z y' aT' z z z (by rw[R]; congr 1; simp only[Nat.min_def]; split <;> omega) (fun w A k u H=>by
  rw[A.cellOwn (key:=5000) (b:=b) (c:=x++g++s) (e:=110) z,List.append_assoc,List.getElem?_append_right (by omega),<- E,Nat.add_sub_cancel_left,List.getElem?_append_left (List.getElem?_eq_some_iff.1 H).1]
  exact H) (by simp only[List.length_append]; omega) Q.one ?_
 refine v'<|ar'<|g'<|sr<|mv z z<|mv z z<|yy (de' (l:=j) (n:=f.length+1) (cap:=c) (b:=b) y' aT' z z (by omega) (by omega) (by omega)) z<|mv z z ?_
 have ax:(spl (x++g++s) ((j+1)*2) g).length=c*2:=by rw[Zc0 (by simp only[List.length_append]; omega)]; simp only[List.length_append]; omega
 refine dG' (sz:=2) (dn:=f.length+1-j) (sn:=C.length) (ds:=ds) (b:=b) (o:=j*2) 5000 z z y' aT' z z z (by rw[F]; simp only[Nat.min_def]; split <;> omega) (fun w A k u H=>A.imm _ _ _ (B k u H)) (by rw[ax]; omega) D.one ?_
 have e4:spl (spl (x++g++s) ((j+1)*2) g) (j*2) ds=x++ds++g++(x++g++s).drop ((j+1)*2+g.length):=by
  have e5:spl (x++g++s) ((j+1)*2) g=x++((g++s).take 2++(g++(x++g++s).drop ((j+1)*2+g.length))):=by
   simp only[spl]
   rw[show (j+1)*2=x.length+2 by omega,List.append_assoc x g s,List.take_length_add_append]
   simp only[List.append_assoc]
  rw[e5,<- E]
  have e6:((g++s).take 2).length=2:=by rw[List.length_take,List.length_append]; omega
  simp only[spl,List.take_left,<- List.drop_drop,List.drop_left,F]
  rw[List.drop_left' e6]
  simp only[List.append_assoc]
 rw[e4]
 refine nr<|mv z z<|sx0 z z<|j'<|a'<|aE' (S':=St w0 K K [(5000,bk0 b (x++ds++g++(x++g++s).drop ((j+1)*2+g.length)) 110)]) (fun w A=>?_) (k' z z ⟨_,_,_,z,by rw[P],J b c _ (by simp only[List.length_append,List.length_drop]; omega) aD (by omega)⟩)
 exact A.weaken (lc z ln)
theorem gH':CtrL prog 67 #[] [] (fun _=>True) (fun _ L v=>∃ c,L=[(7000,c)]/\MapR ky3 RvF v Zu c):=by
 refine bh' (args:=[]) (N:=3) func67 z z z fun g e f _=>sr<|WL.y0' z (Y0.assign z) z<|nx<|sr<|WL.makeMap (ky:=ky3) (Rv:=RvF) 4000 z z fun b c h=>dO' (z:=85) (k:=1) 4000 z cb' h z z z z (show (Lit.int i64 1).wf=true by decide) z (by decide) fun c h=>dO' (z:=86) (k:=2) 4000 z cb' h z z z z (show (Lit.int i64 2).wf=true by decide) z (by decide) fun c h=>dO' (z:=87) (k:=3) 4000 z cb' h z z z z (show (Lit.int i64 3).wf=true by decide) z (by decide) fun c h=>dO' (z:=88) (k:=4) 4000 z cb' h z z z z (show (Lit.int i64 4).wf=true by decide) z (by decide) fun c h=>dO' (z:=89) (k:=5) 4000 z cb' h z z z z (show (Lit.int i64 5).wf=true by decide) z (by decide) fun c h=>dO' (z:=90) (k:=6) 4000 z cb' h z z z z (show (Lit.int i64 6).wf=true by decide) z (by decide) fun c h=>dO' (z:=91) (k:=7) 4000 z cb' h z z z z (show (Lit.int i64 7).wf=true by decide) z (by decide) fun c h=>dO' (z:=92) (k:=8) 4000 z cb' h z z z z (show (Lit.int i64 8).wf=true by decide) z (by decide) fun c h=>mv z z<|sx0 z z<|j'<|aE' (S':=St g e e [(7000,c)]) (fun w d=>?_) (k' z z ⟨_,z,h⟩)
 have d:=d.rekey (i:=4000) (j:=7000) z (by rw[f]; rfl)
 exact d.weaken (lc z ln)
theorem eU'{j i r}(hr:(ZbL j i).Ret r):Ctr prog 109 #[.agg (vecG (Value.int .i64) 8 j).toArray,.agg (vecG (Value.int .i64) 8 i).toArray] (fun G=>True) (fun G v=>v=i' r):=by
 refine H' (args:=[_,_]) (N:=25) func109 z z z fun x k J D=>sr<|ag' 2 z z z fun n=>ag' 3 z z z fun m=>sx0 z z<|n'<|sr<|yy (o' 2 bW' z z (ae' _ _ _)) z<|yy (o' 3 bW' z z (ae' _ _ _)) z<|yy (Y0.eqlV aO' aA' sc3 sz3 eg120 z z) z<|nx<|L' hr z (fun A hr=>?_) (fun A hr=>?_)
 .refine sr<|sx0 z z<|j'<|a' (k0' hr z z)
 refine q'<|g'<|sr<|sx0 z z<|n'<|am' (fun (⟨g,f⟩:Int×Mem)=>[(2,pt0 n),(3,pt0 m),(5,i' g)]) (fun ⟨g,f⟩=>Mem.le k f/\(ZcW j i g).Ret r) (fun ⟨g,f⟩=>St x k f [(2,bk0 n (vecG (Value.int .i64) 8 j) 120),(3,bk0 m (vecG (Value.int .i64) 8 i) 120)]) ?_ ?_
 .refine C' ?_
  let l:Int->Prop:=fun F=>((fun C=>match C with|g=>ZcW j i g:Int->Cq Int) F).wp (fun a=>a=r)
  replace hr:(Cq.loop _ _).wp l:=hr
  refine an' (Φ:=l) (fun (⟨e,d⟩:Int×Mem)=>(e:Int)) (fun ⟨e,d⟩=>[(2,pt0 n),(3,pt0 m),(5,i' e)]) (fun ⟨e,d⟩=>Mem.le k d) (fun ⟨e,d⟩=>St x k d [(2,bk0 n (vecG (Value.int .i64) 8 j) 120),(3,bk0 m (vecG (Value.int .i64) 8 i) 120)]) ⟨0,k⟩ hr (f3 z z z) mr (w2 z z) ?_
  .intro I E H hr
   obtain⟨e,d⟩:=E
   have h:=H
   refine n'<|n'<|ah' [ff,ff,ff,ff,ff,ff] mix (by kernel_rfl) fun t=>cn (fun _ c=>e' z) ?_
   obtain⟨s,hr⟩:=hr
   refine cn (fun _ c=>bj' aO' sz3 z z s)<|cn (fun _ c=>f' 2 sc3 z z (bi' _ _ _ s))<|cn (fun _ c=>e' z) ?_
   obtain⟨q,hr⟩:=hr
   refine cn (fun _ c=>bj' aO' sz3 z z q)<|cn (fun _ c=>f' 3 sc3 z z (bi' _ _ _ q))<|T' t<|yy (at' z z) z<|v'<|ar'<|g'<|L' hr z (fun y hr=>?_) (fun y hr=>?_)
   .refine q'<|g'<|C'<|A'<|mv z z<|yy (W' z z) z<|sg z z<|v'<|I'<|Y' ⟨i64.wrap (e+1),d⟩ hr h (f3 z z z) (w2 z z)
   refine ap'<|r'<|r'<|O'<|aq' ⟨e,d⟩ ⟨h,hr⟩ (f3 z z z) (w2 z z)
 rintro⟨g,f⟩ ⟨B,hr⟩
 refine g'<|n'<|n'<|ah' [ff,ff,ff,ff,ff,ff] mix (by kernel_rfl) fun t=>cn (fun _ c=>e' z) ?_
 obtain⟨o,hr⟩:=hr
 refine cn (fun _ c=>bj' aO' sz3 z z o)<|cn (fun _ c=>f' 2 sc3 z z (bi' _ _ _ o))<|cn (fun _ c=>e' z) ?_
 obtain⟨p,hr⟩:=hr
 refine cn (fun _ c=>bj' aO' sz3 z z p)<|cn (fun _ c=>f' 3 sc3 z z (bi' _ _ _ p))<|T' t<|yy (aj' z z) z<|v'<|ar'<|g'<|L' hr z (fun u hr=>?_) (fun u hr=>?_)
 .refine sr<|sx0 z z<|j'<|a' (k0' hr z z)
 refine q'<|g'<|sr<|sx0 z z<|j' (k0' hr z z)
theorem eS'{l k j h g f i d c e r}(hr:(ZcZ l k).Ret r):Ctr prog 211 #[.agg (((v130' l.c j h g f):List Value)++(vecG (Value.int .i64) 8 l.m)).toArray,.agg (((v130' k.c i d c e):List Value)++(vecG (Value.int .i64) 8 k.m)).toArray] (fun G=>sl (Rp.int .u32) G j h l.c.num.mag/\sl (Rp.int .u32) G g f l.c.den.mag/\sl (Rp.int .u32) G i d k.c.num.mag/\sl (Rp.int .u32) G c e k.c.den.mag) (fun G v=>v=i' r):=by
 refine H' (args:=[_,_]) (N:=10) func211 z z z (fun A y u q=>?_)
 obtain⟨m,n,p,o⟩:=q
 refine sr<|ag' 2 z z z fun B=>ag' 3 z z z fun x=>sg z z<|nr<|yy (bD' z) z<|yy (aJ' (vecG (Value.int .i64) 8 k.m).toArray 3 bW' z z (ae' _ _ _) (aU' ((v130' k.c i d c e)) (vecG (Value.int .i64) 8 k.m) ([]))) z<|yy (bD' z) z<|yy (aJ' (vecG (Value.int .i64) 8 l.m).toArray 2 bW' z z (ae' _ _ _) (aU' ((v130' l.c j h g f)) (vecG (Value.int .i64) 8 l.m) ([]))) z ?_
 obtain⟨t,s,hr⟩:=hr
 refine E' z z (t' E109 z) (eU' s) z (trivial)<|sx0 z z<|j' (k0' hr z z)
theorem hF':Go.Sort.SWO (Go.Proofs.ltOf (fun a b:Ze=>cmpM b.m a.m)):=⟨fun x=>swoR.irrefl x.m,fun x y z=>swoR.trans x.m y.m z.m,fun x y z=>swoR.ntrans x.m y.m z.m⟩
theorem cV'{l a b i p c n C r}(hr:(ZX l a b i).Ret r):CtrL prog 219 #[.slice p n c,i' a,i' b,i' i,.func (.func 211) #[] #[]] [(5000,C)] (fun G=>RowR K' 133 G (.slice p n c) l C) (fun G L v=>∃ s,L=[(5000,s)]/\v = .tuple #[]/\RowR K' 133 G (.slice p n c) r s):=by
 obtain⟨⟨rfl,rfl,⟨R,U⟩,Q⟩,hr⟩:=hr
 obtain⟨k,rfl⟩:∃ k:Nat,i=k:=⟨i.toNat,by omega⟩
 refine (pdqR (r:=K') (sz:=12) z (by decide) hF' Tryz.sortL z (fun _=>by kernel_rfl) (fun _=>by kernel_rfl) (fun x y T S w G O K=>?_) E211 133 p n c l C k (by omega) (by omega)).mono (fun _ h=>h) (fun G L v ⟨E,D,H,P,I,N,J⟩=>?_)
 .obtain⟨M,F⟩:=K
  obtain⟨u,B,o,j,rfl,g,d⟩:=Zia M
  obtain⟨A,m,t,q,rfl,f,e⟩:=Zia F
  exact eS' (show (ZcZ x y).Ret (cmpM y.m x.m) from ⟨_,ZeL y.m x.m,z⟩) w G O ⟨g,d,f,e⟩
 have:E=r:=hr E ⟨N,J.imp (fun h=>by simpa [Go.Proofs.ltOf] using h)⟩
 subst this
 exact⟨D,H,P,I⟩
theorem fq'(c:Int)(f:Nat)(r:Bool)(hr:(ZaG c).Ret r):Ctr prog 122 #[pt0 f] (fun G=>At (Rp.int .i64) G f 0 c) (fun G v=>v = .bool r):=by
 refine H' (args:=[_]) (N:=4) func122 z z z (fun h i g e=>?_)
 have d:=e
 refine sr<|sg z z<|nr<|yy (aa' sc3 z (aI' d)) z<|yy (aj' z z) z<|sx0 z z<|j' (k0' hr z z)
theorem fr'(d:(Unit->Cq Bool))(e:Int)(k:Nat)(n:Nat)(r:Int)(hr:(Zo d e).Ret r):Ctr prog 167 #[pt0 k,pt0 n] (fun G=>At (Rp.fn prog fa0 foB) G k 0 d/\At (Rp.int .i64) G n 0 e) (fun G v=>v=i' r):=by
 refine H' (args:=[_,_]) (N:=6) func167 z z z (fun y x t i=>?_)
 obtain⟨f,g⟩:=i
 refine sr<|sx0 z z<|n'<|sr ?_
 obtain⟨u,m,l⟩:=AtK.fnv f
 refine yy (aa' sc27 z (m)) z ?_
 obtain⟨s,j,hr⟩:=hr
 refine WL.callFn (vs:=[]) (a:=()) z z l z z z j (fun p q h c=>?_)
 subst c
 refine nx<|aL' hr z (fun o hr=>?_) (fun o hr=>?_)
 .refine sr<|sx0 z z<|j'<|a' (k0' hr z z)
 refine q'<|g'<|sr<|yy (aa' sc36 z (aI' (J' g h))) z<|sx0 z z<|j' (k0' hr z z)
theorem bz'{f d c g r}(hr:(ZG f d).Ret r):Ctr prog 121 #[i' f,c] (fun G=>FnRd prog fa0 foB G c g d) (fun G v=>∃ o s,v=o/\FnRd prog fa0 foI G o s r):=by
 refine H' (args:=[_,_]) (N:=6) func121 z z z (fun E D k m=>?_)
 have e:=m
 refine sr<|ag' 124202 z z z fun q=>WL.boxF 124203 (FnR.one e) z z z fun y=>sx0 z z<|n'<|bI' 124203 z (by rw[k]; rfl) fun B i n u=>bI' 124202 z (by rw[k]; rfl) fun p h l t=>A'<|yy (bU' z z) z<|sx0 z z<|j' ?_
 obtain rfl:_=r:=hr
 exact k' z z ⟨_,_,z,(show FnRd prog fa0 foI p (.func (.func 167) #[] #[pt0 y,pt0 q]) () (fun _=>Zo d f) from (du' E167 (fun x A=>dv' (fr' _ _ _ _ x A) (fun C j=>⟨(J' (cm' (r:=(Rp.fn prog fa0 foB)) (cs:=[c]) n z ⟨_,z,(e.mono i)⟩) (mx h j)),(J' (cm' (r:=(Rp.int .i64)) (cs:=[i' f]) l z z) j)⟩))))⟩
theorem fs'(d:Zc)(e:Int)(h:Nat)(j:Nat)(r:Bool)(hr:(Zan d e).Ret r):Ctr prog 123 #[pt0 h,pt0 j] (fun G=>At Z' G h 0 d/\At (Rp.int .i64) G j 0 e) (fun G v=>v = .bool r):=by
 refine H' (args:=[_,_]) (N:=12) func123 z z z (fun l m k g=>?_)
 obtain⟨c,f⟩:=g
 refine sr<|sg z z<|nr<|yy (aK' z) z<|yy (aa' sc3 z (aI' (aW' (ax' (ax' (ay' c)))))) z<|ac' hr z (bL' z z) z (fun i hr=>?_) (fun i hr=>?_)
 .refine mv z z<|gy z z (aK' z) z<|gy z z (aa' sc3 z (aI' (aW' (ax' (ax' (ay' c)))))) z<|gy z z (aa' sc3 z (aI' f)) z<|gy z z (bL' z z) z<|yy (h' z z) z<|sx0 z z<|j' (k0' hr z z)
 refine mv z z<|sn4 z<|yy (l' z z) z<|sx0 z z<|j' (k0' hr z z)
theorem eK'{g e d r}(hr:(Zds g).Ret r):Ctr prog 157 #[.agg ((v128' g e d)).toArray] (fun G=>sl (Rp.int .u32) G e d g.mag) (fun G v=>v = .bool r):=by
 refine H' (args:=[_]) (N:=19) func157 z z z (fun m o k h=>?_)
 have c:=h
 refine sr<|ag' 1 z z z fun l=>sg z z<|nr<|yy (br' z) z<|ac' hr z (cK' (f' 1 sc4 z z z) (congrArg Value.bool (bdec _))) z (fun i hr=>?_) (fun i hr=>?_)
 .refine yy (al' z) z<|mv z z<|sn4 z<|yy (l' z z) z<|mv z z<|sn5 z<|yy (l' z z) z<|sx0 z z<|j' (k0' hr z z)
 refine yy (al' z) z<|mv z z<|gy z z (ba' z) z<|gy z z (f' 1 bN' z z z) z<|gy z z (M' D' c z) z<|ac' hr (w' z z) (at' z z) z (fun j hr=>?_) (fun j hr=>?_)
 .refine yy (h' z z) z<|mv z z<|gy z z (ba' z) z<|gy z z (f' 1 bN' z z z) z ?_
  obtain⟨n,f,hr⟩:=hr
  refine gy z z (V' D' bs' c z z f) z<|gy z z (aa' bY' z (aI' (af' c f))) z<|gy z z (at' z z) z<|yy (h' z z) z<|sx0 z z<|j' (k0' hr z z)
 refine yy (h' z z) z<|mv z z<|sn5 z<|yy (l' z z) z<|sx0 z z<|j' (k0' hr z z)
theorem dw'{g j k r}(hr:(ZbK g).Ret r):Ctr prog 187 #[.slice j g.length k] (fun G=>sl (Rp.int .u32) G j k g) (wl' (Rp.int .u32) r):=by
 refine H' (args:=[_]) (N:=21) func187 z z z (fun s l E p=>?_)
 have i:=p
 refine sr<|sg z z<|nr<|mv z z<|yy (M' D' i z) z<|sx0 z z<|n'<|am' (fun (⟨h,f⟩:Int×Mem)=>[(0,.slice j g.length k),(3,i' h)]) (fun ⟨h,f⟩=>Mem.le l f/\(ZcU g h).Ret r) (fun ⟨h,f⟩=>St s l f []) ?_ ?_
 .refine C' ?_
  let m:Int->Prop:=fun A=>((fun x=>match x with|h=>ZcU g h:Int->Cq (List Int)) A).wp (fun a=>a=r)
  replace hr:(Cq.loop _ _).wp m:=hr
  refine an' (Φ:=m) (fun (⟨e,c⟩:Int×Mem)=>(e:Int)) (fun ⟨e,c⟩=>[(0,.slice j g.length k),(3,i' e)]) (fun ⟨e,c⟩=>Mem.le l c) (fun ⟨e,c⟩=>St s l c []) ⟨(g.length:Int),l⟩ hr (f2 z z) mr (wk ln) ?_
  .intro C y B hr
   obtain⟨e,c⟩:=y
   have d:=B
   refine n'<|sr<|mv z z<|ac' hr z (be' z z) z (fun u hr=>?_) (fun u hr=>?_)
   .refine mv z z<|gy z z (e' z) z<|gy z z (e' z) z<|gy z z (bk' z z) z ?_
    obtain⟨H,o,hr⟩:=hr
    refine gy z z (V' D' bs' (i.mono d) z z o) z<|gy z z (aa' bY' z (aI' (J' (af' i o) d))) z<|gy z z (at' z z) z<|yy (h' z z) z<|nx<|L' hr z (fun v hr=>?_) (fun v hr=>?_)
    .refine q'<|g'<|C'<|A'<|mv z z<|yy (bk' z z) z<|sg z z<|v'<|I'<|Y' ⟨i64.wrap (e-1),c⟩ hr d (f2 z z) (wk ln)
    refine ap'<|r'<|r'<|O'<|aq' ⟨e,c⟩ ⟨d,hr⟩ (f2 z z) (wk ln)
   refine mv z z<|sn6 z<|yy (l' z z) z<|nx<|bd' z<|ap'<|r'<|r'<|O'<|aq' ⟨e,c⟩ ⟨d,hr⟩ (f2 z z) (wk ln)
 rintro⟨h,f⟩ ⟨n,hr⟩
 refine g'<|sr<|mv z z<|mv z z ?_
 obtain⟨q,hr⟩:=hr
 refine WL.sliceRH (r:=(Rp.int .u32)) z z D' bs' z (i.mono n) z z q fun F D t=>sx0 z z<|j' ?_
 obtain rfl:_=r:=hr
 exact k' z z ⟨_,_,z,t⟩
theorem eO'{e c d r}(hr:(Zd0 e).Ret r):Ctr prog 186 #[.slice c e.length d] (fun G=>sl (Rp.int .u32) G c d e) (wl' (Rp.int .u32) r):=by
 refine H' (args:=[_]) (N:=5) func186 z z z (fun q s i g=>?_)
 have h:=g
 refine sr<|sg z z<|nr<|mv z z ?_
 obtain⟨f,hr⟩:=hr
 refine bT' (r:=(Rp.int .u32)) 2004 z z D' el202 z (by decide) z z (R' (Rp.int .u32) _) z (by rw[i]; rfl) cX' h f fun p n l o k j m=>sx0 z z<|j' ?_
 obtain rfl:_=r:=hr
 exact k' z z ⟨_,_,z,j⟩
theorem fV'{c d f e r}(hr:(ZfX c d).Ret r):Ctr prog 189 #[.bool c,.slice f d.length e] (fun G=>sl (Rp.int .u32) G f e d) (w128' r):=by
 refine H' (args:=[_,_]) (N:=14) func189 z z z (fun A y u n=>?_)
 have l:=n
 refine sr<|Q' 4 z z128 z fun x=>nr<|mv z z ?_
 obtain⟨m,o,hr⟩:=hr
 refine P' z z (t' E187 z) (dw' o) z (l) (fun s t q g=>?_)
 obtain⟨k,j,rfl,h⟩:=g
 refine sx0 z z<|n'<|sr<|mv z z<|yy (M' D' h z) z<|yy (at' z z) z<|nx<|L' hr z (fun p hr=>?_) (fun p hr=>?_)
 .exact (show False from hr).elim
 refine q'<|g'<|sr<|mv z z<|mv z z<|yy (av' (vs:=#[(0,.bool c),(1,.slice k m.length j)]) (v:=.agg ([.bool c,.slice k m.length j]).toArray) z z (fun _=>by kernel_rfl)) z<|s' 4 z do' z z z z z (List.all_eq_true.1 z)<|nx<|j' ?_
 obtain rfl:_=r:=hr
 exact k' z (ad' (i:=4) bt' z z z) ⟨_,_,z,h⟩
theorem gw'{a1 b1 C A I D r}(hr:(Zif a1 b1).Ret r):Ctr prog 158 #[.agg ((v128' a1 C A)).toArray,.agg ((v128' b1 I D)).toArray] (fun G=>sl (Rp.int .u32) G C A a1.mag/\sl (Rp.int .u32) G I D b1.mag) (w128' r):=by
 refine H' (args:=[_,_]) (N:=53) func158 z z z (fun w0 G0 a0 aw=>?_)
 obtain⟨aa,Z⟩:=aw
 refine sr<|ag' 2 z z z fun b2=>ag' 3 z z z fun b3=>Q' 4 z z128 z fun b4=>nx<|n'<|ah' [ff,ff,ff,ff,ff,ff] mix (by kernel_rfl) fun hb=>cn (fun _ k=>ba' z)<|cn (fun _ k=>f' 2 bN' z z z) ?_
 obtain⟨Y,am,hr⟩:=hr
 refine aX' (post:=wl' (Rp.int .u32) Y) (fun _=>z) (fun _ _=>t' E187 z) (dw' am) z (fun G' k=>(aa.mono k)) (fun v G1 G2 k h=>?_) ?_
 .obtain⟨ab,T,rfl,y⟩:=h
  exact⟨_,_,z,y.mono k⟩
 obtain⟨U,an,hr⟩:=hr
 refine cE' (f:=186) (φ:=wl' (Rp.int .u32) U) (fun _=>z) (fun v G1 G2 k h=>?_) (fun u G' k hu=>?_) ?_
 .obtain⟨X,S,rfl,J⟩:=h
  exact⟨_,_,z,J.mono k⟩
 .obtain⟨⟨ab,T,ae,y⟩,_⟩:=(show (wl' (Rp.int .u32) Y) G'.m (u 13)/\True from hu)
  exact⟨_,_,_,fun _=>t' E186 z,eO' an,(by simp only[ae] <;> rfl),y⟩
 refine cu (fun _ _ k=>ba' z)<|cu (fun _ _ k=>f' 3 bN' z z z)<|dx' (d:=14) (post:=wl' (Rp.int .u32) U) (d':=13) (post':=wl' (Rp.int .u32) Y) (fun aR aS a3 ah R K=>?_)
 obtain⟨X,S,rfl,J⟩:=R
 obtain⟨ab,T,rfl,y⟩:=K
 obtain⟨a2,au,hr⟩:=hr
 refine P' z z (t' E187 z) (dw' au) z ((Z.mono ah)) (fun aL aZ ad Q=>?_)
 obtain⟨aJ,aU,rfl,ak⟩:=Q
 obtain⟨aB,ai,hr⟩:=hr
 refine P' z z (t' E186 z) (eO' ai) z (ak) (fun aP W af L=>?_)
 obtain⟨aq,ap,rfl,ao⟩:=L
 refine sg z z<|sg z z<|v'<|ar'<|g'<|n'<|am' (fun (⟨F,E,H,x,g,j,t⟩:(List Int)×Option Addr×Nat×Zj×Option Addr×Nat×Mem)=>[(4,pt0 b4),(5,.slice E F.length H)]) (fun ⟨F,E,H,x,g,j,t⟩=>Mem.le W t/\sl (Rp.int .u32) t E H F/\sl (Rp.int .u32) t g j x.mag/\(Zdm F).Ret r) (fun ⟨F,E,H,x,g,j,t⟩=>St w0 G0 t [(4,bk0 b4 (v128' x g j) 128)]) ?_ ?_
 .refine C' ?_
  let V:(Zj⊕((List Int)×Zj))->Prop:=fun oo=>((fun ov=>match ov with | .inl rv1=>Cq.ret rv1 | .inr (F,x)=>Zdm F:(Zj⊕((List Int)×Zj))->Cq Zj) oo).wp (fun a=>a=r)
  replace hr:(Cq.loop _ _).wp V:=hr
  refine an' (Φ:=V) (fun (⟨B,s,p,q,n,m,o,e,c,l⟩:(List Int)×Option Addr×Nat×(List Int)×Option Addr×Nat×Zj×Option Addr×Nat×Mem)=>((B,q,o):(List Int)×(List Int)×Zj)) (fun ⟨B,s,p,q,n,m,o,e,c,l⟩=>[(4,pt0 b4),(5,.slice s B.length p),(6,.slice n q.length m)]) (fun ⟨B,s,p,q,n,m,o,e,c,l⟩=>Mem.le W l/\sl (Rp.int .u32) l s p B/\sl (Rp.int .u32) l n m q/\sl (Rp.int .u32) l e c o.mag) (fun ⟨B,s,p,q,n,m,o,e,c,l⟩=>St w0 G0 l [(4,bk0 b4 (v128' o e c) 128)]) ⟨U,X,S,aB,aq,ap,(Zj.mk false []),none,0,W⟩ hr (f3 z z z) ⟨mr,(J.mono (mx ad af)),ao,(R' _ _)⟩ (w1 z) ?_
  .intro aX gx hx hr
   obtain⟨B,s,p,q,n,m,o,e,c,l⟩:=gx
   obtain⟨ac,aC,av,P⟩:=hx
   refine n'<|sr<|mv z z<|yy (M' D' av z) z<|yy (be' z z) z<|nx<|L' hr z (fun aG hr=>?_) (fun aG hr=>?_)
   .exact (show False from hr).elim
   refine ap'<|r'<|r'<|O'<|aq' ⟨B,s,p,o,e,c,l⟩ ⟨ac,aC,P,hr⟩ (f2 z z) (w1 z)
 rintro⟨F,E,H,x,g,j,t⟩ ⟨aH,aE,ax,hr⟩
 refine g'<|sr<|mv z z ?_
 obtain⟨a4,ar,hr⟩:=hr
 refine P' z z (t' E189 z) (fV' ar) z (aE) (fun aK aY aI M=>?_)
 obtain⟨az,ay,rfl,O⟩:=M
 refine s' 4 z do' z z z z z (List.all_eq_true.1 z)<|nx<|j' ?_
 obtain rfl:_=r:=hr
 exact k' z (ad' (i:=4) bt' z z z) ⟨_,_,z,O⟩
theorem eP'{g e d r}(hr:(ZdZ g).Ret r):Ctr prog 155 #[.agg ((v128' g e d)).toArray] (fun G=>sl (Rp.int .u32) G e d g.mag) (fun G v=>v = .bool r):=by
 refine H' (args:=[_]) (N:=19) func155 z z z (fun l n j h=>?_)
 have c:=h
 refine sr<|ag' 1 z z z fun k=>sg z z<|nr<|yy (ba' z) z<|yy (f' 1 bN' z z z) z<|yy (M' D' c z) z<|sx0 z z<|n'<|sr<|mv z z<|yy (at' z z) z<|nx<|L' hr z (fun i hr=>?_) (fun i hr=>?_)
 .exact (show False from hr).elim
 refine q'<|g'<|sr<|yy (ba' z) z<|yy (f' 1 bN' z z z) z<|mv z z<|yy (bk' z z) z ?_
 obtain⟨m,f,hr⟩:=hr
 refine yy (V' D' bs' c z z f) z<|yy (aa' bY' z (aI' (af' c f))) z<|yy (aw' z z) z<|sx0 z z<|j' (k0' hr z z)
theorem eV'{f d c r}(hr:(ZeG f).Ret r):Ctr prog 156 #[.agg ((v128' f d c)).toArray] (fun G=>sl (Rp.int .u32) G d c f.mag) (fun G v=>v=i' r):=by
 refine H' (args:=[_]) (N:=9) func156 z z z (fun l m j g=>?_)
 have e:=g
 refine sr<|ag' 1 z z z fun k=>sx0 z z<|n'<|sr<|yy (ba' z) z<|yy (f' 1 bN' z z z) z<|yy (M' D' e z) z<|yy (at' z z) z<|nx<|L' hr z (fun i hr=>?_) (fun i hr=>?_)
 .exact (show False from hr).elim
 refine q'<|g'<|n'<|sr<|yy (br' z) z<|yy (f' 1 sc4 z z z) z<|nx<|aL' hr z (fun h hr=>?_) (fun h hr=>?_)
 .refine sr<|sx0 z z<|j'<|a' (k0' hr z z)
 refine q'<|g'<|sr<|sx0 z z<|j' (k0' hr z z)
theorem fW'{g f e d c r}(hr:(ZbX g).Ret r):Ctr prog 106 #[.agg ((v130' g f e d c)).toArray] (fun G=>sl (Rp.int .u32) G f e g.num.mag/\sl (Rp.int .u32) G d c g.den.mag) (fun G v=>v = .bool r):=by
 refine H' (args:=[_]) (N:=30) func106 z z z (fun J u Q x=>?_)
 obtain⟨i,h⟩:=x
 refine sr<|ag' 1 z z z fun C=>sx0 z z<|aM' (fun (n:Mem)=>match n with|k=>[(1,pt0 C)]) (fun (n:Mem)=>match n with|k=>Mem.le u k/\(Zd2 g).Ret r) (fun (n:Mem)=>match n with|k=>St J u k [(1,bk0 C (v130' g f e d c) 130)]) ?_ ?_
 .refine sr<|yy (cF' z) z<|yy (aJ' ((v128' g.num f e)).toArray 1 bt' z z z (aU' ([]) ((v128' g.num f e)) ((v128' g.den d c)))) z ?_
  obtain⟨D,q,hr⟩:=hr
  refine E' z z (t' E155 z) (eP' q) z (i) ?_
  cases D
  .refine yy (al' z) z<|mv z z<|sn4 z<|yy (h' z z) z<|mv z z<|sn4 z<|yy (h' z z) z<|nx<|U' z<|sr<|sx0 z z<|j'<|a' (k0' hr z z)
  refine yy (al' z) z<|mv z z<|gy z z (ck' z) z<|gy z z (aJ' ((v128' g.den d c)).toArray 1 bt' z z z (aU' ((v128' g.num f e)) ((v128' g.den d c)) ([]))) z ?_
  obtain⟨F,p,hr⟩:=hr
  refine E' (w' z z) z (t' E155 z) (eP' p) z (h) ?_
  cases F
  .refine gy z z (al' z) z<|yy (l' z z) z<|mv z z<|sn4 z<|yy (h' z z) z<|nx<|U' z<|sr<|sx0 z z<|j'<|a' (k0' hr z z)
  refine gy z z (al' z) z<|yy (l' z z) z<|mv z z<|gy z z (ck' z) z<|gy z z (aJ' ((v128' g.den d c)).toArray 1 bt' z z z (aU' ((v128' g.num f e)) ((v128' g.den d c)) ([]))) z ?_
  obtain⟨M,s,hr⟩:=hr
  refine E' (w' z z) z (t' E156 z) (eV' s) z (h)<|gy z z (bL' z z) z<|yy (l' z z) z<|nx<|L' hr z (fun H hr=>?_) (fun H hr=>?_)
  .exact (show False from hr).elim
  refine q'<|as' u ⟨mr,hr⟩ (f1 z) (w1 z)
 rintro k ⟨j,hr⟩
 refine sr<|yy (ck' z) z<|yy (aJ' ((v128' g.den d c)).toArray 1 bt' z z z (aU' ((v128' g.num f e)) ((v128' g.den d c)) ([]))) z ?_
 obtain⟨E,y,hr⟩:=hr
 refine E' z z (t' E157 z) (eK' y) z ((h.mono j)) ?_
 cases E
 .refine mv z z<|gy z z (cF' z) z<|gy z z (aJ' ((v128' g.num f e)).toArray 1 bt' z z z (aU' ([]) ((v128' g.num f e)) ((v128' g.den d c)))) z<|gy z z (ck' z) z<|gy z z (aJ' ((v128' g.den d c)).toArray 1 bt' z z z (aU' ((v128' g.num f e)) ((v128' g.den d c)) ([]))) z ?_
  obtain⟨L,o,hr⟩:=hr
  refine P' (w' z z) z (t' E158 z) (gw' o) z (⟨(i.mono j),(h.mono j)⟩) (fun K P I m=>?_)
  obtain⟨B,A,rfl,l⟩:=m
  obtain⟨O,t,hr⟩:=hr
  refine E' (w' z z) z (t' E157 z) (eK' t) z (l)<|yy (l' z z) z<|sx0 z z<|j' (k0' hr z z)
 refine mv z z<|sn6 z<|yy (h' z z) z<|sx0 z z<|j' (k0' hr z z)
theorem eQ'{h d c f e r}(hr:(Zby h).Ret r):Ctr prog 107 #[.agg ((v130' h d c f e)).toArray] (fun G=>sl (Rp.int .u32) G d c h.num.mag/\sl (Rp.int .u32) G f e h.den.mag) (fun G v=>v=i' r):=by
 refine H' (args:=[_]) (N:=6) func107 z z z (fun o p m j=>?_)
 obtain⟨g,i⟩:=j
 refine sr<|ag' 1 z z z fun n=>sg z z<|nr<|yy (cF' z) z<|yy (aJ' ((v128' h.num d c)).toArray 1 bt' z z z (aU' ([]) ((v128' h.num d c)) ((v128' h.den f e)))) z ?_
 obtain⟨l,k,hr⟩:=hr
 refine E' z z (t' E156 z) (eV' k) z (g)<|sx0 z z<|j' (k0' hr z z)
theorem fX'{k r}(hr:(Zdo k).Ret r):Ctr prog 108 #[.agg (vecG (Value.int .i64) 8 k).toArray] (fun G=>True) (fun G v=>v = .bool r):=by
 refine H' (args:=[_]) (N:=16) func108 z z z fun m h y q=>sr<|ag' 1 z z z fun A=>sx0 z z<|n'<|sr<|yy (o' 1 bW' z z (ae' _ _ _)) z<|mv z z<|nx<|am' (fun (f:Mem)=>match f with|e=>[]) (fun (f:Mem)=>match f with|e=>Mem.le h e/\(Zb1).Ret r) (fun (f:Mem)=>match f with|e=>St m h e []) ?_ ?_
 .refine C' ?_
  let i:(Bool⊕Unit)->Prop:=fun t=>((fun s=>match s with | .inl rv1=>Cq.ret rv1 | .inr ()=>Zb1:(Bool⊕Unit)->Cq Bool) t).wp (fun a=>a=r)
  replace hr:(Cq.loop _ _).wp i:=hr
  refine an' (Φ:=i) (fun (⟨c,d⟩:Int×Mem)=>(c:Int)) (fun ⟨c,d⟩=>[(5,.agg (vecG (Value.int .i64) 8 k).toArray),(6,i' c)]) (fun ⟨c,d⟩=>Mem.le h d) (fun ⟨c,d⟩=>St m h d []) ⟨0,h⟩ hr (f2 z z) mr (wk ln) ?_
  .intro x f u hr
   obtain⟨c,d⟩:=f
   have g:=u
   refine sr<|yy (aj' z z) z<|nx<|n'<|L' hr z (fun o hr=>?_) (fun o hr=>?_)
   .refine q'<|g'<|n'<|C'<|sr ?_
    obtain⟨j,hr⟩:=hr
    refine yy (Y0.index aO' sc3 sz3 z z j (bi' _ _ _ j)) z<|sg z z<|nr<|mv z z<|ac' hr z (aj' z z) z (fun n hr=>?_) (fun n hr=>?_)
    .refine mv z z<|sn2 z<|yy (h' z z) z<|nx<|U' z<|sr<|sx0 z z<|j'<|m'<|a'<|a'<|m'<|ab'<|a' (k0' hr z z)
    refine mv z z<|gy z z (e' z) z<|gy z z (be' z z) z<|yy (l' z z) z<|nx<|L' hr z (fun l hr=>?_) (fun l hr=>?_)
    .exact (show False from hr).elim
    refine q'<|I'<|g'<|A'<|yy (W' z z) z<|mv z z<|v'<|Y' ⟨i64.wrap (c+1),d⟩ hr g (f2 z z) (wk ln)
   refine ap'<|r'<|r'<|O'<|aq' d ⟨g,hr⟩ fn (wk ln)
 rintro e ⟨p,hr⟩
 refine g'<|sr<|sx0 z z<|j' (k0' hr z z)
theorem dP'{q t s r}(hr:(Zbp q).Ret r):Ctr prog 77 #[.slice t q.length s] (fun G=>sl K' G t s q) (fun G v=>v = .bool r):=by
 refine H' (args:=[_]) (N:=43) func77 z z z (fun J C af K=>?_)
 have A:=K
 refine sr<|sx0 z z<|n'<|sr<|mv z z<|yy (M' ak' A z) z<|mv z z<|nx<|am' (fun (n:Mem)=>match n with|y=>[]) (fun (n:Mem)=>match n with|y=>Mem.le C y/\(ZbF).Ret r) (fun (n:Mem)=>match n with|y=>St J C y []) ?_ ?_
 .refine C' ?_
  let B:(Bool⊕Unit)->Prop:=fun oo=>((fun ov=>match ov with | .inl rv1=>Cq.ret rv1 | .inr ()=>ZbF:(Bool⊕Unit)->Cq Bool) oo).wp (fun a=>a=r)
  replace hr:(Cq.loop _ _).wp B:=hr
  refine an' (Φ:=B) (fun (⟨h,m⟩:Int×Mem)=>(h:Int)) (fun ⟨h,m⟩=>[(0,.slice t q.length s),(5,.slice t q.length s),(6,i' (q.length:Int)),(7,i' h)]) (fun ⟨h,m⟩=>Mem.le C m) (fun ⟨h,m⟩=>St J C m []) ⟨0,C⟩ hr (f4 z z z z) mr (wk ln) ?_
  .intro Q n Z hr
   obtain⟨h,m⟩:=n
   have l:=Z
   refine sr<|yy (aj' z z) z<|nx<|n'<|L' hr z (fun X hr=>?_) (fun X hr=>?_)
   .refine q'<|g'<|n'<|C'<|sr<|mv z z ?_
    obtain⟨g,E,hr⟩:=hr
    refine yy (V' ak' ch' (A.mono l) z z E) z ?_
    obtain⟨d,f,e,c,T,j,k⟩:=dr' (J' (af' A E) l)
    refine yy (aC' _ ag133 z z T) z<|Q' 4 z z133 z fun M=>sg z z<|s' 4 z ch' z z z z z (fun u S=>Rp.one K' (G:=m) (x:=g) (cs:=((v130' g.c d f e c):List Value)++(vecG (Value.int .i64) 8 g.m)) ⟨(v130' g.c d f e c),vecG (Value.int .i64) 8 g.m,z,⟨(v128' g.c.num d f),(v128' g.c.den e c),z,⟨[.bool g.c.num.neg],[.slice d g.c.num.mag.length f],z,z,⟨_,z,j⟩⟩,⟨[.bool g.c.den.neg],[.slice e g.c.den.mag.length c],z,z,⟨_,z,k⟩⟩⟩,z⟩ u (by first|simpa using S|simpa [Value.cells] using S))<|nx<|aM' (fun (n:Mem)=>match n with|p=>[(0,.slice t q.length s),(3,i' h),(4,pt0 M),(5,.slice t q.length s),(6,i' (q.length:Int)),(7,i' h)]) (fun (n:Mem)=>match n with|p=>Mem.le m p/\(ZaN q h g).wp (Out Q B)) (fun (n:Mem)=>match n with|p=>St J C p [(4,bk0 M (((v130' g.c d f e c):List Value)++(vecG (Value.int .i64) 8 g.m)) 133)]) ?_ ?_
    .refine sr<|yy (cQ' z) z<|yy (aJ' ((v130' g.c d f e c)).toArray 4 cR' z z z (aU' ([]) ((v130' g.c d f e c)) ((vecG (Value.int .i64) 8 g.m)))) z ?_
     obtain⟨O,F,hr⟩:=hr
     refine E' z z (t' E106 z) (fW' F) z (⟨j,k⟩) ?_
     cases O
     .refine yy (al' z) z<|mv z z<|sn4 z<|yy (h' z z) z<|mv z z<|sn4 z<|yy (h' z z) z<|nx<|U' z<|sr<|sx0 z z<|j'<|a'<|m'<|a'<|a'<|m'<|ab'<|a' (k0' hr z z)
     refine yy (al' z) z<|mv z z<|gy z z (cQ' z) z<|gy z z (aJ' ((v130' g.c d f e c)).toArray 4 cR' z z z (aU' ([]) ((v130' g.c d f e c)) ((vecG (Value.int .i64) 8 g.m)))) z ?_
     obtain⟨ae,I,hr⟩:=hr
     refine E' (w' z z) z (t' E107 z) (eQ' I) z (⟨j,k⟩)<|ac' hr (w' z z) (at' z z) z (fun U hr=>?_) (fun U hr=>?_)
     .refine yy (l' z z) z<|mv z z<|sn4 z<|yy (h' z z) z<|nx<|U' z<|sr<|sx0 z z<|j'<|a'<|m'<|a'<|a'<|m'<|ab'<|a' (k0' hr z z)
     refine yy (l' z z) z<|mv z z<|gy z z (bD' z) z<|gy z z (aJ' (vecG (Value.int .i64) 8 g.m).toArray 4 bW' z z (ae' _ _ _) (aU' ((v130' g.c d f e c)) (vecG (Value.int .i64) 8 g.m) ([]))) z ?_
     obtain⟨ac,H,hr⟩:=hr
     refine E' (w' z z) z (t' E108 z) (fX' H) z (trivial)<|gy z z (al' z) z<|yy (l' z z) z<|nx<|aL' hr z (fun W hr=>?_) (fun W hr=>?_)
     .exact (show False from hr).elim
     refine q'<|as' m ⟨mr,hr⟩ (f6 z z z z z z) (w1 z)
    rintro p ⟨o,hr⟩
    refine n'<|ah' [ff,ff,ff,ff,ff,ff,ff,ff,ff,ff,ff] mix (by kernel_rfl) fun P=>cn (fun _ i=>e' z)<|by' hr z (fun _ i=>be' z z) (fun V hr=>?_) (fun V hr=>?_)
    .refine cn (fun _ i=>e' z)<|cy z z (fun _ i=>e' z)<|cy z z (fun _ i=>e' z)<|cy z z (fun _ i=>bk' z z) ?_
     obtain⟨x2,D,hr⟩:=hr
     refine cy z z (fun _ i=>V' ak' ch' ((A.mono (mx l o)).mono i) z z D)<|cy z z (fun _ i=>bD' z)<|cy z z (fun _ i=>aC' _ bW' z (ae' _ _ _) (dy' (J' (J' (ax' (ay' (af' A D))) (mx l o)) i)))<|cy z z (fun _ i=>bD' z)<|cy z z (fun _ i=>aJ' (vecG (Value.int .i64) 8 g.m).toArray 4 bW' z z (ae' _ _ _) (aU' ((v130' g.c d f e c)) (vecG (Value.int .i64) 8 g.m) ([])))<|T' P ?_
     obtain⟨ad,L,hr⟩:=hr
     refine E' (w' z z) z (t' E109 z) (eU' L) z (trivial)<|gy z z (bL' z z) z<|yy (h' z z) z<|v'<|ar'<|g'<|L' hr z (fun R hr=>?_) (fun R hr=>?_)
     .exact (show False from hr).elim
     refine q'<|I'<|g'<|A'<|yy (W' z z) z<|mv z z<|v'<|Y' ⟨i64.wrap (h+1),p⟩ hr (mx l o) (f4 z z z z) (wk ln)
    refine cn (fun _ i=>e' z)<|ct z z<|ct z z<|ct z z<|ct z z<|ct z z<|ct z z<|ct z z<|ct z z<|T' P<|sn2 z<|yy (l' z z) z<|v'<|ar'<|g'<|bd' z<|q'<|I'<|g'<|A'<|yy (W' z z) z<|mv z z<|v'<|Y' ⟨i64.wrap (h+1),p⟩ hr (mx l o) (f4 z z z z) (wk ln)
   refine ap'<|r'<|r'<|O'<|aq' m ⟨l,hr⟩ fn (wk ln)
 rintro y ⟨Y,hr⟩
 refine g'<|sr<|sx0 z z<|j' (k0' hr z z)
theorem ft'{l r}(hr:(Zcl l).Ret r):Ctr prog 110 #[.agg (vecG (Value.int .i64) 8 l).toArray] (fun G=>True) (fun G v=>v = .int .u8 r):=by
 refine H' (args:=[_]) (N:=19) func110 z z z fun o i B t=>sr<|ag' 1 z z z fun C=>sg z z<|nr<|sx0 z z<|n'<|sr<|yy (o' 1 bW' z z (ae' _ _ _)) z<|mv z z<|nx<|am' (fun (⟨h,g⟩:Int×Mem)=>[(3,.int .u8 h)]) (fun ⟨h,g⟩=>Mem.le i g/\(ZbE h).Ret r) (fun ⟨h,g⟩=>St o i g []) ?_ ?_
 .refine C' ?_
  let j:Int->Prop:=fun x=>((fun s=>match s with|h=>ZbE h:Int->Cq Int) x).wp (fun a=>a=r)
  replace hr:(Cq.loop _ _).wp j:=hr
  refine an' (Φ:=j) (fun (⟨e,c,d⟩:Int×Int×Mem)=>((e,c):Int×Int)) (fun ⟨e,c,d⟩=>[(3,.int .u8 e),(6,.agg (vecG (Value.int .i64) 8 l).toArray),(7,i' c)]) (fun ⟨e,c,d⟩=>Mem.le i d) (fun ⟨e,c,d⟩=>St o i d []) ⟨0,0,i⟩ hr (f3 z z z) mr (wk ln) ?_
  .intro A u y hr
   obtain⟨e,c,d⟩:=u
   have f:=y
   refine sr<|yy (aj' z z) z<|nx<|n'<|L' hr z (fun p hr=>?_) (fun p hr=>?_)
   .refine q'<|g'<|n'<|C'<|sr<|mv z z ?_
    obtain⟨k,hr⟩:=hr
    refine yy (Y0.index aO' sc3 sz3 z z k (bi' _ _ _ k)) z<|sg z z<|sg z z<|nr<|mv z z<|yy (be' z z) z<|nx<|L' hr z (fun n hr=>?_) (fun n hr=>?_)
    .refine A'<|mv z z<|mv z z ?_
     obtain⟨m,hr⟩:=hr
     refine yy (Y0.shl z z m) z<|yy (Y0.or z z) z<|sg z z<|v'<|I'<|g'<|A'<|yy (W' z z) z<|mv z z<|v'<|Y' ⟨u8.wrap (BitVec.ofInt u8.bits e ||| BitVec.ofInt u8.bits (u8.wrap (1*2 ^ (min (c).toNat u8.bits)))).toNat,i64.wrap (c+1),d⟩ hr f (f3 z z z) (wk ln)
    refine q'<|I'<|g'<|A'<|yy (W' z z) z<|mv z z<|v'<|Y' ⟨e,i64.wrap (c+1),d⟩ hr f (f3 z z z) (wk ln)
   refine ap'<|r'<|r'<|O'<|aq' ⟨e,d⟩ ⟨f,hr⟩ (f1 z) (wk ln)
 rintro⟨h,g⟩ ⟨q,hr⟩
 refine g'<|sr<|mv z z<|sx0 z z<|j' (k0' hr z z)
theorem cZ'{q t s r}(hr:(ZaX q).Ret r):Ctr prog 78 #[.slice t q.length s] (fun G=>sl K' G t s q) (fun G v=>v = .int .u8 r):=by
 refine H' (args:=[_]) (N:=19) func78 z z z (fun F p R C=>?_)
 have y:=C
 refine sr<|sg z z<|nr<|sx0 z z<|n'<|sr<|mv z z<|yy (M' ak' y z) z<|mv z z<|nx<|am' (fun (⟨o,n⟩:Int×Mem)=>[(3,.int .u8 o)]) (fun ⟨o,n⟩=>Mem.le p n/\(ZbO o).Ret r) (fun ⟨o,n⟩=>St F p n []) ?_ ?_
 .refine C' ?_
  let A:Int->Prop:=fun P=>((fun M=>match M with|o=>ZbO o:Int->Cq Int) P).wp (fun a=>a=r)
  replace hr:(Cq.loop _ _).wp A:=hr
  refine an' (Φ:=A) (fun (⟨m,g,h⟩:Int×Int×Mem)=>((m,g):Int×Int)) (fun ⟨m,g,h⟩=>[(3,.int .u8 m),(6,.slice t q.length s),(7,i' (q.length:Int)),(8,i' g)]) (fun ⟨m,g,h⟩=>Mem.le p h) (fun ⟨m,g,h⟩=>St F p h []) ⟨0,0,p⟩ hr (f4 z z z z) mr (wk ln) ?_
  .intro Q L O hr
   obtain⟨m,g,h⟩:=L
   have j:=O
   refine sr<|yy (aj' z z) z<|nx<|n'<|L' hr z (fun J hr=>?_) (fun J hr=>?_)
   .refine q'<|g'<|n'<|C'<|sr ?_
    obtain⟨i,B,hr⟩:=hr
    refine yy (V' ak' ch' (y.mono j) z z B) z ?_
    obtain⟨d,f,e,c,I,k,l⟩:=dr' (J' (af' y B) j)
    refine yy (aC' _ ag133 z z I) z<|Q' 5 z z133 z fun S=>s' 5 z ch' z z z z z (fun u H=>Rp.one K' (G:=h) (x:=i) (cs:=((v130' i.c d f e c):List Value)++(vecG (Value.int .i64) 8 i.m)) ⟨(v130' i.c d f e c),vecG (Value.int .i64) 8 i.m,z,⟨(v128' i.c.num d f),(v128' i.c.den e c),z,⟨[.bool i.c.num.neg],[.slice d i.c.num.mag.length f],z,z,⟨_,z,k⟩⟩,⟨[.bool i.c.den.neg],[.slice e i.c.den.mag.length c],z,z,⟨_,z,l⟩⟩⟩,z⟩ u (by first|simpa using H|simpa [Value.cells] using H))<|nx<|A'<|mv z z<|yy (bD' z) z<|yy (aJ' (vecG (Value.int .i64) 8 i.m).toArray 5 bW' z z (ae' _ _ _) (aU' ((v130' i.c d f e c)) (vecG (Value.int .i64) 8 i.m) ([]))) z ?_
    obtain⟨E,D,hr⟩:=hr
    refine E' z z (t' E110 z) (ft' D) z (trivial)<|yy (Y0.or z z) z<|sg z z<|v'<|I'<|g'<|A'<|yy (W' z z) z<|mv z z<|v'<|Y' ⟨u8.wrap (BitVec.ofInt u8.bits m ||| BitVec.ofInt u8.bits E).toNat,i64.wrap (g+1),h⟩ hr j (f4 z z z z) (wk ln)
   refine ap'<|r'<|r'<|O'<|aq' ⟨m,h⟩ ⟨j,hr⟩ (f1 z) (wk ln)
 rintro⟨o,n⟩ ⟨K,hr⟩
 refine g'<|sr<|mv z z<|sx0 z z<|j' (k0' hr z z)
theorem fE'{k r}(hr:(ZcX k).Ret r):Ctr prog 111 #[.agg (vecG (Value.int .i64) 8 k).toArray] (fun G=>True) (fun G v=>v=i' r):=by
 refine H' (args:=[_]) (N:=15) func111 z z z fun m i y p=>sr<|ag' 1 z z z fun A=>sg z z<|nr<|sx0 z z<|n'<|sr<|yy (o' 1 bW' z z (ae' _ _ _)) z<|mv z z<|nx<|am' (fun (⟨g,f⟩:Int×Mem)=>[(3,i' g)]) (fun ⟨g,f⟩=>Mem.le i f/\(ZbM g).Ret r) (fun ⟨g,f⟩=>St m i f []) ?_ ?_
 .refine C' ?_
  let j:Int->Prop:=fun t=>((fun q=>match q with|g=>ZbM g:Int->Cq Int) t).wp (fun a=>a=r)
  replace hr:(Cq.loop _ _).wp j:=hr
  refine an' (Φ:=j) (fun (⟨e,c,d⟩:Int×Int×Mem)=>((e,c):Int×Int)) (fun ⟨e,c,d⟩=>[(3,i' e),(6,.agg (vecG (Value.int .i64) 8 k).toArray),(7,i' c)]) (fun ⟨e,c,d⟩=>Mem.le i d) (fun ⟨e,c,d⟩=>St m i d []) ⟨0,0,i⟩ hr (f3 z z z) mr (wk ln) ?_
  .intro x s u hr
   obtain⟨e,c,d⟩:=s
   have h:=u
   refine sr<|yy (aj' z z) z<|nx<|n'<|L' hr z (fun n hr=>?_) (fun n hr=>?_)
   .refine q'<|g'<|n'<|C'<|sr ?_
    obtain⟨l,hr⟩:=hr
    refine yy (Y0.index aO' sc3 sz3 z z l (bi' _ _ _ l)) z<|sx0 z z<|A'<|mv z z<|mv z z<|yy (W' z z) z<|sg z z<|v'<|I'<|g'<|A'<|yy (W' z z) z<|mv z z<|v'<|Y' ⟨i64.wrap (e+(getF k c)),i64.wrap (c+1),d⟩ hr h (f3 z z z) (wk ln)
   refine ap'<|r'<|r'<|O'<|aq' ⟨e,d⟩ ⟨h,hr⟩ (f1 z) (wk ln)
 rintro⟨g,f⟩ ⟨o,hr⟩
 refine g'<|sr<|mv z z<|sx0 z z<|j' (k0' hr z z)
theorem dM'{q t s r}(hr:(Za8 q).Ret r):Ctr prog 79 #[.slice t q.length s] (fun G=>sl K' G t s q) (fun G v=>v=i' r):=by
 refine H' (args:=[_]) (N:=19) func79 z z z (fun F p R D=>?_)
 have y:=D
 refine sr<|sg z z<|nr<|sx0 z z<|n'<|sr<|mv z z<|yy (M' ak' y z) z<|mv z z<|nx<|am' (fun (⟨o,n⟩:Int×Mem)=>[(3,i' o)]) (fun ⟨o,n⟩=>Mem.le p n/\(Zbo o).Ret r) (fun ⟨o,n⟩=>St F p n []) ?_ ?_
 .refine C' ?_
  let A:Int->Prop:=fun P=>((fun M=>match M with|o=>Zbo o:Int->Cq Int) P).wp (fun a=>a=r)
  replace hr:(Cq.loop _ _).wp A:=hr
  refine an' (Φ:=A) (fun (⟨k,g,h⟩:Int×Int×Mem)=>((k,g):Int×Int)) (fun ⟨k,g,h⟩=>[(3,i' k),(6,.slice t q.length s),(7,i' (q.length:Int)),(8,i' g)]) (fun ⟨k,g,h⟩=>Mem.le p h) (fun ⟨k,g,h⟩=>St F p h []) ⟨(-1),0,p⟩ hr (f4 z z z z) mr (wk ln) ?_
  .intro Q L O hr
   obtain⟨k,g,h⟩:=L
   have j:=O
   refine sr<|yy (aj' z z) z<|nx<|n'<|L' hr z (fun J hr=>?_) (fun J hr=>?_)
   .refine q'<|g'<|n'<|C'<|sr ?_
    obtain⟨i,C,hr⟩:=hr
    refine yy (V' ak' ch' (y.mono j) z z C) z ?_
    obtain⟨d,f,e,c,I,l,m⟩:=dr' (J' (af' y C) j)
    refine yy (aC' _ ag133 z z I) z<|Q' 5 z z133 z fun S=>s' 5 z ch' z z z z z (fun u H=>Rp.one K' (G:=h) (x:=i) (cs:=((v130' i.c d f e c):List Value)++(vecG (Value.int .i64) 8 i.m)) ⟨(v130' i.c d f e c),vecG (Value.int .i64) 8 i.m,z,⟨(v128' i.c.num d f),(v128' i.c.den e c),z,⟨[.bool i.c.num.neg],[.slice d i.c.num.mag.length f],z,z,⟨_,z,l⟩⟩,⟨[.bool i.c.den.neg],[.slice e i.c.den.mag.length c],z,z,⟨_,z,m⟩⟩⟩,z⟩ u (by first|simpa using H|simpa [Value.cells] using H))<|nx<|A'<|mv z z<|yy (bD' z) z<|yy (aJ' (vecG (Value.int .i64) 8 i.m).toArray 5 bW' z z (ae' _ _ _) (aU' ((v130' i.c d f e c)) (vecG (Value.int .i64) 8 i.m) ([]))) z ?_
    obtain⟨B,E,hr⟩:=hr
    refine E' z z (t' E111 z) (fE' E) z (trivial)<|yy (eo' z z) z<|sg z z<|v'<|I'<|g'<|A'<|yy (W' z z) z<|mv z z<|v'<|Y' ⟨if k<B then B else k,i64.wrap (g+1),h⟩ hr j (f4 z z z z) (wk ln)
   refine ap'<|r'<|r'<|O'<|aq' ⟨k,h⟩ ⟨j,hr⟩ (f1 z) (wk ln)
 rintro⟨o,n⟩ ⟨K,hr⟩
 refine g'<|sr<|mv z z<|sx0 z z<|j' (k0' hr z z)
theorem gx'{h m e d r}(hr:(ZfK h m).Ret r):Ctr prog 60 #[.slice e h.length d,i' m] (fun G=>sl K' G e d h) (fun G v=>v = .bool r):=by
 refine H' (args:=[_,_]) (N:=20) func60 z z z (fun t s q i=>?_)
 have c:=i
 refine sr<|sg z z<|nr<|mv z z ?_
 obtain⟨k,j,hr⟩:=hr
 refine E' z z (t' E77 z) (dP' j) z (c) ?_
 cases k
 .refine mv z z<|sn6 z<|yy (l' z z) z<|mv z z<|sn3 z<|yy (l' z z) z<|sx0 z z<|j' (k0' hr z z)
 refine mv z z<|gy z z (e' z) z ?_
 obtain⟨o,f,hr⟩:=hr
 refine E' (w' z z) z (t' E78 z) (cZ' f) z (c)<|gy z z (aN' aP' aA' z) z<|gy z z (e' z) z ?_
 obtain⟨l,hr⟩:=hr
 refine gy z z (Y0.shr z z l) z<|ac' hr (w' z z) (at' z z) z (fun n hr=>?_) (fun n hr=>?_)
 .refine yy (h' z z) z<|mv z z<|gy z z (e' z) z ?_
  obtain⟨p,g,hr⟩:=hr
  refine E' (w' z z) z (t' E79 z) (dM' g) z (c)<|gy z z (bL' z z) z<|yy (h' z z) z<|sx0 z z<|j' (k0' hr z z)
 refine yy (h' z z) z<|mv z z<|sn3 z<|yy (l' z z) z<|sx0 z z<|j' (k0' hr z z)
theorem gb'{e r}(hr:(Zcc e).Ret r):Ctr prog 76 #[.int .i32 e] (fun G=>True) (fun G v=>v = .bool r):=by
 refine H' (args:=[_]) (N:=13) func76 z z z fun h i g f=>sr<|sg z z<|nr<|mv z z<|ac' hr z (bL' z z) z (fun c hr=>?_) (fun c hr=>?_)
 .refine mv z z<|gy z z (e' z) z<|ac' hr (w' z z) (bL' z z) z (fun d hr=>?_) (fun d hr=>?_)
  .refine yy (h' z z) z<|mv z z<|sn2 z<|yy (h' z z) z<|sx0 z z<|j' (k0' hr z z)
  refine yy (h' z z) z<|mv z z<|gy z z (e' z) z<|gy z z (at' z z) z<|yy (l' z z) z<|sx0 z z<|j' (k0' hr z z)
 refine mv z z<|sn2 z<|yy (l' z z) z<|mv z z<|gy z z (e' z) z<|gy z z (at' z z) z<|yy (l' z z) z<|sx0 z z<|j' (k0' hr z z)
theorem gc'{f r}(hr:(Zcb f).Ret r):Ctr prog 59 #[.string f] (fun G=>True) (fun G v=>v = .bool r):=by
 refine H' (args:=[_]) (N:=45) func59 z z z fun q o P J=>sr<|sx0 z z<|aM' (fun (g:Mem)=>match g with|h=>[(0,.string f)]) (fun (g:Mem)=>match g with|h=>Mem.le o h/\(ZeS f).Ret r) (fun (g:Mem)=>match g with|h=>St q o h []) ?_ ?_
 .refine sr<|mv z z<|yy (Y0.lenS bl' z) z<|ac' hr z (aj' z z) z (fun B hr=>?_) (fun B hr=>?_)
  .refine mv z z<|sn3 z<|yy (h' z z) z<|nx<|U' z<|sr<|sx0 z z<|j'<|a' (k0' hr z z)
  refine mv z z<|gy z z (e' z) z<|gy z z (Y0.lenS bl' z) z<|gy z z (be' z z) z<|yy (l' z z) z<|nx<|L' hr z (fun y hr=>?_) (fun y hr=>?_)
  .refine sr<|sx0 z z<|j'<|a' (k0' hr z z)
  refine q'<|as' o ⟨mr,hr⟩ (f1 z) (wk ln)
 rintro h ⟨H,hr⟩
 refine n'<|sr<|mv z z<|WL.rangeS 4015 z z bl' z fun m=>nx<|am' (fun (g:Mem)=>match g with|k=>[]) (fun (g:Mem)=>match g with|k=>Mem.le h k/\(ZaL).Ret r) (fun (g:Mem)=>match g with|k=>St q o k []) ?_ ?_
 .refine C' ?_
  let l:(Bool⊕Unit)->Prop:=fun L=>((fun K=>match K with | .inl rv1=>Cq.ret rv1 | .inr ()=>ZaL:(Bool⊕Unit)->Cq Bool) L).wp (fun a=>a=r)
  replace hr:(Cq.loop _ _).wp l:=hr
  refine an' (Φ:=l) (fun (⟨c,d⟩:Nat×Mem)=>(c:Nat)) (fun ⟨c,d⟩=>[(15,pt0 m)]) (fun ⟨c,d⟩=>Mem.le h d) (fun ⟨c,d⟩=>St q o d [(4015,(some ⟨m,.stringIter f c,0⟩))]) ⟨0,h⟩ hr (f1 z) mr (w1 z) ?_
  .intro x g M hr
   obtain⟨c,d⟩:=g
   have j:=M
   refine sr<|WL.nextS 4015 z z z z (fun p=>?_) (fun p=>?_)
   .replace hr:=hr.pos p
    refine yy (x' z z) z<|nx<|n'<|U' z<|q'<|g'<|C'<|sr<|yy (x' z z) z<|yy (x' z z) z<|sg z z<|sx0 z z<|aM' (fun (⟨e,i⟩:Bool×Mem)=>[(3,i' (c:Int)),(4,.int .i32 ((Utf8.decode f c).1:Int)),(5,.bool e),(15,pt0 m)]) (fun ⟨e,i⟩=>Mem.le d i/\(ZQ f c e).wp (Out x l)) (fun ⟨e,i⟩=>St q o i [(4015,(some ⟨m,.stringIter f (c+(Utf8.decode f c).2),0⟩))]) ?_ ?_
    .refine A'<|mv z z<|ac' hr z (bL' z z) z (fun E hr=>?_) (fun E hr=>?_)
     .refine mv z z<|gy z z (e' z) z<|ac' hr (w' z z) (bL' z z) z (fun C hr=>?_) (fun C hr=>?_)
      .refine yy (h' z z) z<|mv z z<|sn3 z<|N' (u' z z) z<|N' (u' z z) z<|sf z z z<|yy (h' z z) z<|sg z z<|v'<|as' ⟨true,d⟩ ⟨mr,hr⟩ (f4 z z z z) (w1 z)
      refine yy (h' z z) z<|mv z z<|gy z z (e' z) z<|ac' hr (w' z z) (bL' z z) z (fun u hr=>?_) (fun u hr=>?_)
      .refine gy z z (e' z) z<|gy z z (e' z) z<|gy z z (bL' z z) z<|gy z z (h' z z) z<|yy (l' z z) z<|sg z z<|v'<|as' ⟨decide (((Utf8.decode f c).1:Int)<=122),d⟩ ⟨mr,hr⟩ (f4 z z z z) (w1 z)
      refine gy z z (e' z) z<|sn2 z<|gy z z (l' z z) z<|yy (l' z z) z<|sg z z<|v'<|as' ⟨false,d⟩ ⟨mr,hr⟩ (f4 z z z z) (w1 z)
     refine mv z z<|sn2 z<|yy (l' z z) z<|mv z z<|gy z z (e' z) z<|ac' hr (w' z z) (bL' z z) z (fun t hr=>?_) (fun t hr=>?_)
     .refine gy z z (e' z) z<|gy z z (e' z) z<|gy z z (bL' z z) z<|gy z z (h' z z) z<|yy (l' z z) z<|sg z z<|v'<|as' ⟨decide (((Utf8.decode f c).1:Int)<=122),d⟩ ⟨mr,hr⟩ (f4 z z z z) (w1 z)
     refine gy z z (e' z) z<|sn2 z<|gy z z (l' z z) z<|yy (l' z z) z<|sg z z<|v'<|as' ⟨false,d⟩ ⟨mr,hr⟩ (f4 z z z z) (w1 z)
    rintro⟨e,i⟩ ⟨n,hr⟩
    refine sr<|ac' hr z (cK' (e' z) (congrArg Value.bool (bdec _))) z (fun D hr=>?_) (fun D hr=>?_)
    .refine yy (al' z) z<|mv z z<|sn3 z<|N' (u' z z) z<|N' (u' z z) z<|N' (u' z z) z<|sk z z z<|yy (l' z z) z<|nx<|bd' z<|q'<|I'<|Y' ⟨(c+(Utf8.decode f c).2),i⟩ hr (mx j n) (f1 z) (w1 z)
    refine yy (al' z) z<|mv z z<|gy z z (e' z) z<|ac' hr (w' z z) (at' z z) z (fun A hr=>?_) (fun A hr=>?_)
    .refine gy z z (e' z) z<|sn3 z<|gy z z (h' z z) z<|yy (h' z z) z<|nx<|U' z<|sr<|sx0 z z<|j'<|m'<|a'<|m'<|ab'<|a' (k0' hr z z)
    refine gy z z (e' z) z<|gy z z (e' z) z ?_
    obtain⟨O,s,hr⟩:=hr
    refine E' (w' z z) z (t' E76 z) (gb' s) z (trivial)<|gy z z (al' z) z<|gy z z (l' z z) z<|yy (h' z z) z<|nx<|aL' hr z (fun F hr=>?_) (fun F hr=>?_)
    .refine sr<|sx0 z z<|j'<|m'<|a'<|m'<|ab'<|a' (k0' hr z z)
    refine q'<|I'<|Y' ⟨(c+(Utf8.decode f c).2),i⟩ hr (mx j n) (f1 z) (w1 z)
   replace hr:=hr.neg p
   refine yy (x' z z) z<|nx<|n'<|bd' z<|ap'<|r'<|r'<|O'<|aq' d ⟨j,hr⟩ fn (wk ln)
 rintro k ⟨I,hr⟩
 refine g'<|sr<|sx0 z z<|j' (k0' hr z z)
theorem ep'{c m l i j g f r}(hr:(Z7 c).Ret r):Ctr prog 44 #[.agg ((v31' c m l i j g f)).toArray] (fun G=>y31' G m l i j g f c) (fun G v=>v = .bool r):=by
 refine H' (args:=[_]) (N:=108) func44 z z z (fun w0 T aW aO=>?_)
 obtain⟨p,ab,Y⟩:=aO
 refine sr<|ag' 1 z z z fun H=>sx0 z z<|aM' (fun (o:Mem)=>match o with|I=>[(1,pt0 H)]) (fun (o:Mem)=>match o with|I=>Mem.le T I/\(Zfd c).Ret r) (fun (o:Mem)=>match o with|I=>St w0 T I [(1,bk0 H (v31' c m l i j g f) 31)]) ?_ ?_
 .refine sr<|yy (aF' z) z<|yy (f' 1 bB' z z z) z<|yy (M' F' p z) z<|ac' hr z (be' z z) z (fun bc hr=>?_) (fun bc hr=>?_)
  .refine mv z z<|sn3 z<|yy (h' z z) z<|mv z z<|sn3 z<|yy (h' z z) z<|nx<|U' z<|sr<|sx0 z z<|j'<|a' (k0' hr z z)
  refine mv z z<|gy z z (bw' z) z<|gy z z (f' 1 sc3 z z z) z<|ac' hr (w' z z) (aj' z z) z (fun a6 hr=>?_) (fun a6 hr=>?_)
  .refine yy (l' z z) z<|mv z z<|sn3 z<|yy (h' z z) z<|nx<|U' z<|sr<|sx0 z z<|j'<|a' (k0' hr z z)
  refine yy (l' z z) z<|mv z z<|gy z z (bw' z) z<|gy z z (f' 1 sc3 z z z) z<|gy z z (be' z z) z<|yy (l' z z) z<|nx<|L' hr z (fun a1 hr=>?_) (fun a1 hr=>?_)
  .refine sr<|sx0 z z<|j'<|a' (k0' hr z z)
  refine q'<|as' T ⟨mr,hr⟩ (f1 z) (w1 z)
 rintro I ⟨C,hr⟩
 refine sr<|WL.makeMap (ky:=ky9) (Rv:=RvS Rp.bool I) 4025 z z fun aB av aE=>sx0 z z<|n'<|sr<|yy (aF' z) z<|yy (f' 1 bB' z z z) z<|yy (M' F' (p.mono C) z) z<|mv z z<|nx<|am' (fun (o:Mem)=>match o with|V=>[(1,pt0 H)]) (fun (o:Mem)=>match o with|V=>Mem.le I V/\(ZaZ c).Ret r) (fun (o:Mem)=>match o with|V=>St w0 T V [(1,bk0 H (v31' c m l i j g f) 31)]) ?_ ?_
 .refine C' ?_
  let ao:(Bool⊕Unit)->Prop:=fun oo=>((fun ov=>match ov with | .inl rv3=>Cq.ret rv3 | .inr ()=>ZaZ c:(Bool⊕Unit)->Cq Bool) oo).wp (fun a=>a=r)
  replace hr:(Cq.loop _ _).wp ao:=hr
  refine an' (Φ:=ao) (fun (⟨t,P,B,E⟩:Int×(List (ByteArray×Bool))×Option Ow×Mem)=>((t,P):Int×(List (ByteArray×Bool)))) (fun ⟨t,P,B,E⟩=>[(1,pt0 H),(27,.slice m c.vars.length l),(28,i' (c.vars.length:Int)),(29,i' t),(3,.map (some aB))]) (fun ⟨t,P,B,E⟩=>Mem.le I E/\MapR ky9 (RvS Rp.bool E) (.map (some aB)) P B) (fun ⟨t,P,B,E⟩=>St w0 T E [(1,bk0 H (v31' c m l i j g f) 31),(4025,B)]) ⟨0,[],av,I⟩ hr (f5 z z z z z) ⟨mr,aE⟩ (w2 z z) ?_
  .intro bj o hx hr
   obtain⟨t,P,B,E⟩:=o
   obtain⟨L,an⟩:=hx
   refine sr<|yy (aj' z z) z<|nx<|n'<|L' hr z (fun a3 hr=>?_) (fun a3 hr=>?_)
   .refine q'<|g'<|n'<|C'<|sr ?_
    obtain⟨x4,ay,hr⟩:=hr
    refine yy (V' F' sz9 (p.mono (mx C L)) z z ay) z<|yy (aa' sc9 z (cd' (J' (af' p ay) (mx C L)))) z<|sx0 z z<|n'<|sr<|mv z z ?_
    obtain⟨aY,aJ,hr⟩:=hr
    refine E' z z (t' E59 z) (gc' aJ) z (trivial) ?_
    cases aY
    .refine yy (al' z) z<|mv z z<|sn3 z<|yy (h' z z) z<|nx<|U' z<|sr<|sx0 z z<|j'<|a'<|m'<|a'<|a'<|m'<|ab'<|a' (k0' hr z z)
    refine yy (al' z) z<|mv z z<|gy z z (e' z) z<|gy z z (e' z) z ?_
    obtain⟨a8,hr⟩:=hr
    refine gy z z (Y0.mapGet1 (mk:=Value.bool) (k:=x4) 4025 false (fun h=>Zln h) underlying115 zv4 an z z z a8) z<|yy (l' z z) z<|nx<|aL' hr z (fun aU hr=>?_) (fun aU hr=>?_)
    .refine sr<|sx0 z z<|j'<|a'<|m'<|a'<|a'<|m'<|ab'<|a' (k0' hr z z)
    refine q'<|g'<|A'<|mv z z<|mv z z ?_
    obtain⟨⟨bd,aG⟩,hr⟩:=hr
    refine WL.mapPut (Rv':=RvS Rp.bool E) (k:=x4) (z:=true) 4025 z underlying115 an z z z z bd z (fun _ _ _ _ h=>h) aG fun bb aI=>v'<|I'<|g'<|A'<|yy (W' z z) z<|mv z z<|v'<|Y' ⟨i64.wrap (t+1),(mput P x4 true),bb,E⟩ hr ⟨L,aI⟩ (f5 z z z z z) (w2 z z)
   refine ap'<|r'<|r'<|O'<|aq' E ⟨L,hr⟩ (f1 z) (w1 z)
 rintro V ⟨W,hr⟩
 refine g'<|sr<|WL.makeMap (ky:=ky3) (Rv:=RvS Rp.bool V) 4044 z z fun O aw aQ=>sx0 z z<|n'<|sr<|yy (aY' z) z<|yy (f' 1 bq' z z z) z<|yy (bb' z) z<|yy (f' 1 bq' z z z) z<|bc' (e:=29) (r:=(Rp.sl b')) (vs:=#[(0,.slice i c.eqs.length j),(1,.slice g c.neqs.length f)]) (cs:=[.slice i c.eqs.length j]++([.slice g c.neqs.length f]++([]))) ([c.eqs,c.neqs]:List (List Zb)) z z z z z (by decide) (fun _=>by kernel_rfl) ⟨[.slice i c.eqs.length j],[.slice g c.neqs.length f]++([]),z,⟨_,z,(ab.mono (mx C W))⟩,⟨[.slice g c.neqs.length f],[],z,⟨_,z,(Y.mono (mx C W))⟩,z⟩⟩ (key:=999) z (by rw[aW]; rfl) fun p1 am af ak=>yy (M' cn' ak z) z<|mv z z<|nx<|am' (fun (o:Mem)=>match o with|Z=>[]) (fun (o:Mem)=>match o with|Z=>Mem.le am Z/\(Zc2).Ret r) (fun (o:Mem)=>match o with|Z=>St w0 T Z []) ?_ ?_
 .refine C' ?_
  let X:(Bool⊕Unit)->Prop:=fun oo=>((fun ov=>match ov with | .inl rv1=>Cq.ret rv1 | .inr ()=>Zc2:(Bool⊕Unit)->Cq Bool) oo).wp (fun a=>a=r)
  replace hr:(Cq.loop _ _).wp X:=hr
  refine an' (Φ:=X) (fun (⟨n,S,u,y⟩:Int×(List (Int×Bool))×Option Ow×Mem)=>((n,S):Int×(List (Int×Bool)))) (fun ⟨n,S,u,y⟩=>[(1,pt0 H),(49,.slice p1 2 2),(50,i' ([c.eqs,c.neqs].length:Int)),(51,i' n),(6,.map (some O))]) (fun ⟨n,S,u,y⟩=>Mem.le am y/\MapR ky3 (RvS Rp.bool y) (.map (some O)) S u) (fun ⟨n,S,u,y⟩=>St w0 T y [(1,bk0 H (v31' c m l i j g f) 31),(4044,u)]) ⟨0,[],aw,am⟩ hr (f5 z z z z z) ⟨mr,(MapR.mono aQ af)⟩ (w2 z z) ?_
  .intro az o hx hr
   obtain⟨n,S,u,y⟩:=o
   obtain⟨J,aL⟩:=hx
   refine sr<|yy (aj' z z) z<|nx<|n'<|L' hr z (fun bh hr=>?_) (fun bh hr=>?_)
   .refine q'<|g'<|n'<|C'<|sr ?_
    obtain⟨x1,aC,hr⟩:=hr
    refine yy (V' cn' sz29 (ak.mono J) z z aC) z ?_
    obtain⟨p2,ae,a7,U⟩:=bG' (J' (af' ak aC) J)
    refine yy (aa' bq' z (a7)) z<|sx0 z z<|n'<|sr<|mv z z<|yy (M' y' U z) z<|yy (be' z z) z<|nx<|L' hr z (fun a0 hr=>?_) (fun a0 hr=>?_)
    .refine sr<|sx0 z z<|j'<|a'<|m'<|a'<|a'<|m'<|ab'<|a' (k0' hr z z)
    refine q'<|g'<|sr<|mv z z<|yy (M' y' U z) z<|mv z z<|nx<|am' (fun (⟨K,D,Q⟩:(List (Int×Bool))×Option Ow×Mem)=>[(1,pt0 H),(49,.slice p1 2 2),(50,i' ([c.eqs,c.neqs].length:Int)),(51,i' n),(6,.map (some O))]) (fun ⟨K,D,Q⟩=>Mem.le y Q/\MapR ky3 (RvS Rp.bool Q) (.map (some O)) K D/\(Zc3 n K).wp (Out az X)) (fun ⟨K,D,Q⟩=>St w0 T Q [(1,bk0 H (v31' c m l i j g f) 31),(4044,D)]) ?_ ?_
    .refine C' ?_
     let ad:(Bool⊕((List (Int×Bool))))->Prop:=fun oo=>((fun ov=>match ov with | .inl rv2=>Cq.ret (.inr (.inl rv2)) | .inr K=>Zc3 n K:(Bool⊕((List (Int×Bool))))->Cq ((Int×(List (Int×Bool)))⊕(Bool⊕Unit))) oo).wp (Out az X)
     replace hr:(Cq.loop _ _).wp ad:=hr
     refine an' (Φ:=ad) (fun (⟨q,F,s,A⟩:Int×(List (Int×Bool))×Option Ow×Mem)=>((q,F):Int×(List (Int×Bool)))) (fun ⟨q,F,s,A⟩=>[(1,pt0 H),(8,.slice p2 x1.length ae),(49,.slice p1 2 2),(50,i' ([c.eqs,c.neqs].length:Int)),(51,i' n),(58,.slice p2 x1.length ae),(59,i' (x1.length:Int)),(60,i' q),(6,.map (some O))]) (fun ⟨q,F,s,A⟩=>Mem.le y A/\MapR ky3 (RvS Rp.bool A) (.map (some O)) F s) (fun ⟨q,F,s,A⟩=>St w0 T A [(1,bk0 H (v31' c m l i j g f) 31),(4044,s)]) ⟨0,S,u,y⟩ hr (f9 z z z z z z z z z) ⟨mr,aL⟩ (w2 z z) ?_
     .intro aT o hx hr
      obtain⟨q,F,s,A⟩:=o
      obtain⟨x,ac⟩:=hx
      refine sr<|yy (aj' z z) z<|nx<|n'<|L' hr z (fun a5 hr=>?_) (fun a5 hr=>?_)
      .refine q'<|g'<|n'<|C'<|sr<|mv z z ?_
       obtain⟨x2,ax,hr⟩:=hr
       refine yy (V' y' aT' (U.mono x) z z ax) z ?_
       obtain⟨aK,aM,aV,aP⟩:=bp' (J' (af' U ax) x)
       refine yy (aC' _ bO' z z aV) z<|Q' 10 z z110 z fun b2=>sg z z<|s' 10 z aT' z z z z z (List.all_eq_true.1 z)<|nx<|aM' (fun (o:Mem)=>match o with|R=>[(1,pt0 H),(8,.slice p2 x1.length ae),(10,pt0 b2),(49,.slice p1 2 2),(50,i' ([c.eqs,c.neqs].length:Int)),(51,i' n),(58,.slice p2 x1.length ae),(59,i' (x1.length:Int)),(60,i' q),(6,.map (some O))]) (fun (o:Mem)=>match o with|R=>Mem.le A R/\(ZaY c q F x2).wp (Out aT ad)) (fun (o:Mem)=>match o with|R=>St w0 T R [(1,bk0 H (v31' c m l i j g f) 31),(10,bk0 b2 (v110' x2.id aK x2.p aM) 110),(4044,s)]) ?_ ?_
       .refine n'<|ah' [ff,ff,ff,ff,ff,ff,ff,ff,ff,ff,ff,ff,ff,ff,ff,ff,ff,ff,ff,ff,ff,ff,ff,ff,ff,ff,ff,ff] mix (by kernel_rfl) fun hb=>cn (fun _ d=>bn' z)<|cn (fun _ d=>f' 10 sc3 z z z)<|by' hr z (fun _ d=>aj' z z) (fun bg hr=>?_) (fun bg hr=>?_)
        .refine cn (fun _ d=>e' z)<|cf z z<|cf z z<|cf z z<|cf z z<|cf z z<|cn (fun _ d=>h' z z)<|cn (fun _ d=>e' z)<|cf z z<|cf z z<|cf z z<|cf z z<|cn (fun _ d=>h' z z)<|cn (fun _ d=>e' z)<|cf z z<|cf z z<|cf z z<|cs z z<|cs z z<|cs z z<|cs z z<|cs z z<|cs z z<|cs z z<|cs z z<|T' hb<|N' (u' z z) z<|sf z z z<|yy (h' z z) z<|v'<|ar'<|g'<|U' z<|sr<|sx0 z z<|j'<|a'<|m'<|a'<|a'<|m'<|ab'<|m'<|a'<|a'<|m'<|ab'<|a' (k0' hr z z)
        refine cn (fun _ d=>e' z)<|cy z z (fun _ d=>bn' z)<|cy z z (fun _ d=>f' 10 sc3 z z z)<|cy z z (fun _ d=>bw' z)<|cy z z (fun _ d=>f' 1 sc3 z z z)<|by' hr (w' z z) (fun _ d=>bf' z z) (fun a2 hr=>?_) (fun a2 hr=>?_)
        .refine cn (fun _ d=>l' z z)<|cn (fun _ d=>e' z)<|cf z z<|cf z z<|cf z z<|cf z z<|cn (fun _ d=>h' z z)<|cn (fun _ d=>e' z)<|cf z z<|cf z z<|cf z z<|cs z z<|cs z z<|cs z z<|cs z z<|cs z z<|cs z z<|cs z z<|cs z z<|T' hb<|N' (u' z z) z<|sf z z z<|yy (h' z z) z<|v'<|ar'<|g'<|U' z<|sr<|sx0 z z<|j'<|a'<|m'<|a'<|a'<|m'<|ab'<|m'<|a'<|a'<|m'<|ab'<|a' (k0' hr z z)
        refine cn (fun _ d=>l' z z)<|cn (fun _ d=>e' z)<|cy z z (fun _ d=>e' z)<|cy z z (fun _ d=>bn' z)<|cy z z (fun _ d=>f' 10 sc3 z z z) ?_
        obtain⟨aX,hr⟩:=hr
        refine by' hr (w' z z) (fun _ d=>cK' (Y0.mapGet1 (mk:=Value.bool) (k:=x2.id) 4044 false (fun h=>Zln h) underlying116 zv4 (MapR.mono ac d) z z z aX) (congrArg Value.bool (bdec _))) (fun a4 hr=>?_) (fun a4 hr=>?_)
        .refine cn (fun _ d=>l' z z)<|cn (fun _ d=>e' z)<|cf z z<|cf z z<|cf z z<|cs z z<|cs z z<|cs z z<|cs z z<|cs z z<|cs z z<|cs z z<|cs z z<|T' hb<|N' (u' z z) z<|sf z z z<|yy (h' z z) z<|v'<|ar'<|g'<|U' z<|sr<|sx0 z z<|j'<|a'<|m'<|a'<|a'<|m'<|ab'<|m'<|a'<|a'<|m'<|ab'<|a' (k0' hr z z)
        refine cn (fun _ d=>l' z z)<|cn (fun _ d=>e' z)<|cy z z (fun _ d=>e' z)<|by' hr (w' z z) (fun _ d=>be' z z) (fun bf hr=>?_) (fun bf hr=>?_)
        .refine cy z z (fun _ d=>e' z)<|cy z z (fun _ d=>bn' z)<|cy z z (fun _ d=>f' 10 sc3 z z z)<|cy z z (fun _ d=>e' z)<|cy z z (fun _ d=>e' z)<|cy z z (fun _ d=>bk' z z) ?_
         obtain⟨x3,aA,hr⟩:=hr
         refine cy z z (fun _ d=>V' y' aT' ((U.mono x).mono d) z z aA)<|cy z z (fun _ d=>bn' z)<|cy z z (fun _ d=>aa' sc3 z (aI' (J' (J' (aW' (ay' (af' U aA))) x) d)))<|T' hb<|gy z z (bL' z z) z<|gy z z (h' z z) z<|yy (l' z z) z<|v'<|ar'<|g'<|L' hr z (fun ba hr=>?_) (fun ba hr=>?_)
         .refine sr<|sx0 z z<|j'<|a'<|m'<|a'<|a'<|m'<|ab'<|m'<|a'<|a'<|m'<|ab'<|a' (k0' hr z z)
         refine q'<|as' A ⟨mr,hr⟩ (f10 z z z z z z z z z z) (w3 z z z)
        refine cy z z (fun _ d=>e' z)<|ct z z<|ct z z<|ct z z<|ct z z<|ct z z<|ct z z<|ct z z<|ct z z<|T' hb<|sk z z z<|gy z z (l' z z) z<|yy (l' z z) z<|v'<|ar'<|g'<|bd' z<|q'<|as' A ⟨mr,hr⟩ (f10 z z z z z z z z z z) (w3 z z z)
       rintro R ⟨M,hr⟩
       refine sr<|mv z z<|yy (bn' z) z<|yy (f' 10 sc3 z z z) z ?_
       obtain⟨⟨a9,aR⟩,hr⟩:=hr
       refine WL.mapPut (Rv':=RvS Rp.bool R) (k:=x2.id) (z:=true) 4044 z underlying116 (MapR.mono ac M) z z z z a9 z (fun _ _ _ _ h=>h) aR fun aS aN=>nr<|yy (bZ' z) z<|yy (f' 10 cG' z z z) z<|yy (aF' z) z<|yy (f' 1 bB' z z z) z<|yy (M' F' (p.mono (mx (mx (mx (mx (mx C W) af) J) x) M)) z) z ?_
       obtain⟨bk,aH,hr⟩:=hr
       refine E' z z (t' E60 z) (gx' aH) z ((aP.mono M))<|yy (al' z) z<|nx<|aL' hr z (fun aZ hr=>?_) (fun aZ hr=>?_)
       .refine sr<|sx0 z z<|j'<|m'<|a'<|a'<|m'<|ab'<|m'<|a'<|a'<|m'<|ab'<|a' (k0' hr z z)
       refine q'<|I'<|g'<|A'<|yy (W' z z) z<|mv z z<|v'<|Y' ⟨i64.wrap (q+1),(mput F x2.id true),aS,R⟩ hr ⟨(mx x M),aN⟩ (f9 z z z z z z z z z) (w2 z z)
      refine ap'<|r'<|r'<|O'<|aq' ⟨F,s,A⟩ ⟨x,ac,hr⟩ (f5 z z z z z) (w2 z z)
    rintro⟨K,D,Q⟩ ⟨ar,aD,hr⟩
    refine I'<|g'<|A'<|yy (W' z z) z<|mv z z<|v'<|Y' ⟨i64.wrap (n+1),K,D,Q⟩ hr ⟨(mx J ar),aD⟩ (f5 z z z z z) (w2 z z)
   refine ap'<|r'<|r'<|O'<|aq' y ⟨J,hr⟩ fn (wk ln)
 rintro Z ⟨bi,hr⟩
 refine g'<|sr<|sx0 z z<|j' (k0' hr z z)
theorem ea'{c r}(hr:(ZdA c).Ret r):Ctr prog 125 #[.string c] (fun G=>True) (fun G v=>v = .bool r):=by
 refine H' (args:=[_]) (N:=7) func125 z z z fun m n g j=>sr<|sg z z<|nr<|mv z z<|bc' (e:=9) (r:=Rp.str) (vs:=#[(0,.string c)]) (cs:=[.string c]++([])) ([c]:List ByteArray) z z z z z (by decide) (fun _=>by kernel_rfl) ⟨[.string c],[],z,z,z⟩ (key:=999) z (by rw[g]; rfl) fun f k i h=>yy (av' (vs:=#[(0,.slice f 1 1),(3,i' 1)]) (v:=.agg ([.slice f 1 1,.slice none 0 0,.slice none 0 0,i' 1]).toArray) z z (fun _=>by kernel_rfl)) z ?_
 obtain⟨l,d,hr⟩:=hr
 refine E' z z (t' E44 z) (ep' d) z (⟨h,(R' b' _),(R' b' _)⟩)<|sx0 z z<|j' (k0' hr z z)
theorem cM'{j o h m r}(hr:(Z8 j o).Ret r):Ctr prog 136 #[.slice h j.length m,.string o] (fun G=>sl Rp.str G h m j) (fun G v=>v=i' r):=by
 refine H' (args:=[_,_]) (N:=19) func136 z z z (fun s i C p=>?_)
 have k:=p
 refine sr<|sx0 z z<|n'<|sr<|mv z z<|yy (M' F' k z) z<|mv z z<|nx<|am' (fun (g:Mem)=>match g with|f=>[]) (fun (g:Mem)=>match g with|f=>Mem.le i f/\(Zal).Ret r) (fun (g:Mem)=>match g with|f=>St s i f []) ?_ ?_
 .refine C' ?_
  let l:(Int⊕Unit)->Prop:=fun y=>((fun x=>match x with | .inl rv1=>Cq.ret rv1 | .inr ()=>Zal:(Int⊕Unit)->Cq Int) y).wp (fun a=>a=r)
  replace hr:(Cq.loop _ _).wp l:=hr
  refine an' (Φ:=l) (fun (⟨c,d⟩:Int×Mem)=>(c:Int)) (fun ⟨c,d⟩=>[(0,.slice h j.length m),(1,.string o),(7,i' (j.length:Int)),(8,i' c)]) (fun ⟨c,d⟩=>Mem.le i d) (fun ⟨c,d⟩=>St s i d []) ⟨0,i⟩ hr (f4 z z z z) mr (wk ln) ?_
  .intro B g A hr
   obtain⟨c,d⟩:=g
   have e:=A
   refine sr<|yy (aj' z z) z<|nx<|n'<|L' hr z (fun t hr=>?_) (fun t hr=>?_)
   .refine q'<|g'<|n'<|C'<|sr<|mv z z<|sg z z<|nr<|mv z z<|mv z z<|mv z z ?_
    obtain⟨D,n,hr⟩:=hr
    refine yy (V' F' sz9 (k.mono e) z z n) z<|yy (aa' sc9 z (cd' (J' (af' k n) e))) z<|yy (Y0.eqlS bl' z z) z<|nx<|L' hr z (fun q hr=>?_) (fun q hr=>?_)
    .refine sr<|mv z z<|sx0 z z<|j'<|m'<|a'<|a'<|m'<|ab'<|a' (k0' hr z z)
    refine q'<|I'<|g'<|A'<|yy (W' z z) z<|mv z z<|v'<|Y' ⟨i64.wrap (c+1),d⟩ hr e (f4 z z z z) (wk ln)
   refine ap'<|r'<|r'<|O'<|aq' d ⟨e,hr⟩ fn (wk ln)
 rintro f ⟨u,hr⟩
 refine g'<|sr<|sx0 z z<|j' (k0' hr z z)
theorem dl'{e h c d r}(hr:(Zak e h).Ret r):Ctr prog 126 #[.slice c e.length d,.string h] (fun G=>sl Rp.str G c d e) (fun G v=>v = .bool r):=by
 refine H' (args:=[_,_]) (N:=9) func126 z z z (fun l m k f=>?_)
 have i:=f
 refine sr<|sg z z<|nr<|mv z z<|mv z z ?_
 obtain⟨j,g,hr⟩:=hr
 refine E' z z (t' E136 z) (cM' g) z (i)<|yy (bf' z z) z<|sx0 z z<|j' (k0' hr z z)
theorem fu'(d:Zc)(e:Za)(j:Nat)(m:Nat)(r:Bool)(hr:(ZaH d e).Ret r):Ctr prog 124 #[pt0 j,pt0 m] (fun G=>At Z' G j 0 d/\At aR' G m 0 e) (fun G v=>v = .bool r):=by
 refine H' (args:=[_,_]) (N:=14) func124 z z z (fun u s q h=>?_)
 obtain⟨c,f⟩:=h
 refine sr<|sg z z<|nr<|yy (cc' z) z<|yy (aa' sc9 z (cd' (aW' (ax' (ay' c))))) z ?_
 obtain⟨k,i,hr⟩:=hr
 refine E' z z (t' E125 z) (ea' i) z (trivial) ?_
 cases k
 .refine mv z z<|sn6 z<|yy (l' z z) z<|sx0 z z<|j' (k0' hr z z)
 refine mv z z<|gy z z (aF' z) z ?_
 obtain⟨t,p,l,n⟩:=bG' (aW' (ay' f))
 refine gy z z (aa' bB' z (l)) z<|gy z z (cc' z) z<|gy z z (aa' sc9 z (cd' (aW' (ax' (ay' c))))) z ?_
 obtain⟨o,g,hr⟩:=hr
 refine E' (w' z z) z (t' E126 z) (dl' g) z (n)<|gy z z (al' z) z<|yy (h' z z) z<|sx0 z z<|j' (k0' hr z z)
theorem cT'{n m l r}(hr:(ZA n).Ret r):Ctr prog 120 #[.slice m n.length l] (fun G=>sl (Rp.fn prog fa0 foI) G m l n) (fun G v=>v=i' r):=by
 refine H' (args:=[_]) (N:=18) func120 z z z (fun A j K q=>?_)
 have i:=q
 refine sr<|sx0 z z<|n'<|sr<|mv z z<|yy (M' underlying203 i z) z<|mv z z<|nx<|am' (fun (g:Mem)=>match g with|f=>[]) (fun (g:Mem)=>match g with|f=>Mem.le j f/\(ZdX).Ret r) (fun (g:Mem)=>match g with|f=>St A j f []) ?_ ?_
 .refine C' ?_
  let k:(Int⊕Unit)->Prop:=fun F=>((fun E=>match E with | .inl rv1=>Cq.ret rv1 | .inr ()=>ZdX:(Int⊕Unit)->Cq Int) F).wp (fun a=>a=r)
  replace hr:(Cq.loop _ _).wp k:=hr
  refine an' (Φ:=k) (fun (⟨c,e⟩:Int×Mem)=>(c:Int)) (fun ⟨c,e⟩=>[(6,.slice m n.length l),(7,i' (n.length:Int)),(8,i' c)]) (fun ⟨c,e⟩=>Mem.le j e) (fun ⟨c,e⟩=>St A j e []) ⟨0,j⟩ hr (f3 z z z) mr (wk ln) ?_
  .intro J g H hr
   obtain⟨c,e⟩:=g
   have d:=H
   refine sr<|yy (aj' z z) z<|nx<|n'<|L' hr z (fun B hr=>?_) (fun B hr=>?_)
   .refine q'<|g'<|n'<|C'<|sr ?_
    obtain⟨M,p,hr⟩:=hr
    refine yy (V' underlying203 sz178 (i.mono d) z z p) z ?_
    obtain⟨L,x,t⟩:=AtK.fnv (J' (af' i p) d)
    refine yy (aa' sc178 z (x)) z<|sg z z<|nr<|mv z z ?_
    obtain⟨I,s,hr⟩:=hr
    refine WL.callFn (vs:=[]) (a:=()) z z t z z z s (fun D u o h=>?_)
    subst h
    refine sg z z<|nr<|mv z z<|yy (aw' z z) z<|nx<|L' hr z (fun y hr=>?_) (fun y hr=>?_)
    .refine sr<|mv z z<|sx0 z z<|j'<|m'<|a'<|a'<|m'<|ab'<|a' (k0' hr z z)
    refine q'<|I'<|g'<|A'<|yy (W' z z) z<|mv z z<|v'<|Y' ⟨i64.wrap (c+1),u⟩ hr (mx d o) (f3 z z z) (wk ln)
   refine ap'<|r'<|r'<|O'<|aq' e ⟨d,hr⟩ fn (wk ln)
 rintro f ⟨C,hr⟩
 refine g'<|sr<|sx0 z z<|j' (k0' hr z z)
theorem eg'{r}(hr:(Zbx).Ret r):Ctr prog 127 #[] (fun G=>True) (fun G v=>v = .agg (vecG (Value.int .i64) 8 r).toArray):=by
 refine H' (args:=[]) (N:=10) func127 z z z fun n j D s=>sr<|Q' 0 z z119 z fun l=>nx<|n'<|sr<|mv z z<|nx<|am' (fun (⟨e,g⟩:(Fin 8->Int)×Mem)=>[(0,pt0 l)]) (fun ⟨e,g⟩=>Mem.le j g/\(Zci e).Ret r) (fun ⟨e,g⟩=>St n j g [(0,bk0 l (vecG (Value.int .i64) 8 e) 119)]) ?_ ?_
 .refine C' ?_
  let k:(Fin 8->Int)->Prop:=fun A=>((fun t=>match t with|e=>Zci e:(Fin 8->Int)->Cq (Fin 8->Int)) A).wp (fun a=>a=r)
  replace hr:(Cq.loop _ _).wp k:=hr
  refine an' (Φ:=k) (fun (⟨c,d,f⟩:Int×(Fin 8->Int)×Mem)=>((c,d):Int×(Fin 8->Int))) (fun ⟨c,d,f⟩=>[(0,pt0 l),(2,i' c)]) (fun ⟨c,d,f⟩=>Mem.le j f) (fun ⟨c,d,f⟩=>St n j f [(0,bk0 l (vecG (Value.int .i64) 8 d) 119)]) ⟨0,(fun _=>0),j⟩ hr (f2 z z) mr (w1 z) ?_
  .intro C y B hr
   obtain⟨c,d,f⟩:=y
   have h:=B
   refine sr<|yy (aj' z z) z<|nx<|n'<|L' hr z (fun p hr=>?_) (fun p hr=>?_)
   .refine q'<|g'<|n'<|C'<|sr<|mv z z<|sx0 z z<|A'<|mv z z<|mv z z ?_
    obtain⟨m,hr⟩:=hr
    refine yy (bj' bg' sz3 z z m) z<|aD' 0 (vecG (Value.int .i64) 8 (setF d c.toNat c)).toArray z sz3 z z z (by first|(rw[ae']; omega)|(show _<(vecG _ _ _).toArray.size; rw[ae']; omega)) z (cj' _ _ _ _ _)<|v'<|I'<|g'<|A'<|yy (W' z z) z<|mv z z<|v'<|Y' ⟨i64.wrap (c+1),setF d c.toNat c,f⟩ hr h (f2 z z) (w1 z)
   refine ap'<|r'<|r'<|O'<|aq' ⟨d,f⟩ ⟨h,hr⟩ (f1 z) (w1 z)
 rintro⟨e,g⟩ ⟨q,hr⟩
 refine g'<|sr<|yy (o' 0 ag119 z z (ae' _ _ _)) z<|s' 0 z sz119 z z z (ae' _ _ _) (ae' _ _ _) (fun u o=>Rp.one (dz' .i64 8) (G:=g) (x:=e) (cs:=vecG (Value.int .i64) 8 e) z u (by first|simpa using o|simpa [Value.cells] using o))<|nx<|j' ?_
 obtain rfl:_=r:=hr
 exact k' z (ad' (i:=0) ag119 z z (ae' _ _ _)) z
theorem fF'{n r}(hr:(Zfa n).Ret r):Ctr prog 230 #[.int .u64 n] (fun G=>True) (fun G v=>v=i' r):=by
 refine H' (args:=[_]) (N:=25) func230 z z z fun m l B A=>sr<|sx0 z z<|aM' (fun (⟨h,i,d⟩:Int×Int×Mem)=>[(0,.int .u64 h),(2,i' i)]) (fun ⟨h,i,d⟩=>Mem.le l d/\(ZdN h i).Ret r) (fun ⟨h,i,d⟩=>St m l d []) ?_ ?_
 .refine sr<|mv z z<|yy (bf' z z) z<|nx<|L' hr z (fun q hr=>?_) (fun q hr=>?_)
  .exact (show False from hr).elim
  refine q'<|as' ⟨n,0,l⟩ ⟨mr,hr⟩ (f2 z z) (wk ln)
 rintro⟨h,i,d⟩ ⟨u,hr⟩
 refine aM' (fun (⟨f,g,c⟩:Int×Int×Mem)=>[(0,.int .u64 f),(2,i' g)]) (fun ⟨f,g,c⟩=>Mem.le d c/\(ZdM f g).Ret r) (fun ⟨f,g,c⟩=>St m l c []) ?_ ?_
 .refine sr<|mv z z<|yy (bf' z z) z<|nx<|L' hr z (fun p hr=>?_) (fun p hr=>?_)
  .exact (show False from hr).elim
  refine q'<|as' ⟨h,i,d⟩ ⟨mr,hr⟩ (f2 z z) (wk ln)
 rintro⟨f,g,c⟩ ⟨y,hr⟩
 refine aM' (fun (⟨j,k,e⟩:Int×Int×Mem)=>[(0,.int .u64 j),(2,i' k)]) (fun ⟨j,k,e⟩=>Mem.le c e/\(ZdL j k).Ret r) (fun ⟨j,k,e⟩=>St m l e []) ?_ ?_
 .refine sr<|mv z z<|yy (bf' z z) z<|nx<|L' hr z (fun t hr=>?_) (fun t hr=>?_)
  .exact (show False from hr).elim
  refine q'<|as' ⟨f,g,c⟩ ⟨mr,hr⟩ (f2 z z) (wk ln)
 rintro⟨j,k,e⟩ ⟨x,hr⟩
 refine sr<|mv z z<|mv z z<|yy (aN' az' aP' z) z ?_
 obtain⟨o,hr⟩:=hr
 refine yy (dQ' (s:=ZeR) bl' z z o) z<|yy (aN' aP' aA' z) z<|yy (W' z z) z<|sx0 z z<|j' (k0' hr z z)
theorem gd'{d r}(hr:(Zb9 d).Ret r):Ctr prog 220 #[.int .u64 d] (fun G=>True) (fun G v=>v=i' r):=by
 refine H' (args:=[_]) (N:=8) func220 z z z fun h i g e=>sr<|sx0 z z<|n'<|bd' z<|q'<|g'<|sr<|mv z z ?_
 obtain⟨f,c,hr⟩:=hr
 refine E' z z (t' E230 z) (fF' c) z (trivial)<|sx0 z z<|j' (k0' hr z z)
theorem cN'{t f e j h r}(hr:(ZC t).Ret r):CtrL prog 210 #[.slice f j e,.func (.func 211) #[] #[]] [(5000,h)] (fun G=>RowR K' 133 G (.slice f j e) t h) (fun G L v=>∃ k,L=[(5000,k)]/\v = .tuple #[]/\RowR K' 133 G (.slice f j e) r k):=by
 refine bh' (args:=[_,_]) (N:=14) func210 z z z (fun q A u m=>?_)
 have d:=m
 have hz:q.L.zero:=by
  rw[u]; intro p o x B
  simp only[List.mem_cons,List.not_mem_nil,or_false] at o
  subst o; exact RowR.zero d B
 refine sr<|mv z z<|yy (dD' ak' d z) z<|sx0 z z<|A'<|mv z z<|mv z z<|mv z z<|yy (aN' aA' dR' z) z ?_
 obtain⟨F,n,hr⟩:=hr
 refine E' z z (t' E220 z) (gd' n) z (trivial)<|mv z z ?_
 obtain⟨E,l,hr⟩:=hr
 refine cw' z z (t' E219 z) (cV' l) z (d) (lc z ln) hz (fun D s C y c=>?_)
 obtain⟨i,rfl,rfl,g⟩:=c
 refine v'<|WE.retN ?_
 obtain rfl:_=r:=hr
 refine aE' (S':=St q A s [(5000,i)]) (w1 z)<|WE.ret0 z  ⟨_,z,z,g⟩
theorem fm'{A t h r}(hr:(Zb2 A).Ret r):CtrL prog 195 #[.map (some t)] [(5500,h)] (fun G=>MapR ky120 (RvA eh' G) (.map (some t)) A h) (fun G L v=>L=[(5500,h)]/\(∃ zp zc,v = .slice zp r.length zc/\sl K' G zp zc r)):=by
 refine bh' (args:=[_]) (N:=28) func195 z z z (fun w0 U J al=>?_)
 have C:=al
 have hz:w0.L.zero:=by
  rw[J]; intro p hp x hx
  simp only[List.mem_cons,List.not_mem_nil,or_false] at hp
  subst hp; exact MapR.zero C hx
 refine sr<|sg z z<|nr<|mv z z<|yy (Y0.lenM 5500 ex' C z z) z ?_
 obtain⟨am,hr⟩:=hr
 refine WL.makeC (r:=K') (e:=133) (n:=(A.length:Int)) 4008 z z ak' el133 z (by decide) z z am fun p1 aC ae aw=>sx0 z z<|n'<|sr<|mv z z<|WL.rangeM 5500 4010 z z ex' C z z fun ac aa ah=>nx<|am' (fun (⟨B,I,H,y,K⟩:(List Ze)×Option Addr×Nat×Option Ow×Mem)=>[(3,.slice I B.length H),(0,.map (some t))]) (fun ⟨B,I,H,y,K⟩=>Mem.le U K/\RowR K' 133 K (.slice I B.length H) B y/\(Zbq B).Ret r) (fun ⟨B,I,H,y,K⟩=>St w0 U K [(4003,y),(5500,h)]) ?_ ?_
 .refine C' ?_
  let X:(List Ze)->Prop:=fun oo=>((fun ov=>match ov with|B=>Zbq B:(List Ze)->Cq (List Ze)) oo).wp (fun a=>a=r)
  replace hr:(Cq.loop _ _).wp X:=hr
  refine an' (Φ:=X) (fun (⟨m,q,o,l,S,D,s⟩:(List Ze)×Option Addr×Nat×Option Ow×List ((Fin 8->Int)×Zm)×Option Ow×Mem)=>((m,S):(List Ze)×List ((Fin 8->Int)×Zm))) (fun ⟨m,q,o,l,S,D,s⟩=>[(3,.slice q m.length o),(0,.map (some t)),(10,ac)]) (fun ⟨m,q,o,l,S,D,s⟩=>Mem.le U s/\RowR K' 133 s (.slice q m.length o) m l/\IterR ky120 (RvA eh' s) h ac S none D) (fun ⟨m,q,o,l,S,D,s⟩=>St w0 U s [(4003,l),(5500,h),(4010,D)]) ⟨([]:List Ze),p1,aC,ae,A,aa,U⟩ hr (f3 z z z) ⟨mr,aw,(IterR.forget ah)⟩ ?_ ?_
  .intro w Q
   have Q:=Q.rekey (i:=4008) (j:=4003) z (by rw[J]; rfl)
   exact Q.weaken (lc z (lc z (lc z ln)))
  intro aW gx hx hr
  obtain⟨m,q,o,l,S,D,s⟩:=gx
  obtain⟨M,P,an⟩:=hx
  refine sr<|WL.nextM 5500 4010 z z an z z z (fun Ra k Rb V Z R aP aR=>?_) (fun Z=>?_)
  .replace hr:=hr.2 _ _ _ Z
   generalize Ra++Rb=R2 at hr R
   refine yy (x' z z) z<|nx<|n'<|U' z<|q'<|g'<|C'<|sr<|WL.entryM 5500 4010 z z R z z z (fun u1 aA aV=>?_)
   obtain⟨a0,rfl,aD⟩:=aA
   obtain⟨c,g,f,d,rfl,F,E⟩:=ZmU aD
   refine yy (x' z z) z<|yy (x' z z) z<|Q' 4 z z120 z fun b1=>Q' 5 z z130 z fun b2=>s' 4 z sz120 z z z (ae' _ _ _) (ae' _ _ _) (fun u hu=>Rp.one (dz' .i64 8) (G:=s) (x:=k.1) (cs:=vecG (Value.int .i64) 8 k.1) z u (by first|simpa using hu|simpa [Value.cells] using hu))<|s' 5 z sz130 z z z z z (List.all_eq_true.1 z)<|nr<|yy (o' 5 cR' z z z) z ?_
   obtain⟨aX,aj,hr⟩:=hr
   refine E' z z (t' E107 z) (eQ' aj) z (⟨F,E⟩)<|yy (aw' z z) z<|nx<|L' hr z (fun aE hr=>?_) (fun aE hr=>?_)
   .refine A'<|mv z z<|yy (o' 5 cR' z z z) z<|yy (o' 4 bW' z z (ae' _ _ _)) z<|yy (av' (vs:=#[(0,.agg ((v130' k.2 c g f d)).toArray),(1,.agg (vecG (Value.int .i64) 8 k.1).toArray)]) (v:=.agg (((v130' k.2 c g f d):List Value)++(vecG (Value.int .i64) 8 k.1)).toArray) z z (fun _=>by kernel_rfl)) z<|bc' (e:=133) (r:=K') (vs:=#[(0,.agg (((v130' k.2 c g f d):List Value)++(vecG (Value.int .i64) 8 k.1)).toArray)]) (cs:=(((v130' k.2 c g f d):List Value)++(vecG (Value.int .i64) 8 k.1))++([])) ([(Ze.mk k.2 k.1)]:List Ze) z z z z z (by decide) (fun _=>by kernel_rfl) ⟨((v130' k.2 c g f d):List Value)++(vecG (Value.int .i64) 8 k.1),[],z,⟨(v130' k.2 c g f d),vecG (Value.int .i64) 8 k.1,z,⟨(v128' k.2.num c g),(v128' k.2.den f d),z,⟨[.bool k.2.num.neg],[.slice c k.2.num.mag.length g],z,z,⟨_,z,F⟩⟩,⟨[.bool k.2.den.neg],[.slice f k.2.den.mag.length d],z,z,⟨_,z,E⟩⟩⟩,z⟩,z⟩ (key:=999) z (by rw[J]; rfl) (fun p2 ao O ay=>?_)
    obtain⟨ag,hr⟩:=hr
    refine cr' (r:=K') (e:=133) 4003 z z ak' el133 z (by decide) z z (P.mono O) z ay ag fun p3 au ad ax=>sg z z<|v'<|I'<|Y' ⟨(m++[(Ze.mk k.2 k.1)]),p3,au,ad,R2,V,ao⟩ hr ⟨(mx M O),ax,(IterR.forget (IterR.monoA R O))⟩ (f3 z z z) (w3 z z z)
   refine q'<|I'<|Y' ⟨m,q,o,l,R2,V,s⟩ hr ⟨M,P,(IterR.forget R)⟩ (f3 z z z) (w3 z z z)
  replace hr:=hr.1 Z
  refine yy (x' z z) z<|nx<|n'<|bd' z<|ap'<|r'<|r'<|O'<|aq' ⟨m,q,o,l,s⟩ ⟨M,P,hr⟩ (f2 z z) (w2 z z)
 rintro⟨B,I,H,y,K⟩ ⟨aG,ak,hr⟩
 refine g'<|sr<|mv z z ?_
 obtain⟨aZ,ai,hr⟩:=hr
 refine bH' (fun w Q=>Q.rekey (i:=4003) (j:=5000) z (by rw[J]; rfl))<|cw' z z (t' E210 z) (cN' ai) z (ak) (lc z ln) hz (fun aQ aY aM aI T=>?_)
 obtain⟨av,rfl,rfl,W⟩:=T
 refine bH' (fun w Q=>Q.rekey (i:=5000) (j:=4003) z (by rw[J]; rfl))<|nr<|mv z z<|sx0 z z<|j' ?_
 obtain rfl:_=r:=hr
 refine WE.freezeT (r:=K') (e:=133) 4003 W z (by rw[J]; rfl) fun aU ap aF Y aH=>aE' (S':=St w0 U ap [(5500,h)]) (w1 z)<|k' z z ⟨z,⟨_,_,(dm' Y),(df' Y)⟩⟩
theorem eZ'{F g O P r}(hr:(ZbN F g).Ret r):Ctr prog 169 #[.slice O F.length P,.agg (vecG (Value.int .i64) 8 g).toArray] (fun G=>sl K' G O P F) (wlt' K' r):=by
 refine H' (args:=[_,_]) (N:=59) func169 z z z (fun X W ad aA=>?_)
 have ae:=aA
 have hz:X.L.zero:=by rw[ad]; intro p hp; simp at hp
 refine sr<|ag' 3 z z z fun R=>sg z z<|sg z z<|nr<|Q' 6 z z216 z fun b2=>nx<|n'<|sr<|yy (o' 3 ag119 z z (ae' _ _ _)) z<|mv z z<|nx<|am' (fun (o:Mem)=>match o with|D=>[(0,.slice O F.length P),(3,pt0 R)]) (fun (o:Mem)=>match o with|D=>Mem.le W D/\(Zaw F g).Ret r) (fun (o:Mem)=>match o with|D=>St X W D [(3,bk0 R (vecG (Value.int .i64) 8 g) 119)]) ?_ ?_
 .refine C' ?_
  let ah:(((List Ze)×Int)⊕Unit)->Prop:=fun oo=>((fun ov=>match ov with | .inl rv1=>Cq.ret rv1 | .inr ()=>Zaw F g:(((List Ze)×Int)⊕Unit)->Cq ((List Ze)×Int)) oo).wp (fun a=>a=r)
  replace hr:(Cq.loop _ _).wp ah:=hr
  refine an' (Φ:=ah) (fun (⟨q,I,J⟩:Int×(Fin 8->Bool)×Mem)=>((q,I):Int×(Fin 8->Bool))) (fun ⟨q,I,J⟩=>[(0,.slice O F.length P),(3,pt0 R),(6,pt0 b2),(15,.agg (vecG (Value.int .i64) 8 g).toArray),(16,i' q)]) (fun ⟨q,I,J⟩=>Mem.le W J) (fun ⟨q,I,J⟩=>St X W J [(3,bk0 R (vecG (Value.int .i64) 8 g) 119),(6,bk0 b2 (vecG Value.bool 8 I) 216)]) ⟨0,(fun _=>false),W⟩ hr (f5 z z z z z) mr (w2 z z) ?_
  .intro aX o hx hr
   obtain⟨q,I,J⟩:=o
   have Z:=hx
   refine sr<|yy (aj' z z) z<|nx<|n'<|L' hr z (fun aI hr=>?_) (fun aI hr=>?_)
   .refine q'<|g'<|n'<|C'<|sr ?_
    obtain⟨ap,hr⟩:=hr
    refine yy (Y0.index bg' sc3 sz3 z z ap (bi' _ _ _ ap)) z<|sx0 z z<|n'<|sr<|mv z z<|ac' hr z (aj' z z) z (fun aO hr=>?_) (fun aO hr=>?_)
    .refine mv z z<|sn2 z<|yy (h' z z) z<|mv z z<|sn3 z<|yy (h' z z) z<|nx<|U' z<|sr<|sg z z<|sx0 z z<|j'<|a'<|m'<|a'<|a'<|m'<|ab'<|a' ?_
     obtain rfl:_=r:=hr
     exact aH' z z z ⟨_,_,z,(R' K' _)⟩
    refine mv z z<|gy z z (e' z) z<|ac' hr (w' z z) (bf' z z) z (fun aH hr=>?_) (fun aH hr=>?_)
    .refine yy (l' z z) z<|mv z z<|sn3 z<|yy (h' z z) z<|nx<|U' z<|sr<|sg z z<|sx0 z z<|j'<|a'<|m'<|a'<|a'<|m'<|ab'<|a' ?_
     obtain rfl:_=r:=hr
     exact aH' z z z ⟨_,_,z,(R' K' _)⟩
    refine yy (l' z z) z<|mv z z<|gy z z (e' z) z ?_
    obtain⟨aq,hr⟩:=hr
    refine gy z z (bj' dS' sz4 z z aq) z<|gy z z (f' 6 sc4 z z (bi' _ _ _ aq)) z<|yy (l' z z) z<|nx<|aL' hr z (fun aF hr=>?_) (fun aF hr=>?_)
    .exact (show False from hr).elim
    refine q'<|g'<|A'<|mv z z ?_
    obtain⟨aE,hr⟩:=hr
    refine yy (bj' dS' sz4 z z aE) z<|aD' 6 (vecG Value.bool 8 (setF I ((getF g q).toNat) true)).toArray z sz4 z z z (by first|(rw[ae']; omega)|(show _<(vecG _ _ _).toArray.size; rw[ae']; omega)) z (cj' _ _ _ _ _)<|v'<|I'<|g'<|A'<|yy (W' z z) z<|mv z z<|v'<|Y' ⟨i64.wrap (q+1),setF I ((getF g q).toNat) true,J⟩ hr Z (f5 z z z z z) (w2 z z)
   refine ap'<|r'<|r'<|O'<|aq' J ⟨Z,hr⟩ (f2 z z) (w1 z)
 rintro D ⟨V,hr⟩
 refine g'<|sr<|WL.makeMap (ky:=ky120) (Rv:=RvA eh' D) 4033 z z fun S ak au=>sx0 z z<|n'<|sr<|mv z z<|yy (M' ak' (ae.mono V) z) z<|mv z z<|nx<|am' (fun (o:(List ((Fin 8->Int)×Zm))×Option Ow×Mem)=>match o with|⟨Q,y,T⟩=>[(9,.map (some S))]) (fun (o:(List ((Fin 8->Int)×Zm))×Option Ow×Mem)=>match o with|⟨Q,y,T⟩=>Mem.le D T/\MapR ky120 (RvA eh' T) (.map (some S)) Q y/\(Zbb Q).Ret r) (fun (o:(List ((Fin 8->Int)×Zm))×Option Ow×Mem)=>match o with|⟨Q,y,T⟩=>St X W T [(4033,y)]) ?_ ?_
 .refine C' ?_
  let U:(((List ((Fin 8->Int)×Zm))))->Prop:=fun oo=>((fun ov=>match ov with|Q=>Zbb Q:(((List ((Fin 8->Int)×Zm))))->Cq ((List Ze)×Int)) oo).wp (fun a=>a=r)
  replace hr:(Cq.loop _ _).wp U:=hr
  refine an' (Φ:=U) (fun (o:Int×(List ((Fin 8->Int)×Zm))×Option Ow×Mem)=>match o with|⟨m,v,s,t⟩=>((m,v):Int×(List ((Fin 8->Int)×Zm)))) (fun (o:Int×(List ((Fin 8->Int)×Zm))×Option Ow×Mem)=>match o with|⟨m,v,s,t⟩=>[(3,pt0 R),(34,.slice O F.length P),(35,i' (F.length:Int)),(36,i' m),(9,.map (some S))]) (fun (o:Int×(List ((Fin 8->Int)×Zm))×Option Ow×Mem)=>match o with|⟨m,v,s,t⟩=>Mem.le D t/\MapR ky120 (RvA eh' t) (.map (some S)) v s) (fun (o:Int×(List ((Fin 8->Int)×Zm))×Option Ow×Mem)=>match o with|⟨m,v,s,t⟩=>St X W t [(3,bk0 R (vecG (Value.int .i64) 8 g) 119),(4033,s)]) ⟨0,[],ak,D⟩ hr (f5 z z z z z) ⟨mr,au⟩ (w2 z z) ?_
  .intro an o hx hr
   obtain⟨m,v,s,t⟩:=o
   obtain⟨K,ab⟩:=hx
   refine sr<|yy (aj' z z) z<|nx<|n'<|L' hr z (fun aP hr=>?_) (fun aP hr=>?_)
   .refine q'<|g'<|n'<|C'<|sr ?_
    obtain⟨l,ar,hr⟩:=hr
    refine yy (V' ak' ch' (ae.mono (mx V K)) z z ar) z ?_
    obtain⟨c,e,f,d,aD,B,E⟩:=dr' (J' (af' ae ar) (mx V K))
    refine yy (aC' _ ag133 z z aD) z<|Q' 11 z z133 z fun b3=>s' 11 z ch' z z z z z (fun u hu=>Rp.one K' (G:=t) (x:=l) (cs:=((v130' l.c c e f d):List Value)++(vecG (Value.int .i64) 8 l.m)) ⟨(v130' l.c c e f d),vecG (Value.int .i64) 8 l.m,z,⟨(v128' l.c.num c e),(v128' l.c.den f d),z,⟨[.bool l.c.num.neg],[.slice c l.c.num.mag.length e],z,z,⟨_,z,B⟩⟩,⟨[.bool l.c.den.neg],[.slice f l.c.den.mag.length d],z,z,⟨_,z,E⟩⟩⟩,z⟩ u (by first|simpa using hu|simpa [Value.cells] using hu))<|nr<|Q' 12 z z120 z fun b4=>nx<|n'<|sr<|yy (bD' z) z<|yy (aJ' (vecG (Value.int .i64) 8 l.m).toArray 11 bW' z z (ae' _ _ _) (aU' ((v130' l.c c e f d)) (vecG (Value.int .i64) 8 l.m) ([]))) z<|mv z z<|nx<|am' (fun (⟨A,M⟩:(Fin 8->Int)×Mem)=>[(3,pt0 R),(11,pt0 b3),(12,pt0 b4),(34,.slice O F.length P),(35,i' (F.length:Int)),(36,i' m),(9,.map (some S))]) (fun ⟨A,M⟩=>Mem.le t M/\(Zbc m v l A).wp (Out an U)) (fun ⟨A,M⟩=>St X W M [(3,bk0 R (vecG (Value.int .i64) 8 g) 119),(11,bk0 b3 (((v130' l.c c e f d):List Value)++(vecG (Value.int .i64) 8 l.m)) 133),(12,bk0 b4 (vecG (Value.int .i64) 8 A) 120),(4033,s)]) ?_ ?_
    .refine C' ?_
     let ag:(Fin 8->Int)->Prop:=fun oo=>((fun ov=>match ov with|A=>Zbc m v l A:(Fin 8->Int)->Cq ((Int×(List ((Fin 8->Int)×Zm)))⊕(((List ((Fin 8->Int)×Zm)))))) oo).wp (Out an U)
     replace hr:(Cq.loop _ _).wp ag:=hr
     refine an' (Φ:=ag) (fun (⟨n,C,H⟩:Int×(Fin 8->Int)×Mem)=>((n,C):Int×(Fin 8->Int))) (fun ⟨n,C,H⟩=>[(3,pt0 R),(11,pt0 b3),(12,pt0 b4),(34,.slice O F.length P),(35,i' (F.length:Int)),(36,i' m),(41,.agg (vecG (Value.int .i64) 8 l.m).toArray),(42,i' n),(9,.map (some S))]) (fun ⟨n,C,H⟩=>Mem.le t H) (fun ⟨n,C,H⟩=>St X W H [(3,bk0 R (vecG (Value.int .i64) 8 g) 119),(11,bk0 b3 (((v130' l.c c e f d):List Value)++(vecG (Value.int .i64) 8 l.m)) 133),(12,bk0 b4 (vecG (Value.int .i64) 8 C) 120),(4033,s)]) ⟨0,(fun _=>0),t⟩ hr (f9 z z z z z z z z z) mr (w4 z z z z) ?_
     .intro aW o hx hr
      obtain⟨n,C,H⟩:=o
      have Y:=hx
      refine sr<|yy (aj' z z) z<|nx<|n'<|L' hr z (fun aG hr=>?_) (fun aG hr=>?_)
      .refine q'<|g'<|n'<|C'<|sr<|mv z z ?_
       obtain⟨ao,hr⟩:=hr
       refine yy (Y0.index aO' sc3 sz3 z z ao (bi' _ _ _ ao)) z<|sg z z<|sx0 z z<|A'<|mv z z ?_
       obtain⟨am,hr⟩:=hr
       refine yy (bj' bg' sz3 z z am) z<|yy (f' 3 sc3 z z (bi' _ _ _ am)) z<|mv z z ?_
       obtain⟨aN,hr⟩:=hr
       refine yy (bj' aO' sz3 z z aN) z<|aD' 12 (vecG (Value.int .i64) 8 (setF C ((getF g n).toNat) (getF l.m n))).toArray z sz3 z z z (by first|(rw[ae']; omega)|(show _<(vecG _ _ _).toArray.size; rw[ae']; omega)) z (cj' _ _ _ _ _)<|v'<|I'<|g'<|A'<|yy (W' z z) z<|mv z z<|v'<|Y' ⟨i64.wrap (n+1),setF C ((getF g n).toNat) (getF l.m n),H⟩ hr Y (f9 z z z z z z z z z) (w4 z z z z)
      refine ap'<|r'<|r'<|O'<|aq' ⟨C,H⟩ ⟨Y,hr⟩ (f7 z z z z z z z) (w4 z z z z)
    rintro⟨A,M⟩ ⟨L,hr⟩
    refine g'<|A'<|mv z z<|yy (o' 12 bW' z z (ae' _ _ _)) z<|yy (cQ' z) z<|yy (aJ' ((v130' l.c c e f d)).toArray 11 cR' z z z (aU' ([]) ((v130' l.c c e f d)) ((vecG (Value.int .i64) 8 l.m)))) z ?_
    obtain⟨⟨aL,aB⟩,hr⟩:=hr
    refine WL.mapPut (Rv':=RvA eh' M) (k:=A) (z:=l.c) 4033 z ex' (MapR.monoA ab L) z z z z aL ⟨(v130' l.c c e f d),z,⟨(v128' l.c.num c e),(v128' l.c.den f d),z,⟨[.bool l.c.num.neg],[.slice c l.c.num.mag.length e],z,z,⟨_,z,(B.mono L)⟩⟩,⟨[.bool l.c.den.neg],[.slice f l.c.den.mag.length d],z,z,⟨_,z,(E.mono L)⟩⟩⟩⟩ (fun _ _ _ _ h=>h) aB fun aC az=>v'<|I'<|g'<|A'<|yy (W' z z) z<|mv z z<|v'<|Y' ⟨i64.wrap (m+1),(mput v A l.c),aC,M⟩ hr ⟨(mx K L),az⟩ (f5 z z z z z) (w2 z z)
   refine ap'<|r'<|r'<|O'<|aq' ⟨v,s,t⟩ ⟨K,ab,hr⟩ (f1 z) (w1 z)
 rintro⟨Q,y,T⟩ ⟨aQ,ax,hr⟩
 refine g'<|sr<|mv z z ?_
 obtain⟨aZ,aw,hr⟩:=hr
 refine bH' (fun w hs=>hs.rekey (i:=4033) (j:=5500) z (by rw[ad]; rfl))<|WL.callRO z z (t' E195 z) (fm' aw) z (ax) (lc z ln) (fun i hi=>by simp only[List.map_cons,List.map_nil,List.mem_cons,List.not_mem_nil,or_false] at hi; subst hi; exact z) hz (fun aT aY aR aa=>?_)
 obtain⟨aV,aS,rfl,ay⟩:=aa
 refine bH' (fun w hs=>hs.rekey (i:=5500) (j:=4033) z (by rw[ad]; rfl))<|sg z z<|sx0 z z<|j' ?_
 obtain rfl:_=r:=hr
 exact aH' z z z ⟨_,_,z,ay⟩
theorem fG'{h c e k n r}(hr:(Ze5 h c).Ret r):CtrL prog 168 #[.agg ((v110' h.id e h.p k)).toArray,pt0 n] [(125603,bk0 n (vecG (Value.int .i64) 8 c) 119)] (fun G=>sl K' G e k h.p) (fun G L v=>L=[(125603,bk0 n (vecG (Value.int .i64) 8 c) 119)]/\(∃ l m,v = .agg ((v110' r.id l r.p m)).toArray/\sl K' G l m r.p)):=by
 refine bh' (args:=[_,_]) (N:=13) func168 z z z (fun C B y o=>?_)
 have p:=o
 refine sr<|ag' 2 z z z fun D=>Q' 3 z z110 z fun A=>nr<|yy (bZ' z) z<|yy (f' 2 cG' z z z) z<|yy (o' 125603 ag119 z z (ae' _ _ _)) z ?_
 obtain⟨s,q,hr⟩:=hr
 refine P' z z (t' E169 z) (eZ' q) z (p) (fun u x t d=>?_)
 obtain⟨g,f,rfl,j⟩:=d
 refine mv z z<|yy (x' z z) z<|yy (x' z z) z<|yy (bZ' z) z<|aD' 2 ([i' h.id,.slice g s.1.length f]).toArray z sz46 z z z (show 1<2 by decide) z z<|nr<|yy (o' 2 bO' z z z) z<|s' 3 z aT' z z z z z (List.all_eq_true.1 z)<|nx<|j' ?_
 obtain rfl:_=r:=hr
 exact di' z (ad' (i:=3) bO' z z z) (lc z ln) ⟨z,⟨_,_,z,j⟩⟩
theorem cy'{f h I H t r}(hr:(ZH f h).Ret r):CtrL prog 145 #[.slice I f.length H,.func (.func 168) #[] #[pt0 t]] [(125603,bk0 t (vecG (Value.int .i64) 8 h) 119)] (fun G=>sl b' G I H f) (fun G L v=>L=[(125603,bk0 t (vecG (Value.int .i64) 8 h) 119)]/\(∃ zp zc,v = .slice zp r.length zc/\sl b' G zp zc r)):=by
 refine bh' (args:=[_,_]) (N:=26) func145 z z z (fun K D Q T=>?_)
 have y:=T
 have hz:K.L.zero:=by
  rw[Q]; intro p hp x U
  simp only[List.mem_cons,List.not_mem_nil,or_false] at hp
  subst hp; cases U; rfl
 refine sr<|sg z z<|nr<|mv z z<|yy (M' y' y z) z ?_
 obtain⟨Z,hr⟩:=hr
 refine dT' (r:=b') (e:=110) (n:=(f.length:Int)) (zx:=(Zb.mk 0 [])) 4010 z z y' el110 z (by decide) (by decide) ⟨[i' 0],[.slice none 0 0],z,z,⟨_,z,(R' _ _)⟩⟩ z z Z fun J S ag=>sx0 z z<|n'<|sr<|mv z z<|yy (M' y' y z) z<|mv z z<|nx<|am' (fun (⟨m,g,q⟩:(List Zb)×Option Ow×Mem)=>[(5,.slice J (f.length:Int).toNat ((f.length:Int).toNat))]) (fun ⟨m,g,q⟩=>Mem.le D q/\RowR b' 110 q (.slice J (f.length:Int).toNat ((f.length:Int).toNat)) m g/\(ZN m).Ret r) (fun ⟨m,g,q⟩=>St K D q [(125603,bk0 t (vecG (Value.int .i64) 8 h) 119),(4010,g)]) ?_ ?_
 .refine C' ?_
  let F:(List Zb)->Prop:=fun oo=>((fun ov=>match ov with|m=>ZN m:(List Zb)->Cq (List Zb)) oo).wp (fun a=>a=r)
  replace hr:(Cq.loop _ _).wp F:=hr
  refine an' (Φ:=F) (fun (⟨k,d,c,j⟩:(List Zb)×Option Ow×Int×Mem)=>((k,c):(List Zb)×Int)) (fun ⟨k,d,c,j⟩=>[(1,.func (.func 168) #[] #[pt0 t]),(5,.slice J (f.length:Int).toNat ((f.length:Int).toNat)),(11,.slice I f.length H),(12,i' (f.length:Int)),(13,i' c)]) (fun ⟨k,d,c,j⟩=>Mem.le D j/\RowR b' 110 j (.slice J (f.length:Int).toNat ((f.length:Int).toNat)) k d) (fun ⟨k,d,c,j⟩=>St K D j [(125603,bk0 t (vecG (Value.int .i64) 8 h) 119),(4010,d)]) ⟨(List.replicate (f.length:Int).toNat (Zb.mk 0 [])),S,0,D⟩ hr (f5 z z z z z) ⟨mr,ag⟩ (w2 z z) ?_
  .intro av gx U hr
   obtain⟨k,d,c,j⟩:=gx
   obtain⟨l,u⟩:=U
   refine sr<|yy (aj' z z) z<|nx<|n'<|L' hr z (fun ai hr=>?_) (fun ai hr=>?_)
   .refine q'<|g'<|n'<|C'<|sr<|mv z z ?_
    obtain⟨x1,P,hr⟩:=hr
    refine yy (V' y' aT' (y.mono l) z z P) z ?_
    obtain⟨am,ao,ac,V⟩:=bp' (J' (af' y P) l)
    refine yy (aC' _ bO' z z ac) z<|Q' 7 z z110 z fun b2=>sg z z<|s' 7 z aT' z z z z z (List.all_eq_true.1 z)<|nx<|A'<|mv z z<|mv z z<|mv z z<|yy (o' 7 bO' z z z) z ?_
    obtain⟨o,W,hr⟩:=hr
    refine WL.callRO z z (dj' E168 z z) (fG' W) z (V) (lc z ln) (fun i hi=>by simp only[List.map_cons,List.map_nil,List.mem_cons,List.not_mem_nil,or_false] at hi; subst hi; exact z) hz (fun an ae s C=>?_)
    obtain⟨B,A,rfl,M⟩:=C
    obtain⟨x2,O,hr⟩:=hr
    refine yy (aQ' y' aT' (u.mono s) z z O) z<|bx' (r:=b') (e:=110) (cs':=(v110' o.id B o.p A)) (i:=c) (z':=o) 4010 z aT' z (u.mono s) z z z z ⟨[i' o.id],[.slice B o.p.length A],z,z,⟨_,z,M⟩⟩ O fun aa X=>v'<|I'<|g'<|A'<|yy (W' z z) z<|mv z z<|v'<|Y' ⟨(k.set c.toNat o),aa,i64.wrap (c+1),ae⟩ hr ⟨(mx l s),X⟩ (f5 z z z z z) (w2 z z)
   refine ap'<|r'<|r'<|O'<|aq' ⟨k,d,j⟩ ⟨l,u,hr⟩ (f1 z) (w2 z z)
 rintro⟨m,g,q⟩ ⟨aj,R,hr⟩
 refine g'<|sr<|mv z z<|sx0 z z<|j' ?_
 obtain rfl:_=r:=hr
 refine WE.freezeT (r:=b') (e:=110) 4010 R z (by rw[Q]; rfl) fun au Y al E ak=>aE' (S':=St K D Y [(125603,bk0 t (vecG (Value.int .i64) 8 h) 119)]) (w1 z)<|k' z z ⟨z,⟨_,_,(dm' E),(df' E)⟩⟩
theorem eq'{m l e g o n j k r}(hr:(ZbJ m l).Ret r):Ctr prog 128 #[.agg ((v31' m e g o n j k)).toArray,.agg (vecG (Value.int .i64) 8 l).toArray] (fun G=>y31' G e g o n j k m) (w31' r):=by
 refine H' (args:=[_,_]) (N:=18) func128 z z z (fun W G0 R M=>?_)
 obtain⟨D,H,B⟩:=M
 have hz:W.L.zero:=by rw[R]; intro p U; simp at U
 refine sr<|ag' 2 z z z fun b1=>ag' 125603 z z z fun Q=>Q' 4 z z31 z fun b3=>nr<|yy (bU' z z) z<|sx0 z z<|n'<|ah' [ff,ff,ff,ff,ff,ff,ff,ff,ff] mix (by kernel_rfl) fun hb=>cn (fun _ c=>aY' z)<|cn (fun _ c=>f' 2 bq' z z z)<|cn (fun _ c=>e' z) ?_
 obtain⟨y,O,hr⟩:=hr
 refine eB' (f:=145) (φ:=wl' b' y) (L1:=[(125603,bk0 Q (vecG (Value.int .i64) 8 l) 119)]) (fun _=>z) (fun v X V c h=>?_) (lc z ln) (fun i J=>by simp only[List.map_cons,List.map_nil,List.mem_cons,List.not_mem_nil,or_false] at J; subst J; exact z) hz (fun u S c P=>?_) ?_
 .obtain⟨t,s,rfl,q⟩:=h
  exact⟨_,_,z,q.mono c⟩
 .exact⟨_,_,_,fun _=>t' E145 z,cy' O,z,(H.mono c)⟩
 refine cu (fun _ _ c=>bb' z)<|cu (fun _ _ c=>f' 2 bq' z z z)<|cu (fun _ _ c=>e' z) ?_
 obtain⟨E,L,hr⟩:=hr
 refine eB' (f:=145) (φ:=wl' b' E) (L1:=[(125603,bk0 Q (vecG (Value.int .i64) 8 l) 119)]) (fun _=>z) (fun v X V c h=>?_) (lc z ln) (fun i J=>by simp only[List.map_cons,List.map_nil,List.mem_cons,List.not_mem_nil,or_false] at J; subst J; exact z) hz (fun u S c P=>?_) ?_
 .obtain⟨F,I,rfl,x⟩:=h
  exact⟨_,_,z,x.mono c⟩
 .obtain⟨_,_⟩:=(show True/\True from P)
  exact⟨_,_,_,fun _=>t' E145 z,cy' L,z,(B.mono c)⟩
 refine cu (fun _ _ c=>aY' z)<|dx' (d:=14) (post:=wl' b' E) (d':=10) (post':=wl' b' y) (fun Y T Z K C A=>?_)
 obtain⟨F,I,rfl,x⟩:=C
 obtain⟨t,s,rfl,q⟩:=A
 refine aD' 2 ([.slice e m.vars.length g,.slice t y.length s,.slice j m.neqs.length k,i' m.next]).toArray z sz29 z z z (show 1<4 by decide) z z<|yy (bb' z) z<|aD' 2 ([.slice e m.vars.length g,.slice t y.length s,.slice F E.length I,i' m.next]).toArray z sz29 z z z (show 2<4 by decide) z z<|v'<|ar'<|g'<|sr<|yy (o' 2 au' z z z) z<|s' 4 z aV' z z z z z (List.all_eq_true.1 z)<|nx<|j' ?_
 obtain rfl:_=r:=hr
 exact k' z (ad' (i:=4) au' z z z) ⟨_,_,_,_,_,_,z,(D.mono K),q,x⟩
theorem ct'{m c h r}(hr:(ZK m).Ret r):CtrL prog 130 #[.slice c m.length h] [] (fun G=>sl Rp.str G c h m) (fun G L v=>∃ u x f,L=[(7000,f)]/\v = .slice u r.length x/\RowR Rp.str 9 G (.slice u r.length x) r f):=by
 refine bh' (args:=[_]) (N:=8) func130 z z z (fun s d A n=>?_)
 have g:=n
 refine sr<|sx0 z z<|n'<|sr<|mv z z<|yy (Y0.eqlNil F' z z) z<|nx<|dF' (p:=c=none) z (fun k=>?_) (fun k=>?_)
 .replace hr:=hr.1 (SlR.Zjd g k)
  refine sr<|sx0 z z<|j'<|a' ?_
  obtain rfl:_=r:=hr
  refine aE' (S':=St s d d [(7000,none)]) (wk (lw ln))<|k' z z ⟨_,_,_,z,z,(RowR.nil (r:=Rp.str) (e:=9))⟩
 replace hr:=hr.2
 refine q'<|g'<|sr<|WL.litT (e:=9) (r:=Rp.str) (vs:=#[]) (cs:=[]) ([]:List ByteArray) 4005 z z z z z (by decide) (fun _=>by kernel_rfl) (z) fun E B t=>mv z z ?_
 obtain⟨q,hr⟩:=hr
 refine cr' (r:=Rp.str) (e:=9) 4005 z z F' el9 z (by decide) z z t z g q fun D C l y=>sx0 z z<|j' ?_
 obtain rfl:_=r:=hr
 refine aE' (S':=St s d d [(7000,l)]) ?_ ?_
 .intro w o
  have o:=o.rekey (i:=4005) (j:=7000) z (by rw[A]; rfl)
  exact o.weaken (lc z ln)
 exact k' z z ⟨_,_,_,z,z,y⟩
theorem gy'{l c o q t s k h d g r}(hr:(ZfA l c).Ret r):Ctr prog 85 #[.agg ((v31' l o q t s k h)).toArray,.agg ((v48' c d g)).toArray] (fun G=>sl Rp.str G o q l.vars/\sl b' G t s l.eqs/\sl b' G k h l.neqs/\sl K' G d g c.p) (w31t' r):=by
 refine H' (args:=[_,_]) (N:=55) func85 z z z (fun w0 Y E a4=>?_)
 obtain⟨D,Q,L,ad⟩:=a4
 have hz:w0.L.zero:=by rw[E]; intro p hp; simp at hp
 refine sr<|ag' 117002 z z z fun b1=>ag' 117003 z z z fun b2=>Q' 4 z z31 z fun b3=>sg z z<|nr<|yy (aF' z) z<|yy (f' 117002 bB' z z z) z<|yy (M' F' D z) z<|Q' 117006 z z3 z fun b4=>aD' 117006 ([i' (l.vars.length:Int)]).toArray z sz3 z z z (by first|decide|simp) z z<|nx<|n'<|bI' 117006 z (by rw[E]; rfl) fun bT A az aM=>bI' 117003 z (by rw[E]; rfl) fun bS n aB a1=>bI' 117002 z (by rw[E]; rfl) fun be y aP aQ=>A'<|yy (bU' z z) z ?_
 obtain⟨bg,aV,hr⟩:=hr
 refine P' z z (t' E121 z) (bz' aV) z ((show FnRd prog fa0 foB be (.func (.func 122) #[] #[pt0 b4]) () (fun _=>ZaG (l.vars.length:Int)) from (du' E122 (fun x V=>dv' (fq' _ _ x V) (fun G' m=>(J' (cm' (r:=(Rp.int .i64)) (cs:=[i' (l.vars.length:Int)]) az z z) (mx (mx n y) m))))))) (fun bE a7 C ah=>?_)
 obtain⟨bN,bF,rfl,ay⟩:=ah
 refine yy (bU' z z) z ?_
 obtain⟨ba,aW,hr⟩:=hr
 refine P' z z (t' E121 z) (bz' aW) z ((show FnRd prog fa0 foB a7 (.func (.func 123) #[] #[pt0 b2,pt0 b4]) () (fun _=>Zan c (l.vars.length:Int)) from (du' E123 (fun x V=>dv' (fs' _ _ _ _ x V) (fun G' m=>⟨(J' (cm' (r:=Z') (cs:=(v48' c d g)) aB z ⟨[i' c.kind],[.string c.name,i' c.at',i' c.to',i' c.id,.slice d c.p.length g,.bool c.neq],z,z,⟨[.string c.name],[i' c.at',i' c.to',i' c.id,.slice d c.p.length g,.bool c.neq],z,z,⟨[i' c.at'],[i' c.to',i' c.id,.slice d c.p.length g,.bool c.neq],z,z,⟨[i' c.to'],[i' c.id,.slice d c.p.length g,.bool c.neq],z,z,⟨[i' c.id],[.slice d c.p.length g,.bool c.neq],z,z,⟨[.slice d c.p.length g],[.bool c.neq],z,⟨_,z,(ad.mono (mx A n))⟩,z⟩⟩⟩⟩⟩⟩) (mx (mx y C) m)),(J' (cm' (r:=(Rp.int .i64)) (cs:=[i' (l.vars.length:Int)]) az z z) (mx (mx (mx n y) C) m))⟩))))) (fun bC bh I ap=>?_)
 obtain⟨bx,bw,rfl,aD⟩:=ap
 refine yy (bU' z z) z ?_
 obtain⟨bc,a2,hr⟩:=hr
 have N1:=mx (mx A n) y
 refine P' z z (t' E121 z) (bz' a2) z ((show FnRd prog fa0 foB bh (.func (.func 124) #[] #[pt0 b2,pt0 b1]) () (fun _=>ZaH c l) from (du' E124 (fun x V=>dv' (fu' _ _ _ _ x V) (fun G' m=>⟨(J' (cm' (r:=Z') (cs:=(v48' c d g)) aB z ⟨[i' c.kind],[.string c.name,i' c.at',i' c.to',i' c.id,.slice d c.p.length g,.bool c.neq],z,z,⟨[.string c.name],[i' c.at',i' c.to',i' c.id,.slice d c.p.length g,.bool c.neq],z,z,⟨[i' c.at'],[i' c.to',i' c.id,.slice d c.p.length g,.bool c.neq],z,z,⟨[i' c.to'],[i' c.id,.slice d c.p.length g,.bool c.neq],z,z,⟨[i' c.id],[.slice d c.p.length g,.bool c.neq],z,z,⟨[.slice d c.p.length g],[.bool c.neq],z,⟨_,z,(ad.mono (mx A n))⟩,z⟩⟩⟩⟩⟩⟩) (mx (mx (mx y C) I) m)),(J' (cm' (r:=aR') (cs:=(v31' l o q t s k h)) aP z ⟨[.slice o l.vars.length q],[.slice t l.eqs.length s,.slice k l.neqs.length h,i' l.next],z,⟨_,z,(D.mono N1)⟩,⟨[.slice t l.eqs.length s],[.slice k l.neqs.length h,i' l.next],z,⟨_,z,(Q.mono N1)⟩,⟨[.slice k l.neqs.length h],[i' l.next],z,⟨_,z,(L.mono N1)⟩,z⟩⟩⟩) (mx (mx C I) m))⟩))))) (fun bt bV M am=>?_)
 obtain⟨bJ,bM,rfl,av⟩:=am
 obtain⟨ax,W,rfl⟩:=ci' ay
 obtain⟨ae,P,rfl⟩:=ci' aD
 obtain⟨S,J,rfl⟩:=ci' av
 refine bc' (e:=178) (r:=(Rp.fn prog fa0 foI)) (vs:=#[(0,(.func (.func ax) #[] W)),(1,(.func (.func ae) #[] P)),(2,(.func (.func S) #[] J))]) (cs:=[(.func (.func ax) #[] W)]++([(.func (.func ae) #[] P)]++([(.func (.func S) #[] J)]++([])))) ([bg,ba,bc]:List (Unit->Cq Int)) z z z z z (by decide) (fun _=>by kernel_rfl) ⟨[(.func (.func ax) #[] W)],[(.func (.func ae) #[] P)]++([(.func (.func S) #[] J)]++([])),z,⟨_,z,(ay.mono (mx I M))⟩,⟨[(.func (.func ae) #[] P)],[(.func (.func S) #[] J)]++([]),z,⟨_,z,(aD.mono M)⟩,⟨[(.func (.func S) #[] J)],[],z,⟨_,z,av⟩,z⟩⟩⟩ (key:=999) z (by rw[E]; rfl) (fun p1 bR aJ bd=>?_)
 obtain⟨bP,aK,hr⟩:=hr
 refine E' z z (t' E120 z) (cT' aK) z (bd)<|sg z z<|dc' 117002 z aQ (mx A n) (mx (mx (mx (mx y C) I) M) aJ)<|dc' 117003 z a1 A n<|dc' 117006 z aM mr A<|nx<|n'<|sr<|mv z z<|yy (aw' z z) z<|nx<|L' hr z (fun bk hr=>?_) (fun bk hr=>?_)
 .refine sr<|yy (av' (vs:=#[]) (v:=.agg ([.slice none 0 0,.slice none 0 0,.slice none 0 0,i' 0]).toArray) z z (fun _=>by kernel_rfl)) z<|mv z z<|s' 4 z aV' z z z z z (List.all_eq_true.1 z)<|sx0 z z<|j'<|a' ?_
  obtain rfl:_=r:=hr
  exact aH' z (ad' (i:=4) au' z z z) z ⟨_,_,_,_,_,_,z,(R' Rp.str _),(R' b' _),(R' b' _)⟩
 refine q'<|g'<|sr ?_
 obtain⟨aC,a0,hr⟩:=hr
 refine E' z z (t' E127 z) (eg' a0) z (trivial)<|Q' 8 z z119 z fun b5=>s' 8 z sz119 z z z (ae' _ _ _) (ae' _ _ _) (fun u hu=>Rp.one (dz' .i64 8) (G:=Y) (x:=aC) (cs:=vecG (Value.int .i64) 8 aC) z u (by first|simpa using hu|simpa [Value.cells] using hu))<|nx<|n'<|sr<|yy (aK' z) z<|yy (f' 117003 sc3 z z z) z<|sx0 z z<|am' (fun (⟨F,U⟩:(Fin 8->Int)×Mem)=>[(2,pt0 b1),(3,pt0 b2),(4,pt0 b3),(6,pt0 b4),(8,pt0 b5)]) (fun ⟨F,U⟩=>Mem.le Y U/\(Zdl l c F).Ret r) (fun ⟨F,U⟩=>St w0 Y U [(117002,bk0 b1 (v31' l o q t s k h) 31),(117003,bk0 b2 (v48' c d g) 48),(4,bk0 b3 ([.slice none 0 0,.slice none 0 0,.slice none 0 0,i' 0]) 31),(117006,bk0 b4 ([i' (l.vars.length:Int)]) 3),(8,bk0 b5 (vecG (Value.int .i64) 8 F) 119)]) ?_ ?_
 .refine C' ?_
  let aw:(Fin 8->Int)->Prop:=fun oo=>((fun ov=>match ov with|F=>Zdl l c F:(Fin 8->Int)->Cq (Za×Int)) oo).wp (fun a=>a=r)
  replace hr:(Cq.loop _ _).wp aw:=hr
  refine an' (Φ:=aw) (fun (⟨K,B,H⟩:Int×(Fin 8->Int)×Mem)=>((K,B):Int×(Fin 8->Int))) (fun ⟨K,B,H⟩=>[(2,pt0 b1),(3,pt0 b2),(4,pt0 b3),(6,pt0 b4),(8,pt0 b5),(9,i' K)]) (fun ⟨K,B,H⟩=>Mem.le Y H) (fun ⟨K,B,H⟩=>St w0 Y H [(117002,bk0 b1 (v31' l o q t s k h) 31),(117003,bk0 b2 (v48' c d g) 48),(4,bk0 b3 ([.slice none 0 0,.slice none 0 0,.slice none 0 0,i' 0]) 31),(117006,bk0 b4 ([i' (l.vars.length:Int)]) 3),(8,bk0 b5 (vecG (Value.int .i64) 8 B) 119)]) ⟨c.at',aC,Y⟩ hr (f6 z z z z z z) mr (w5 z z z z z) ?_
  .intro bQ gx V hr
   obtain⟨K,B,H⟩:=gx
   have ac:=V
   refine n'<|sr<|mv z z<|yy (f' 117006 sc3 z z z) z<|yy (aj' z z) z<|nx<|L' hr z (fun bb hr=>?_) (fun bb hr=>?_)
   .refine q'<|g'<|n'<|C'<|A'<|mv z z<|mv z z<|yy (W' z z) z ?_
    obtain⟨a6,hr⟩:=hr
    refine yy (bj' bg' sz3 z z a6) z<|aD' 8 (vecG (Value.int .i64) 8 (setF B K.toNat (i64.wrap (K+1)))).toArray z sz3 z z z (by first|(rw[ae']; omega)|(show _<(vecG _ _ _).toArray.size; rw[ae']; omega)) z (cj' _ _ _ _ _)<|v'<|I'<|g'<|A'<|mv z z<|yy (W' z z) z<|sg z z<|v'<|Y' ⟨i64.wrap (K+1),setF B K.toNat (i64.wrap (K+1)),H⟩ hr ac (f6 z z z z z z) (w5 z z z z z)
   refine ap'<|r'<|r'<|O'<|aq' ⟨B,H⟩ ⟨ac,hr⟩ (f5 z z z z z) (w5 z z z z z)
 rintro⟨F,U⟩ ⟨O,hr⟩
 refine g'<|sr<|yy (f' 117006 sc3 z z z) z<|yy (aK' z) z<|yy (f' 117003 sc3 z z z) z ?_
 obtain⟨a9,hr⟩:=hr
 refine yy (bj' bg' sz3 z z a9) z<|aD' 8 (vecG (Value.int .i64) 8 (setF F ((l.vars.length:Int).toNat) c.at')).toArray z sz3 z z z (by first|(rw[ae']; omega)|(show _<(vecG _ _ _).toArray.size; rw[ae']; omega)) z (cj' _ _ _ _ _)<|nr<|yy (o' 117002 au' z z z) z<|yy (o' 8 ag119 z z (ae' _ _ _)) z ?_
 obtain⟨ar,aL,hr⟩:=hr
 refine P' z z (t' E128 z) (eq' aL) z (⟨(D.mono O),(Q.mono O),(L.mono O)⟩) (fun bq br a8 ag=>?_)
 obtain⟨aS,aX,aj,ak,aa,Z,rfl,X,af,ab⟩:=ag
 refine s' 117002 z aV' z z z z z (List.all_eq_true.1 z)<|nx<|n'<|ah' [ff,ff,ff,ff,ff,ff,ff,ff] mix (by kernel_rfl) fun hb=>cn (fun _ m=>aF' z)<|cn (fun _ m=>f' 117002 bB' z z z) ?_
 obtain⟨bj,a3,hr⟩:=hr
 refine Chain.callOwn (f:=130) (r:=Rp.str) (e:=9) (xs:=bj) (fun _=>z) (fun u G' m hu=>?_) ?_
 .exact⟨_,_,_,fun _=>t' E130 z,ct' a3,z,(X.mono m)⟩
 refine cu (fun _ _ m=>aK' z)<|cu (fun _ _ m=>f' 117003 sc3 z z z)<|cu (fun _ _ m=>cc' z)<|cu (fun _ _ m=>f' 117003 sc9 z z z)<|eH' (r:=Rp.str) (e:=9) ([c.name]:List ByteArray) (fun _=>z) z (by decide) (fun u G' m hu=>?_) ?_
 .exact⟨#[(0,.string c.name)],[.string c.name]++([]),z,z,fun _=>by kernel_rfl,⟨[.string c.name],[],z,z,z⟩⟩
 refine ei' (fun bp bz X1 aA ai aq=>?_)
 obtain⟨p2,bU,rfl,bf⟩:=ai
 refine WL.adoptR aq (fun bH bo bl aN aY bs=>?_)
 subst aN
 refine cg' (show WL _ _ _ _ _ _ (St w0 Y X1.m _) from ?_)
 obtain⟨bi,aT,hr⟩:=hr
 refine bH' (fun w hs=>hs.rekey (i:=46) (j:=5000) z (by rw[E]; rfl))<|cw' z z (t' E129 z) (em' aT) z (⟨aY,bf⟩) (lc z ln) hz (fun bD bI bB T al=>?_)
 obtain⟨a5,aO,bm,rfl,rfl,aU⟩:=al
 refine bH' (fun w hs=>hs.rekey (i:=5000) (j:=4052) z (by rw[E]; rfl))<|bE' (r:=Rp.str) (e:=9) 4052 aU z (by rw[E]; rfl) fun bO bG R aZ bn=>yy (aF' z) z<|aD' 117002 ([.slice a5 bi.length aO,.slice aj ar.eqs.length ak,.slice aa ar.neqs.length Z,i' ar.next]).toArray z sz28 z z z (show 0<4 by decide) z z<|v'<|ar'<|g'<|sr<|yy (o' 117002 au' z z z) z<|s' 4 z aV' z z z z z (List.all_eq_true.1 z)<|sx0 z z<|j' ?_
 obtain rfl:_=r:=hr
 exact aH' z (ad' (i:=4) au' z z z) z ⟨_,_,_,_,_,_,z,aZ,(af.mono (mx (mx aA T) R)),(ab.mono (mx (mx aA T) R))⟩
theorem cD'{g o s r}(hr:(ZT g).Ret r):Ctr prog 132 #[.slice o g.length s] (fun G=>sl (Rp.sl b') G o s g) (wl' b' r):=by
 refine H' (args:=[_]) (N:=36) func132 z z z (fun S K L ag=>?_)
 have q:=ag
 have hz:S.L.zero:=by rw[L]; intro p hp; simp at hp
 refine sr<|sg z z<|nr<|sx0 z z<|n'<|sr<|mv z z<|yy (M' cn' q z) z<|mv z z<|nx<|am' (fun (⟨u,J⟩:Int×Mem)=>[(0,.slice o g.length s),(3,i' u)]) (fun ⟨u,J⟩=>Mem.le K J/\(ZD g u).Ret r) (fun ⟨u,J⟩=>St S K J []) ?_ ?_
 .refine C' ?_
  let R:Int->Prop:=fun oo=>((fun ov=>match ov with|u=>ZD g u:Int->Cq (List Zb)) oo).wp (fun a=>a=r)
  replace hr:(Cq.loop _ _).wp R:=hr
  refine an' (Φ:=R) (fun (⟨t,x,B⟩:Int×Int×Mem)=>((t,x):Int×Int)) (fun ⟨t,x,B⟩=>[(0,.slice o g.length s),(3,i' t),(9,.slice o g.length s),(10,i' (g.length:Int)),(11,i' x)]) (fun ⟨t,x,B⟩=>Mem.le K B) (fun ⟨t,x,B⟩=>St S K B []) ⟨0,0,K⟩ hr (f5 z z z z z) mr (wk ln) ?_
  .intro aE X Y hr
   obtain⟨t,x,B⟩:=X
   have D:=Y
   refine sr<|yy (aj' z z) z<|nx<|n'<|L' hr z (fun aj hr=>?_) (fun aj hr=>?_)
   .refine q'<|g'<|n'<|C'<|sr ?_
    obtain⟨x2,U,hr⟩:=hr
    refine yy (V' cn' sz29 (q.mono D) z z U) z ?_
    obtain⟨p3,aH,aq,al⟩:=bG' (J' (af' q U) D)
    refine yy (aa' bq' z (aq)) z<|sg z z<|nr<|mv z z<|mv z z<|yy (M' y' al z) z<|yy (W' z z) z<|sg z z<|nr<|mv z z<|yy (aj' z z) z<|nx<|L' hr z (fun an hr=>?_) (fun an hr=>?_)
    .exact (show False from hr).elim
    refine q'<|I'<|g'<|A'<|yy (W' z z) z<|mv z z<|v'<|Y' ⟨i64.wrap (t+(x2.length:Int)),i64.wrap (x+1),B⟩ hr D (f5 z z z z z) (wk ln)
   refine ap'<|r'<|r'<|O'<|aq' ⟨t,B⟩ ⟨D,hr⟩ (f2 z z) (wk ln)
 rintro⟨u,J⟩ ⟨F,hr⟩
 refine g'<|sr<|mv z z ?_
 obtain⟨ao,ab,hr⟩:=hr
 refine cw' z z (t' E172 z) (ds' ab) z trivial ln hz (fun aA Q az I M=>?_)
 obtain⟨ae,W,T,rfl,rfl,ac⟩:=M
 refine bH' (fun w O=>O.rekey (i:=7000) (j:=4024) z (by rw[L]; rfl))<|sx0 z z<|n'<|sr<|mv z z<|yy (M' cn' (q.mono (mx F I)) z) z<|mv z z<|nx<|am' (fun (⟨d,m,n,l,E⟩:(List Zb)×Option Addr×Nat×Option Ow×Mem)=>[(6,.slice m d.length n)]) (fun ⟨d,m,n,l,E⟩=>Mem.le Q E/\RowR b' 110 E (.slice m d.length n) d l/\(ZP d).Ret r) (fun ⟨d,m,n,l,E⟩=>St S K E [(4006,l)]) ?_ ?_
 .refine C' ?_
  let P:(List Zb)->Prop:=fun oo=>((fun ov=>match ov with|d=>ZP d:(List Zb)->Cq (List Zb)) oo).wp (fun a=>a=r)
  replace hr:(Cq.loop _ _).wp P:=hr
  refine an' (Φ:=P) (fun (⟨c,k,h,f,v,A⟩:(List Zb)×Option Addr×Nat×Option Ow×Int×Mem)=>((c,v):(List Zb)×Int)) (fun ⟨c,k,h,f,v,A⟩=>[(6,.slice k c.length h),(25,.slice o g.length s),(26,i' (g.length:Int)),(27,i' v)]) (fun ⟨c,k,h,f,v,A⟩=>Mem.le Q A/\RowR b' 110 A (.slice k c.length h) c f) (fun ⟨c,k,h,f,v,A⟩=>St S K A [(4006,f)]) ⟨ao,ae,W,T,0,Q⟩ hr (f4 z z z z) ⟨mr,ac⟩ ?_ ?_
  .intro w O
   have O:=O.rekey (i:=4024) (j:=4006) z (by rw[L]; rfl)
   exact O.weaken (lc z ln)
  intro aF X Y hr
  obtain⟨c,k,h,f,v,A⟩:=X
  obtain⟨C,y⟩:=Y
  refine sr<|yy (aj' z z) z<|nx<|n'<|L' hr z (fun ar hr=>?_) (fun ar hr=>?_)
  .refine q'<|g'<|n'<|C'<|sr ?_
   obtain⟨x1,V,hr⟩:=hr
   refine yy (V' cn' sz29 (q.mono (mx (mx F I) C)) z z V) z ?_
   obtain⟨p1,aI,ai,ak⟩:=bG' (J' (af' q V) (mx (mx F I) C))
   refine yy (aa' bq' z (ai)) z<|sx0 z z<|A'<|mv z z<|mv z z ?_
   obtain⟨Z,hr⟩:=hr
   refine cr' (r:=b') (e:=110) 4006 z z y' el110 z (by decide) z z y z ak Z fun p2 ap af am=>sg z z<|v'<|I'<|g'<|A'<|yy (W' z z) z<|mv z z<|v'<|Y' ⟨(c++x1),p2,ap,af,i64.wrap (v+1),A⟩ hr ⟨C,am⟩ (f4 z z z z) (w1 z)
  refine ap'<|r'<|r'<|O'<|aq' ⟨c,k,h,f,A⟩ ⟨C,y,hr⟩ (f1 z) (w1 z)
 rintro⟨d,m,n,l,E⟩ ⟨au,H,hr⟩
 refine g'<|sr<|mv z z<|sx0 z z<|j' ?_
 obtain rfl:_=r:=hr
 refine WE.freezeT (r:=b') (e:=110) 4006 H z (by rw[L]; rfl) fun aD aG av ad aw=>k' z z ⟨_,_,z,ad⟩
theorem fn'(c:Za)(o:Zc)(L:Nat)(H:Nat)(r:Bool)(hr:(Zay c o).Ret r):Ctr prog 131 #[pt0 L,pt0 H] (fun G=>At aR' G L 0 c/\At Z' G H 0 o) (fun G v=>v = .bool r):=by
 refine H' (args:=[_,_]) (N:=25) func131 z z z (fun R M X I=>?_)
 obtain⟨l,u⟩:=I
 refine sr<|sx0 z z<|n'<|sr<|yy (aY' z) z ?_
 obtain⟨F,p,O,T⟩:=bG' (aW' (ax' (ay' l)))
 refine yy (aa' bq' z (O)) z<|yy (bb' z) z ?_
 obtain⟨t,m,S,W⟩:=bG' (aW' (ax' (ax' (ay' l))))
 refine yy (aa' bq' z (S)) z<|bc' (e:=29) (r:=(Rp.sl b')) (vs:=#[(0,.slice F c.eqs.length p),(1,.slice t c.neqs.length m)]) (cs:=[.slice F c.eqs.length p]++([.slice t c.neqs.length m]++([]))) ([c.eqs,c.neqs]:List (List Zb)) z z z z z (by decide) (fun _=>by kernel_rfl) ⟨[.slice F c.eqs.length p],[.slice t c.neqs.length m]++([]),z,⟨_,z,T⟩,⟨[.slice t c.neqs.length m],[],z,⟨_,z,W⟩,z⟩⟩ (key:=999) z (by rw[X]; rfl) (fun p3 ah y V=>?_)
 obtain⟨A,K,hr⟩:=hr
 refine P' z z (t' E132 z) (cD' K) z (V) (fun ac q x n=>?_)
 obtain⟨E,D,rfl,j⟩:=n
 refine yy (M' y' j z) z<|mv z z<|nx<|am' (fun (k:Mem)=>match k with|i=>[]) (fun (k:Mem)=>match k with|i=>Mem.le q i/\(Zbl).Ret r) (fun (k:Mem)=>match k with|i=>St R M i []) ?_ ?_
 .refine C' ?_
  let s:(Bool⊕Unit)->Prop:=fun oo=>((fun ov=>match ov with | .inl rv1=>Cq.ret rv1 | .inr ()=>Zbl:(Bool⊕Unit)->Cq Bool) oo).wp (fun a=>a=r)
  replace hr:(Cq.loop _ _).wp s:=hr
  refine an' (Φ:=s) (fun (⟨d,g⟩:Int×Mem)=>(d:Int)) (fun ⟨d,g⟩=>[(1,pt0 H),(10,.slice E A.length D),(11,i' (A.length:Int)),(12,i' d)]) (fun ⟨d,g⟩=>Mem.le q g) (fun ⟨d,g⟩=>St R M g []) ⟨0,q⟩ hr (f4 z z z z) mr (wk ln) ?_
  .intro aj k hx hr
   obtain⟨d,g⟩:=k
   have f:=hx
   refine sr<|yy (aj' z z) z<|nx<|n'<|L' hr z (fun Y hr=>?_) (fun Y hr=>?_)
   .refine q'<|g'<|n'<|C'<|sr ?_
    obtain⟨x1,B,hr⟩:=hr
    refine yy (V' y' aT' (j.mono f) z z B) z ?_
    obtain⟨aa,ad,U,J⟩:=bp' (J' (af' j B) f)
    refine yy (aC' _ bO' z z U) z<|Q' 4 z z110 z fun b3=>s' 4 z aT' z z z z z (List.all_eq_true.1 z)<|nx<|n'<|ah' [ff,ff,ff,ff,ff,ff] mix (by kernel_rfl) fun hb=>cn (fun _ h=>bZ' z)<|cn (fun _ h=>f' 4 cG' z z z) ?_
    obtain⟨ai,C,hr⟩:=hr
    refine bv' z (fun _=>t' E78 z) (cZ' C) z (fun G' h=>(J.mono h))<|cn (fun _ h=>aK' z)<|cn (fun _ h=>aa' sc3 z (aI' (J' (J' (aW' (ax' (ax' (ay' u)))) (mx (mx y x) f)) h))) ?_
    obtain⟨P,hr⟩:=hr
    refine cn (fun _ h=>Y0.shl z z P)<|T' hb<|yy (Y0.and z z) z<|yy (aw' z z) z<|v'<|ar'<|g'<|L' hr z (fun Q hr=>?_) (fun Q hr=>?_)
    .refine sr<|sx0 z z<|j'<|m'<|a'<|a'<|m'<|ab'<|a' (k0' hr z z)
    refine q'<|I'<|g'<|A'<|yy (W' z z) z<|mv z z<|v'<|Y' ⟨i64.wrap (d+1),g⟩ hr f (f4 z z z z) (wk ln)
   refine ap'<|r'<|r'<|O'<|aq' g ⟨f,hr⟩ fn (wk ln)
 rintro i ⟨Z,hr⟩
 refine g'<|sr<|sx0 z z<|j' (k0' hr z z)
theorem fH'(d:Int)(e:Za)(i:Nat)(k:Nat)(r:Bool)(hr:(ZY d e).Ret r):Ctr prog 173 #[pt0 i,pt0 k] (fun G=>At (Rp.int .i64) G i 0 d/\At aR' G k 0 e) (fun G v=>v = .bool r):=by
 refine H' (args:=[_,_]) (N:=12) func173 z z z (fun p q n g=>?_)
 obtain⟨c,f⟩:=g
 refine sr<|sg z z<|nr<|yy (aa' sc3 z (aI' c)) z<|ac' hr z (bL' z z) z (fun j hr=>?_) (fun j hr=>?_)
 .refine mv z z<|gy z z (aa' sc3 z (aI' c)) z<|gy z z (aF' z) z ?_
  obtain⟨o,m,h,l⟩:=bG' (aW' (ay' f))
  refine gy z z (aa' bB' z (h)) z<|gy z z (M' F' l z) z<|gy z z (aj' z z) z<|yy (h' z z) z<|sx0 z z<|j' (k0' hr z z)
 refine mv z z<|sn5 z<|yy (l' z z) z<|sx0 z z<|j' (k0' hr z z)
theorem ej'{i o g h f e c d r}(hr:(ZcP i o).Ret r):Ctr prog 133 #[.agg ((v31' i g h f e c d)).toArray,i' o] (fun G=>y31' G g h f e c d i) (fun G v=>∃ y C,v=y/\FnRd prog fa0 foB G y C r):=by
 refine H' (args:=[_,_]) (N:=6) func133 z z z (fun L K q t=>?_)
 obtain⟨m,n,l⟩:=t
 refine sr<|ag' 126602 z z z fun B=>ag' 126603 z z z fun F=>sx0 z z<|n'<|bI' 126603 z (by rw[q]; rfl) fun I k u E=>bI' 126602 z (by rw[q]; rfl) fun A j s D=>A'<|yy (bU' z z) z<|sx0 z z<|j' ?_
 obtain rfl:_=r:=hr
 exact k' z z ⟨_,_,z,(show FnRd prog fa0 foB A (.func (.func 173) #[] #[pt0 F,pt0 B]) () (fun _=>ZY o i) from (du' E173 (fun x H=>dv' (fH' _ _ _ _ x H) (fun J p=>⟨(J' (cm' (r:=(Rp.int .i64)) (cs:=[i' o]) u z z) (mx j p)),(J' (cm' (r:=aR') (cs:=(v31' i g h f e c d)) s z ⟨[.slice g i.vars.length h],[.slice f i.eqs.length e,.slice c i.neqs.length d,i' i.next],z,⟨_,z,(m.mono (mx k j))⟩,⟨[.slice f i.eqs.length e],[.slice c i.neqs.length d,i' i.next],z,⟨_,z,(n.mono (mx k j))⟩,⟨[.slice c i.neqs.length d],[i' i.next],z,⟨_,z,(l.mono (mx k j))⟩,z⟩⟩⟩) p)⟩))))⟩
theorem gn'{s c m n q o g d h k r}(hr:(ZeB s c).Ret r):Ctr prog 86 #[.agg ((v31' s m n q o g d)).toArray,.agg ((v48' c h k)).toArray] (fun G=>sl Rp.str G m n s.vars/\sl b' G q o s.eqs/\sl b' G g d s.neqs/\sl K' G h k c.p) (w31t' r):=by
 refine H' (args:=[_,_]) (N:=60) func86 z z z (fun w0 R F aU=>?_)
 obtain⟨A,E,C,ay⟩:=aU
 have hz:w0.L.zero:=by rw[F]; intro p hp; simp at hp
 refine sr<|ag' 117202 z z z fun b1=>ag' 117203 z z z fun b2=>Q' 4 z z31 z fun b3=>sg z z<|nr<|yy (aF' z) z<|yy (f' 117202 bB' z z z) z<|yy (M' F' A z) z<|sx0 z z<|n'<|bI' 117202 z (by rw[F]; rfl) fun bG l aM aB=>bI' 117203 z (by rw[F]; rfl) fun a0 y aR aQ=>A'<|yy (bU' z z) z<|sg z z<|nr<|yy (o' 117202 au' z z z) z<|yy (aK' z) z<|yy (f' 117203 sc3 z z z) z ?_
 obtain⟨bI,aG,hr⟩:=hr
 refine P' z z (t' E133 z) (ej' aG) z (⟨(A.mono (mx l y)),(E.mono (mx l y)),(C.mono (mx l y))⟩) (fun bq bF Z ad=>?_)
 obtain⟨bA,br,rfl,aJ⟩:=ad
 obtain⟨a2,aH,hr⟩:=hr
 refine P' z z (t' E121 z) (bz' aH) z (aJ) (fun bp bE X ai=>?_)
 obtain⟨bm,bl,rfl,ar⟩:=ai
 refine mv z z ?_
 obtain⟨a4,aS,hr⟩:=hr
 refine P' z z (t' E121 z) (bz' aS) z (((show FnRd prog fa0 foB a0 (.func (.func 131) #[] #[pt0 b1,pt0 b2]) () (fun _=>Zay s c) from (du' E131 (fun x hx=>dv' (fn' _ _ _ _ x hx) (fun G' t=>⟨(J' (cm' (r:=aR') (cs:=(v31' s m n q o g d)) aM z ⟨[.slice m s.vars.length n],[.slice q s.eqs.length o,.slice g s.neqs.length d,i' s.next],z,⟨_,z,(A.mono l)⟩,⟨[.slice q s.eqs.length o],[.slice g s.neqs.length d,i' s.next],z,⟨_,z,(E.mono l)⟩,⟨[.slice g s.neqs.length d],[i' s.next],z,⟨_,z,(C.mono l)⟩,z⟩⟩⟩) (mx y t)),(J' (cm' (r:=Z') (cs:=(v48' c h k)) aR z ⟨[i' c.kind],[.string c.name,i' c.at',i' c.to',i' c.id,.slice h c.p.length k,.bool c.neq],z,z,⟨[.string c.name],[i' c.at',i' c.to',i' c.id,.slice h c.p.length k,.bool c.neq],z,z,⟨[i' c.at'],[i' c.to',i' c.id,.slice h c.p.length k,.bool c.neq],z,z,⟨[i' c.to'],[i' c.id,.slice h c.p.length k,.bool c.neq],z,z,⟨[i' c.id],[.slice h c.p.length k,.bool c.neq],z,z,⟨[.slice h c.p.length k],[.bool c.neq],z,⟨_,z,(ay.mono (mx l y))⟩,z⟩⟩⟩⟩⟩⟩) t)⟩)))).mono (mx Z X))) (fun bi bJ W ah=>?_)
 obtain⟨bv,bz,rfl,am⟩:=ah
 obtain⟨ao,P,rfl⟩:=ci' ar
 obtain⟨aa,K,rfl⟩:=ci' am
 refine bc' (e:=178) (r:=(Rp.fn prog fa0 foI)) (vs:=#[(0,(.func (.func ao) #[] P)),(1,(.func (.func aa) #[] K))]) (cs:=[(.func (.func ao) #[] P)]++([(.func (.func aa) #[] K)]++([]))) ([a2,a4]:List (Unit->Cq Int)) z z z z z (by decide) (fun _=>by kernel_rfl) ⟨[(.func (.func ao) #[] P)],[(.func (.func aa) #[] K)]++([]),z,⟨_,z,(ar.mono W)⟩,⟨[(.func (.func aa) #[] K)],[],z,⟨_,z,am⟩,z⟩⟩ (key:=999) z (by rw[F]; rfl) (fun p1 bK av a5=>?_)
 obtain⟨bC,az,hr⟩:=hr
 refine E' z z (t' E120 z) (cT' az) z (a5)<|sg z z<|dc' 117203 z aQ l (mx (mx (mx (mx y Z) X) W) av)<|dc' 117202 z aB mr l<|nx<|n'<|sr<|mv z z<|yy (aw' z z) z<|nx<|L' hr z (fun a7 hr=>?_) (fun a7 hr=>?_)
 .refine sr<|yy (av' (vs:=#[]) (v:=.agg ([.slice none 0 0,.slice none 0 0,.slice none 0 0,i' 0]).toArray) z z (fun _=>by kernel_rfl)) z<|mv z z<|s' 4 z aV' z z z z z (List.all_eq_true.1 z)<|sx0 z z<|j'<|a' ?_
  obtain rfl:_=r:=hr
  exact aH' z (ad' (i:=4) au' z z z) z ⟨_,_,_,_,_,_,z,(R' Rp.str _),(R' b' _),(R' b' _)⟩
 refine q'<|g'<|sr ?_
 obtain⟨Y,aP,hr⟩:=hr
 refine E' z z (t' E127 z) (eg' aP) z (trivial)<|Q' 9 z z119 z fun b4=>s' 9 z sz119 z z z (ae' _ _ _) (ae' _ _ _) (fun u hu=>Rp.one (dz' .i64 8) (G:=R) (x:=Y) (cs:=vecG (Value.int .i64) 8 Y) z u (by first|simpa using hu|simpa [Value.cells] using hu))<|nr<|yy (aK' z) z<|yy (f' 117203 sc3 z z z) z<|mv z z<|yy (bk' z z) z ?_
 obtain⟨a1,hr⟩:=hr
 refine yy (bj' bg' sz3 z z a1) z<|aD' 9 (vecG (Value.int .i64) 8 (setF Y c.at'.toNat (i64.wrap ((s.vars.length:Int)-1)))).toArray z sz3 z z z (by first|(rw[ae']; omega)|(show _<(vecG _ _ _).toArray.size; rw[ae']; omega)) z (cj' _ _ _ _ _)<|nx<|n'<|sr<|yy (aK' z) z<|yy (f' 117203 sc3 z z z) z<|yy (W' z z) z<|sx0 z z<|am' (fun (⟨H,O⟩:(Fin 8->Int)×Mem)=>[(2,pt0 b1),(3,pt0 b2),(4,pt0 b3),(9,pt0 b4)]) (fun ⟨H,O⟩=>Mem.le R O/\(ZcO s c H).Ret r) (fun ⟨H,O⟩=>St w0 R O [(117202,bk0 b1 (v31' s m n q o g d) 31),(117203,bk0 b2 (v48' c h k) 48),(4,bk0 b3 ([.slice none 0 0,.slice none 0 0,.slice none 0 0,i' 0]) 31),(9,bk0 b4 (vecG (Value.int .i64) 8 H) 119)]) ?_ ?_
 .refine C' ?_
  let an:(Fin 8->Int)->Prop:=fun oo=>((fun ov=>match ov with|H=>ZcO s c H:(Fin 8->Int)->Cq (Za×Int)) oo).wp (fun a=>a=r)
  replace hr:(Cq.loop _ _).wp an:=hr
  refine an' (Φ:=an) (fun (⟨I,B,D⟩:Int×(Fin 8->Int)×Mem)=>((I,B):Int×(Fin 8->Int))) (fun ⟨I,B,D⟩=>[(2,pt0 b1),(3,pt0 b2),(4,pt0 b3),(6,i' (s.vars.length:Int)),(9,pt0 b4),(10,i' I)]) (fun ⟨I,B,D⟩=>Mem.le R D) (fun ⟨I,B,D⟩=>St w0 R D [(117202,bk0 b1 (v31' s m n q o g d) 31),(117203,bk0 b2 (v48' c h k) 48),(4,bk0 b3 ([.slice none 0 0,.slice none 0 0,.slice none 0 0,i' 0]) 31),(9,bk0 b4 (vecG (Value.int .i64) 8 B) 119)]) ⟨i64.wrap (c.at'+1),setF Y c.at'.toNat (i64.wrap ((s.vars.length:Int)-1)),R⟩ hr (f6 z z z z z z) mr (w4 z z z z) ?_
  .intro bD gx hx hr
   obtain⟨I,B,D⟩:=gx
   have V:=hx
   refine n'<|sr<|mv z z<|mv z z<|yy (aj' z z) z<|nx<|L' hr z (fun a3 hr=>?_) (fun a3 hr=>?_)
   .refine q'<|g'<|n'<|C'<|A'<|mv z z<|mv z z<|yy (bk' z z) z ?_
    obtain⟨aZ,hr⟩:=hr
    refine yy (bj' bg' sz3 z z aZ) z<|aD' 9 (vecG (Value.int .i64) 8 (setF B I.toNat (i64.wrap (I-1)))).toArray z sz3 z z z (by first|(rw[ae']; omega)|(show _<(vecG _ _ _).toArray.size; rw[ae']; omega)) z (cj' _ _ _ _ _)<|v'<|I'<|g'<|A'<|mv z z<|yy (W' z z) z<|sg z z<|v'<|Y' ⟨i64.wrap (I+1),setF B I.toNat (i64.wrap (I-1)),D⟩ hr V (f6 z z z z z z) (w4 z z z z)
   refine ap'<|r'<|r'<|O'<|aq' ⟨B,D⟩ ⟨V,hr⟩ (f4 z z z z) (w4 z z z z)
 rintro⟨H,O⟩ ⟨J,hr⟩
 refine g'<|sr<|yy (o' 117202 au' z z z) z<|yy (o' 9 ag119 z z (ae' _ _ _)) z ?_
 obtain⟨ak,aA,hr⟩:=hr
 refine P' z z (t' E128 z) (eq' aA) z (⟨(A.mono J),(E.mono J),(C.mono J)⟩) (fun bf bH bb ac=>?_)
 obtain⟨aF,aI,af,ag,T,S,rfl,Q,ab,U⟩:=ac
 refine s' 117202 z aV' z z z z z (List.all_eq_true.1 z)<|nx<|n'<|ah' [ff,ff,ff,ff,ff,ff,ff,ff] mix (by kernel_rfl) fun hb=>cn (fun _ t=>aF' z)<|cn (fun _ t=>f' 117202 bB' z z z) ?_
 obtain⟨a6,aT,hr⟩:=hr
 refine Chain.callOwn (f:=130) (r:=Rp.str) (e:=9) (xs:=a6) (fun _=>z) (fun u G' t hu=>?_) ?_
 .exact⟨_,_,_,fun _=>t' E130 z,ct' aT,z,(Q.mono t)⟩
 refine cu (fun _ _ t=>aK' z)<|cu (fun _ _ t=>f' 117203 sc3 z z z)<|cu (fun _ _ t=>aK' z)<|cu (fun _ _ t=>f' 117203 sc3 z z z)<|cu (fun _ _ t=>W' z z)<|Chain.tailX1 fun bn X1 ap aj=>WL.adoptR aj (fun bs bd a8 aC aK bh=>?_)
 subst aC
 refine cg' (show WL _ _ _ _ _ _ (St w0 R X1.m _) from ?_)
 obtain⟨aY,aW,hr⟩:=hr
 refine bH' (fun w hs=>hs.rekey (i:=51) (j:=5000) z (by rw[F]; rfl))<|cw' z z (t' E134 z) (en' aW) z (aK) (lc z ln) hz (fun be bg bu L ae=>?_)
 obtain⟨aX,aN,a9,rfl,rfl,aV⟩:=ae
 refine bH' (fun w hs=>hs.rekey (i:=5000) (j:=4057) z (by rw[F]; rfl))<|bE' (r:=Rp.str) (e:=9) 4057 aV z (by rw[F]; rfl) fun bB bt M aO ba=>yy (aF' z) z<|aD' 117202 ([.slice aX aY.length aN,.slice af ak.eqs.length ag,.slice T ak.neqs.length S,i' ak.next]).toArray z sz28 z z z (show 0<4 by decide) z z<|v'<|ar'<|g'<|sr<|yy (o' 117202 au' z z z) z<|s' 4 z aV' z z z z z (List.all_eq_true.1 z)<|sx0 z z<|j' ?_
 obtain rfl:_=r:=hr
 exact aH' z (ad' (i:=4) au' z z z) z ⟨_,_,_,_,_,_,z,aO,(ab.mono (mx (mx ap L) M)),(U.mono (mx (mx ap L) M))⟩
theorem fv'(d:Za)(e:Zc)(j:Nat)(m:Nat)(r:Bool)(hr:(ZaI d e).Ret r):Ctr prog 135 #[pt0 j,pt0 m] (fun G=>At aR' G j 0 d/\At Z' G m 0 e) (fun G v=>v = .bool r):=by
 refine H' (args:=[_,_]) (N:=22) func135 z z z (fun x t s h=>?_)
 obtain⟨f,c⟩:=h
 refine sr<|sg z z<|nr<|yy (aF' z) z ?_
 obtain⟨u,q,l,n⟩:=bG' (aW' (ay' f))
 refine yy (aa' bB' z (l)) z<|yy (cc' z) z<|yy (aa' sc9 z (cd' (aW' (ax' (ay' c))))) z ?_
 obtain⟨p,i,hr⟩:=hr
 refine E' z z (t' E136 z) (cM' i) z (n)<|sg z z<|nr<|yy (cc' z) z<|yy (aa' sc9 z (cd' (aW' (ax' (ay' c))))) z ?_
 obtain⟨k,g,hr⟩:=hr
 refine E' z z (t' E125 z) (ea' g) z (trivial) ?_
 cases k
 .refine mv z z<|sn3 z<|N' (u' z z) z<|N' (u' z z) z<|N' (u' z z) z<|N' (u' z z) z<|sk z z z<|yy (l' z z) z<|sx0 z z<|j' (k0' hr z z)
 refine mv z z<|gy z z (e' z) z<|ac' hr (w' z z) (aj' z z) z (fun o hr=>?_) (fun o hr=>?_)
 .refine gy z z (e' z) z<|sn4 z<|gy z z (h' z z) z<|yy (h' z z) z<|sx0 z z<|j' (k0' hr z z)
 refine gy z z (e' z) z<|gy z z (e' z) z<|gy z z (aK' z) z<|gy z z (aa' sc3 z (aI' (aW' (ax' (ax' (ay' c)))))) z<|gy z z (at' z z) z<|gy z z (l' z z) z<|yy (h' z z) z<|sx0 z z<|j' (k0' hr z z)
theorem gz'{n c o q m l f d g h r}(hr:(ZfB n c).Ret r):Ctr prog 87 #[.agg ((v31' n o q m l f d)).toArray,.agg ((v48' c g h)).toArray] (fun G=>sl Rp.str G o q n.vars/\sl b' G m l n.eqs/\sl b' G f d n.neqs/\sl K' G g h c.p) (w31t' r):=by
 refine H' (args:=[_,_]) (N:=34) func87 z z z (fun w0 G0 A ak=>?_)
 obtain⟨u,y,t,V⟩:=ak
 have hz:w0.L.zero:=by rw[A]; intro p hp; simp at hp
 refine sr<|ag' 117402 z z z fun b1=>ag' 117403 z z z fun b2=>Q' 4 z z31 z fun b3=>sx0 z z<|n'<|bI' 117402 z (by rw[A]; rfl) fun aS k ae Z=>bI' 117403 z (by rw[A]; rfl) fun am s ai ah=>A'<|yy (bU' z z) z<|sg z z<|nr<|yy (o' 117402 au' z z z) z<|yy (aK' z) z<|yy (f' 117403 sc3 z z z) z ?_
 obtain⟨aU,ab,hr⟩:=hr
 refine P' z z (t' E133 z) (ej' ab) z (⟨(u.mono (mx k s)),(y.mono (mx k s)),(t.mono (mx k s))⟩) (fun aF aR H K=>?_)
 obtain⟨aM,aG,rfl,ad⟩:=K
 obtain⟨an,ac,hr⟩:=hr
 refine P' z z (t' E121 z) (bz' ac) z (ad) (fun aE aP F O=>?_)
 obtain⟨aC,aB,rfl,T⟩:=O
 refine mv z z ?_
 obtain⟨ao,aj,hr⟩:=hr
 refine P' z z (t' E121 z) (bz' aj) z (((show FnRd prog fa0 foB am (.func (.func 135) #[] #[pt0 b1,pt0 b2]) () (fun _=>ZaI n c) from (du' E135 (fun x hx=>dv' (fv' _ _ _ _ x hx) (fun G' W=>⟨(J' (cm' (r:=aR') (cs:=(v31' n o q m l f d)) ae z ⟨[.slice o n.vars.length q],[.slice m n.eqs.length l,.slice f n.neqs.length d,i' n.next],z,⟨_,z,(u.mono k)⟩,⟨[.slice m n.eqs.length l],[.slice f n.neqs.length d,i' n.next],z,⟨_,z,(y.mono k)⟩,⟨[.slice f n.neqs.length d],[i' n.next],z,⟨_,z,(t.mono k)⟩,z⟩⟩⟩) (mx s W)),(J' (cm' (r:=Z') (cs:=(v48' c g h)) ai z ⟨[i' c.kind],[.string c.name,i' c.at',i' c.to',i' c.id,.slice g c.p.length h,.bool c.neq],z,z,⟨[.string c.name],[i' c.at',i' c.to',i' c.id,.slice g c.p.length h,.bool c.neq],z,z,⟨[i' c.at'],[i' c.to',i' c.id,.slice g c.p.length h,.bool c.neq],z,z,⟨[i' c.to'],[i' c.id,.slice g c.p.length h,.bool c.neq],z,z,⟨[i' c.id],[.slice g c.p.length h,.bool c.neq],z,z,⟨[.slice g c.p.length h],[.bool c.neq],z,⟨_,z,(V.mono (mx k s))⟩,z⟩⟩⟩⟩⟩⟩) W)⟩)))).mono (mx H F))) (fun ay aV E M=>?_)
 obtain⟨aH,aL,rfl,Q⟩:=M
 obtain⟨S,C,rfl⟩:=ci' T
 obtain⟨J,B,rfl⟩:=ci' Q
 refine bc' (e:=178) (r:=(Rp.fn prog fa0 foI)) (vs:=#[(0,(.func (.func S) #[] C)),(1,(.func (.func J) #[] B))]) (cs:=[(.func (.func S) #[] C)]++([(.func (.func J) #[] B)]++([]))) ([an,ao]:List (Unit->Cq Int)) z z z z z (by decide) (fun _=>by kernel_rfl) ⟨[(.func (.func S) #[] C)],[(.func (.func J) #[] B)]++([]),z,⟨_,z,(T.mono E)⟩,⟨[(.func (.func J) #[] B)],[],z,⟨_,z,Q⟩,z⟩⟩ (key:=999) z (by rw[A]; rfl) (fun p1 aX U ap=>?_)
 obtain⟨aO,Y,hr⟩:=hr
 refine E' z z (t' E120 z) (cT' Y) z (ap)<|sg z z<|dc' 117403 z ah k (mx (mx (mx (mx s H) F) E) U)<|dc' 117402 z Z mr k<|nx<|n'<|sr<|mv z z<|yy (aw' z z) z<|nx<|L' hr z (fun ar hr=>?_) (fun ar hr=>?_)
 .refine sr<|yy (av' (vs:=#[]) (v:=.agg ([.slice none 0 0,.slice none 0 0,.slice none 0 0,i' 0]).toArray) z z (fun _=>by kernel_rfl)) z<|mv z z<|s' 4 z aV' z z z z z (List.all_eq_true.1 z)<|sx0 z z<|j'<|a' ?_
  obtain rfl:_=r:=hr
  exact aH' z (ad' (i:=4) au' z z z) z ⟨_,_,_,_,_,_,z,(R' Rp.str _),(R' b' _),(R' b' _)⟩
 refine q'<|g'<|sr<|yy (aF' z) z<|yy (f' 117402 bB' z z z) z ?_
 obtain⟨aq,ag,hr⟩:=hr
 refine cw' z z (t' E130 z) (ct' ag) z (u) ln hz (fun ax aQ aw D L=>?_)
 obtain⟨aa,al,au,rfl,rfl,P⟩:=L
 refine bH' (fun w hs=>hs.rekey (i:=7000) (j:=4024) z (by rw[A]; rfl))<|yy (aF' z) z<|aD' 117402 ([.slice aa aq.length al,.slice m n.eqs.length l,.slice f n.neqs.length d,i' n.next]).toArray z sz28 z z z (show 0<4 by decide) z z<|nr<|yy (aF' z) z<|yy (f' 117402 bB' z z z) z<|yy (aK' z) z<|yy (f' 117403 sc3 z z z) z<|yy (cc' z) z<|yy (f' 117403 sc9 z z z) z ?_
 obtain⟨x1,X,hr⟩:=hr
 refine yy (aQ' F' sz9 P z z X) z<|bx' (r:=Rp.str) (e:=9) (cs':=[.string c.name]) (i:=c.at') (z':=c.name) 4024 z sz9 z P z z z z z X fun aN af=>nr<|bE' (r:=Rp.str) (e:=9) 4024 af z (by rw[A]; rfl) fun aW aT I R av=>yy (o' 117402 au' z z z) z<|s' 4 z aV' z z z z z (List.all_eq_true.1 z)<|sx0 z z<|j' ?_
 obtain rfl:_=r:=hr
 exact aH' z (ad' (i:=4) au' z z z) z ⟨_,_,_,_,_,_,(by rw[dm' R]),(df' R),(y.mono (mx D I)),(t.mono (mx D I))⟩
theorem gM'{P g F E J O D C B A r}(hr:(Zhg P g).Ret r):Ctr prog 88 #[.agg ((v31' P F E J O D C)).toArray,.agg ((v48' g B A)).toArray] (fun G=>sl Rp.str G F E P.vars/\sl b' G J O P.eqs/\sl b' G D C P.neqs/\sl K' G B A g.p) (w31t' r):=by
 refine H' (args:=[_,_]) (N:=65) func88 z z z (fun w0 G0 ad aP=>?_)
 obtain⟨o,t,l,aV⟩:=aP
 have hz:w0.L.zero:=by rw[ad]; intro p hp; simp at hp
 refine sr<|ag' 2 z z z fun b1=>ag' 3 z z z fun b2=>Q' 4 z z31 z fun b3=>sx0 z z<|n'<|ah' [ff,ff,ff,ff,ff,ff,ff,ff] mix (by kernel_rfl) fun hb=>cn (fun _ c=>o' 2 au' z z z)<|cn (fun _ c=>aK' z)<|cn (fun _ c=>f' 3 sc3 z z z) ?_
 obtain⟨ao,aI,hr⟩:=hr
 refine aX' (post:=fun G v=>∃ k n,v=k/\FnRd prog fa0 foB G k n ao) (fun _=>z) (fun _ _=>t' E133 z) (ej' aI) z (fun G' c=>⟨(o.mono c),(t.mono c),(l.mono c)⟩) (fun v G1 G2 c h=>?_) ?_
 .obtain⟨k,n,rfl,T⟩:=h
  exact⟨_,_,z,T.mono c⟩
 obtain⟨am,aK,hr⟩:=hr
 refine cE' (f:=121) (φ:=fun G v=>∃ y K,v=y/\FnRd prog fa0 foI G y K am) (fun _=>z) (fun v G1 G2 c h=>?_) (fun u G' c hu=>?_) ?_
 .obtain⟨y,K,rfl,W⟩:=h
  exact⟨_,_,z,W.mono c⟩
 .obtain⟨⟨k,n,ax,T⟩,_⟩:=(show (fun G v=>∃ k n,v=k/\FnRd prog fa0 foB G k n ao) G'.m (u 11)/\True from hu)
  exact⟨_,_,_,fun _=>t' E121 z,bz' aK,(by simp only[ax] <;> rfl),T⟩
 refine cu (fun _ _ c=>o' 2 au' z z z)<|cu (fun _ _ c=>cz' z)<|cu (fun _ _ c=>f' 3 sc3 z z z)<|dx' (d:=12) (post:=fun G v=>∃ y K,v=y/\FnRd prog fa0 foI G y K am) (d':=11) (post':=fun G v=>∃ k n,v=k/\FnRd prog fa0 foB G k n ao) (fun bd be br s ak af=>?_)
 obtain⟨y,K,rfl,W⟩:=ak
 obtain⟨k,n,rfl,T⟩:=af
 obtain⟨bp,aM,hr⟩:=hr
 refine P' z z (t' E133 z) (ej' aM) z (⟨(o.mono s),(t.mono s),(l.mono s)⟩) (fun a6 bn H aj=>?_)
 obtain⟨bg,bk,rfl,aG⟩:=aj
 obtain⟨aT,aE,hr⟩:=hr
 refine P' z z (t' E121 z) (bz' aE) z (aG) (fun bb bq I ag=>?_)
 obtain⟨bc,a7,rfl,ap⟩:=ag
 obtain⟨an,X,rfl⟩:=ci' W
 obtain⟨ac,V,rfl⟩:=ci' ap
 refine bc' (e:=178) (r:=(Rp.fn prog fa0 foI)) (vs:=#[(0,(.func (.func an) #[] X)),(1,(.func (.func ac) #[] V))]) (cs:=[(.func (.func an) #[] X)]++([(.func (.func ac) #[] V)]++([]))) ([am,aT]:List (Unit->Cq Int)) z z z z z (by decide) (fun _=>by kernel_rfl) ⟨[(.func (.func an) #[] X)],[(.func (.func ac) #[] V)]++([]),z,⟨_,z,(W.mono (mx H I))⟩,⟨[(.func (.func ac) #[] V)],[],z,⟨_,z,ap⟩,z⟩⟩ (key:=999) z (by rw[ad]; rfl) (fun p1 aU U aY=>?_)
 obtain⟨bv,aL,hr⟩:=hr
 refine E' z z (t' E120 z) (cT' aL) z (aY)<|sg z z<|v'<|ar'<|g'<|n'<|sr<|mv z z<|yy (aw' z z) z<|nx<|L' hr z (fun a1 hr=>?_) (fun a1 hr=>?_)
 .refine sr<|yy (av' (vs:=#[]) (v:=.agg ([.slice none 0 0,.slice none 0 0,.slice none 0 0,i' 0]).toArray) z z (fun _=>by kernel_rfl)) z<|mv z z<|s' 4 z aV' z z z z z (List.all_eq_true.1 z)<|sx0 z z<|j'<|a' ?_
  obtain rfl:_=r:=hr
  exact aH' z (ad' (i:=4) au' z z z) z ⟨_,_,_,_,_,_,z,(R' Rp.str _),(R' b' _),(R' b' _)⟩
 refine q'<|g'<|sr ?_
 obtain⟨ab,aF,hr⟩:=hr
 refine E' z z (t' E127 z) (eg' aF) z (trivial)<|Q' 7 z z119 z fun b4=>s' 7 z sz119 z z z (ae' _ _ _) (ae' _ _ _) (fun u hu=>Rp.one (dz' .i64 8) (G:=aU) (x:=ab) (cs:=vecG (Value.int .i64) 8 ab) z u (by first|simpa using hu|simpa [Value.cells] using hu))<|nx<|n'<|WC.drawnB [(3,bk0 b2 (v48' g B A) 48)] (lc z ln) [ff,ff,tt,tt,ff,ff,tt,tt,ff] mix (by kernel_rfl) fun hb=>cn (fun _ c=>aK' z)<|cn (fun _ c=>f' 3 sc3 z z z)<|co' z (cz' z)<|co' z (f' 3 sc3 z z z)<|cn (fun _ c=>cz' z)<|cn (fun _ c=>f' 3 sc3 z z z)<|co' z (aK' z)<|co' z (f' 3 sc3 z z z) ?_
 obtain⟨aX,hr⟩:=hr
 refine cn (fun _ c=>bj' bg' sz3 z z aX)<|Chain.tailB hb<|WLT.storeL (fun w m=>m.weaken (lc z ln)) 7 (vecG (Value.int .i64) 8 (setF ab g.at'.toNat g.to')).toArray z sz3 z z z (by first|(rw[ae']; omega)|(show _<(vecG _ _ _).toArray.size; rw[ae']; omega)) z (cj' _ _ _ _ _) ?_
 obtain⟨aS,hr⟩:=hr
 refine WLT.y0 (fun w m=>m.weaken (lc z ln)) z (bj' bg' sz3 z z aS) z<|WLT.storeL (fun w m=>m.weaken (lc z ln)) 7 (vecG (Value.int .i64) 8 (setF (setF ab g.at'.toNat g.to') g.to'.toNat g.at')).toArray z sz3 z z z (by first|(rw[ae']; omega)|(show _<(vecG _ _ _).toArray.size; rw[ae']; omega)) z (cj' _ _ _ _ _)<|WLT.nil (fun w m=>m.weaken (lc z ln))<|ar'<|g'<|sr<|yy (o' 2 au' z z z) z<|yy (o' 7 ag119 z z (ae' _ _ _)) z ?_
 obtain⟨S,aO,hr⟩:=hr
 have N1:=mx (mx (mx s H) I) U
 refine P' z z (t' E128 z) (eq' aO) z (⟨(o.mono N1),(t.mono N1),(l.mono N1)⟩) (fun ba bm a3 al=>?_)
 obtain⟨aH,aN,R,Q,L,M,rfl,Z,ai,Y⟩:=al
 refine s' 2 z aV' z z z z z (List.all_eq_true.1 z)<|nr<|yy (aF' z) z<|yy (f' 2 bB' z z z) z ?_
 obtain⟨aA,aQ,hr⟩:=hr
 refine cw' z z (t' E130 z) (ct' aQ) z (Z) ln hz (fun a5 bo bf aa ah=>?_)
 obtain⟨av,aq,a2,rfl,rfl,q⟩:=ah
 refine bH' (fun w m=>m.rekey (i:=7000) (j:=4040) z (by rw[ad]; rfl))<|yy (aF' z) z<|aD' 2 ([.slice av aA.length aq,.slice R S.eqs.length Q,.slice L S.neqs.length M,i' S.next]).toArray z sz28 z z z (show 0<4 by decide) z z<|nx<|n'<|WC.drawnB [(2,bk0 b1 ([.slice av aA.length aq,.slice R S.eqs.length Q,.slice L S.neqs.length M,i' S.next]) 31),(3,bk0 b2 (v48' g B A) 48)] (lc z (lc z ln)) [ff,ff,ff,ff,tt,tt,tt,tt,ff,ff,ff,ff,ff,ff,ff,ff,ff,ff,ff,ff,ff] mix (by kernel_rfl) fun hb=>cn (fun _ c=>aF' z)<|cn (fun _ c=>f' 2 bB' z z z)<|cn (fun _ c=>aK' z)<|cn (fun _ c=>f' 3 sc3 z z z)<|co' z (aF' z)<|co' z (f' 2 bB' z z z)<|co' z (cz' z)<|co' z (f' 3 sc3 z z z)<|cn (fun _ c=>aF' z)<|cn (fun _ c=>f' 2 bB' z z z)<|cn (fun _ c=>cz' z)<|cn (fun _ c=>f' 3 sc3 z z z) ?_
 obtain⟨x1,aD,hr⟩:=hr
 refine cn (fun _ c=>aQ' F' sz9 (q.mono c) z z aD)<|cn (fun _ c=>dk' sc9 (q.mono c) (key:=4040) z z (cd' (cA' q aD)))<|cn (fun _ c=>aF' z)<|cn (fun _ c=>f' 2 bB' z z z)<|cn (fun _ c=>aK' z)<|cn (fun _ c=>f' 3 sc3 z z z) ?_
 obtain⟨x2,az,hr⟩:=hr
 refine cn (fun _ c=>aQ' F' sz9 (q.mono c) z z az)<|cn (fun _ c=>dk' sc9 (q.mono c) (key:=4040) z z (cd' (cA' q az))) ?_
 obtain⟨x3,aC,hr⟩:=hr
 refine cn (fun _ c=>aQ' F' sz9 (q.mono c) z z aC)<|Chain.tailB hb<|WLT.one (fun w m=>m.weaken (lc z (lc z ln)))<|bx' (r:=Rp.str) (e:=9) (cs':=[.string x1]) (i:=g.at') (z':=x1) 4040 z sz9 z q z z z z z aC fun bl ar=>WLT.back ?_
 obtain⟨x4,aB,hr⟩:=hr
 refine WLT.y0 (fun w m=>m.weaken (lc z (lc z ln))) z (aQ' F' sz9 ar z z aB) z<|WLT.one (fun w m=>m.weaken (lc z (lc z ln)))<|bx' (r:=Rp.str) (e:=9) (cs':=[.string x2]) (i:=g.to') (z':=x2) 4040 z sz9 z ar z z z z z aB fun bu aJ=>WLT.back<|WLT.nil (fun w m=>m.weaken (lc z (lc z ln)))<|ar'<|g'<|sr<|bE' (r:=Rp.str) (e:=9) 4040 aJ z (by rw[ad]; rfl) fun bt bs ae au a4=>yy (o' 2 au' z z z) z<|s' 4 z aV' z z z z z (List.all_eq_true.1 z)<|sx0 z z<|j' ?_
 obtain rfl:_=r:=hr
 exact aH' z (ad' (i:=4) au' z z z) z ⟨_,_,_,_,_,_,(by rw[dm' au]),(df' au),(ai.mono (mx aa ae)),(Y.mono (mx aa ae))⟩
theorem eb'{l L H I p o d f r}(hr:(Zb8 l L).Ret r):Ctr prog 66 #[.agg ((v31' l H I p o d f)).toArray,i' L] (fun G=>y31' G H I p o d f l) (fun G v=>∃ Q P,v = .tuple #[.agg ((v110' r.1.id Q r.1.p P)).toArray,.bool r.2.1,.bool r.2.2]/\sl K' G Q P r.1.p):=by
 refine H' (args:=[_,_]) (N:=38) func66 z z z (fun w0 Z av ag=>?_)
 obtain⟨am,V,S⟩:=ag
 refine sr<|ag' 2 z z z fun b1=>Q' 4 z z110 z fun M=>sg z z<|sx0 z z<|n'<|sr<|yy (aY' z) z<|yy (f' 2 bq' z z z) z<|yy (bb' z) z<|yy (f' 2 bq' z z z) z<|bc' (e:=29) (r:=(Rp.sl b')) (vs:=#[(0,.slice p l.eqs.length o),(1,.slice d l.neqs.length f)]) (cs:=[.slice p l.eqs.length o]++([.slice d l.neqs.length f]++([]))) ([l.eqs,l.neqs]:List (List Zb)) z z z z z (by decide) (fun _=>by kernel_rfl) ⟨[.slice p l.eqs.length o],[.slice d l.neqs.length f]++([]),z,⟨_,z,V⟩,⟨[.slice d l.neqs.length f],[],z,⟨_,z,S⟩,z⟩⟩ (key:=999) z (by rw[av]; rfl) fun p1 T az W=>yy (M' cn' W z) z<|mv z z<|nx<|am' (fun (⟨F,y,B,J⟩:Zb×Option Addr×Nat×Mem)=>[(4,pt0 M)]) (fun ⟨F,y,B,J⟩=>Mem.le T J/\sl K' J y B F.p/\(Zdu).Ret r) (fun ⟨F,y,B,J⟩=>St w0 Z J [(4,bk0 M (v110' F.id y F.p B) 110)]) ?_ ?_
 .refine C' ?_
  let K:((Zb×Bool×Bool)⊕Zb)->Prop:=fun oo=>((fun ov=>match ov with | .inl rv1=>Cq.ret rv1 | .inr F=>Zdu:((Zb×Bool×Bool)⊕Zb)->Cq (Zb×Bool×Bool)) oo).wp (fun a=>a=r)
  replace hr:(Cq.loop _ _).wp K:=hr
  refine an' (Φ:=K) (fun (⟨c,u,h,g,n⟩:Int×Zb×Option Addr×Nat×Mem)=>((c,u):Int×Zb)) (fun ⟨c,u,h,g,n⟩=>[(1,i' L),(4,pt0 M),(15,.slice p1 2 2),(16,i' ([l.eqs,l.neqs].length:Int)),(17,i' c)]) (fun ⟨c,u,h,g,n⟩=>Mem.le T n/\sl K' n h g u.p) (fun ⟨c,u,h,g,n⟩=>St w0 Z n [(4,bk0 M (v110' u.id h u.p g) 110)]) ⟨0,(Zb.mk 0 []),none,0,T⟩ hr (f5 z z z z z) ⟨mr,(R' _ _)⟩ (w1 z) ?_
  .intro ae gx hx hr
   obtain⟨c,u,h,g,n⟩:=gx
   obtain⟨C,R⟩:=hx
   refine sr<|yy (aj' z z) z<|nx<|n'<|L' hr z (fun ao hr=>?_) (fun ao hr=>?_)
   .refine q'<|g'<|n'<|C'<|sr<|mv z z ?_
    obtain⟨x1,ad,hr⟩:=hr
    refine yy (V' cn' sz29 (W.mono C) z z ad) z ?_
    obtain⟨p2,an,aq,X⟩:=bG' (J' (af' W ad) C)
    refine yy (aa' bq' z (aq)) z<|sg z z<|sg z z<|nr<|mv z z<|yy (M' y' X z) z<|mv z z<|nx<|am' (fun (⟨x,q,s,E⟩:Zb×Option Addr×Nat×Mem)=>[(1,i' L),(4,pt0 M),(15,.slice p1 2 2),(16,i' ([l.eqs,l.neqs].length:Int)),(17,i' c)]) (fun ⟨x,q,s,E⟩=>Mem.le n E/\sl K' E q s x.p/\(Zdv c x).wp (Out ae K)) (fun ⟨x,q,s,E⟩=>St w0 Z E [(4,bk0 M (v110' x.id q x.p s) 110)]) ?_ ?_
    .refine C' ?_
     let U:((Zb×Bool×Bool)⊕Zb)->Prop:=fun oo=>((fun ov=>match ov with | .inl rv2=>Cq.ret (.inr (.inl rv2)) | .inr x=>Zdv c x:((Zb×Bool×Bool)⊕Zb)->Cq ((Int×Zb)⊕((Zb×Bool×Bool)⊕Zb))) oo).wp (Out ae K)
     replace hr:(Cq.loop _ _).wp U:=hr
     refine an' (Φ:=U) (fun (⟨m,t,j,k,A⟩:Int×Zb×Option Addr×Nat×Mem)=>((m,t):Int×Zb)) (fun ⟨m,t,j,k,A⟩=>[(1,i' L),(4,pt0 M),(7,i' c),(15,.slice p1 2 2),(16,i' ([l.eqs,l.neqs].length:Int)),(17,i' c),(22,.slice p2 x1.length an),(23,i' (x1.length:Int)),(24,i' m)]) (fun ⟨m,t,j,k,A⟩=>Mem.le n A/\sl K' A j k t.p) (fun ⟨m,t,j,k,A⟩=>St w0 Z A [(4,bk0 M (v110' t.id j t.p k) 110)]) ⟨0,u,h,g,n⟩ hr (f9 z z z z z z z z z) ⟨mr,R⟩ (w1 z) ?_
     .intro aD gx hx hr
      obtain⟨m,t,j,k,A⟩:=gx
      obtain⟨D,O⟩:=hx
      refine sr<|yy (aj' z z) z<|nx<|n'<|L' hr z (fun ap hr=>?_) (fun ap hr=>?_)
      .refine q'<|g'<|n'<|C'<|sr ?_
       obtain⟨x2,ac,hr⟩:=hr
       refine yy (V' y' aT' (X.mono D) z z ac) z ?_
       obtain⟨aA,aC,ar,ak⟩:=bp' (J' (af' X ac) D)
       refine yy (aC' _ bO' z z ar) z<|Q' 10 z z110 z fun b3=>s' 10 z aT' z z z z z (List.all_eq_true.1 z)<|nr<|yy (bn' z) z<|yy (f' 10 sc3 z z z) z<|mv z z<|yy (at' z z) z<|nx<|L' hr z (fun aw hr=>?_) (fun aw hr=>?_)
       .refine sr<|yy (o' 10 bO' z z z) z<|mv z z<|yy (at' z z) z<|s' 4 z aT' z z z z z (List.all_eq_true.1 z)<|sg z z<|sx0 z z<|j'<|m'<|a'<|a'<|m'<|ab'<|m'<|a'<|a'<|m'<|ab'<|a' ?_
        obtain rfl:_=r:=hr
        exact cW' z (ad' (i:=4) bO' z z z) z z ⟨_,_,z,ak⟩
       refine q'<|I'<|g'<|A'<|yy (W' z z) z<|mv z z<|v'<|Y' ⟨i64.wrap (m+1),t,j,k,A⟩ hr ⟨D,O⟩ (f9 z z z z z z z z z) (w1 z)
      refine ap'<|r'<|r'<|O'<|aq' ⟨t,j,k,A⟩ ⟨D,O,hr⟩ (f5 z z z z z) (w1 z)
    rintro⟨x,q,s,E⟩ ⟨ab,Y,hr⟩
    refine I'<|g'<|A'<|yy (W' z z) z<|mv z z<|v'<|Y' ⟨i64.wrap (c+1),x,q,s,E⟩ hr ⟨(mx C ab),Y⟩ (f5 z z z z z) (w1 z)
   refine ap'<|r'<|r'<|O'<|aq' ⟨u,h,g,n⟩ ⟨C,R,hr⟩ (f1 z) (w1 z)
 rintro⟨F,y,B,J⟩ ⟨ax,ay,hr⟩
 refine g'<|sr<|yy (av' (vs:=#[]) (v:=.agg ([i' 0,.slice none 0 0]).toArray) z z (fun _=>by kernel_rfl)) z<|s' 4 z aT' z z z z z (List.all_eq_true.1 z)<|sg z z<|sx0 z z<|j' ?_
 obtain rfl:_=r:=hr
 exact cW' z (ad' (i:=4) bO' z z z) z z ⟨_,_,z,(R' K' _)⟩
theorem fo'(g:Za)(h:Int)(u:Nat)(y:Nat)(r:Bool)(hr:(ZV g h).Ret r):Ctr prog 174 #[pt0 u,pt0 y] (fun G=>At aR' G u 0 g/\At (Rp.int .i64) G y 0 h) (fun G v=>v = .bool r):=by
 refine H' (args:=[_,_]) (N:=14) func174 z z z (fun K J H k=>?_)
 obtain⟨i,j⟩:=k
 refine sr<|sg z z<|nr ?_
 obtain⟨p,n,B,x,t,m,A,e,f,d⟩:=cY' i
 refine yy (aC' _ au' z z A) z<|yy (aa' sc3 z (aI' j)) z ?_
 obtain⟨F,l,hr⟩:=hr
 refine P' z z (t' E66 z) (eb' l) z (⟨e,f,d⟩) (fun D E C c=>?_)
 obtain⟨s,q,rfl,o⟩:=c
 refine mv z z<|yy (x' z z) z<|yy (x' z z) z<|yy (x' z z) z<|Q' 3 z z110 z fun I=>s' 3 z aT' z z z z z (List.all_eq_true.1 z)<|sg z z<|sg z z<|nr<|mv z z<|sx0 z z<|j' (k0' hr z z)
theorem dA'{i k g h f e c d r}(hr:(ZbI i k).Ret r):Ctr prog 138 #[.agg ((v31' i g h f e c d)).toArray,i' k] (fun G=>y31' G g h f e c d i) (fun G v=>∃ y C,v=y/\FnRd prog fa0 foB G y C r):=by
 refine H' (args:=[_,_]) (N:=6) func138 z z z (fun L K q t=>?_)
 obtain⟨m,n,l⟩:=t
 refine sr<|ag' 127602 z z z fun B=>ag' 127603 z z z fun F=>sx0 z z<|n'<|bI' 127602 z (by rw[q]; rfl) fun I j u E=>bI' 127603 z (by rw[q]; rfl) fun A o s D=>A'<|yy (bU' z z) z<|sx0 z z<|j' ?_
 obtain rfl:_=r:=hr
 exact k' z z ⟨_,_,z,(show FnRd prog fa0 foB A (.func (.func 174) #[] #[pt0 B,pt0 F]) () (fun _=>ZV i k) from (du' E174 (fun x H=>dv' (fo' _ _ _ _ x H) (fun J p=>⟨(J' (cm' (r:=aR') (cs:=(v31' i g h f e c d)) u z ⟨[.slice g i.vars.length h],[.slice f i.eqs.length e,.slice c i.neqs.length d,i' i.next],z,⟨_,z,(m.mono j)⟩,⟨[.slice f i.eqs.length e],[.slice c i.neqs.length d,i' i.next],z,⟨_,z,(n.mono j)⟩,⟨[.slice c i.neqs.length d],[i' i.next],z,⟨_,z,(l.mono j)⟩,z⟩⟩⟩) (mx o p)),(J' (cm' (r:=(Rp.int .i64)) (cs:=[i' k]) s z z) p)⟩))))⟩
theorem ge'(i:Zc)(j:Za)(u:Nat)(y:Nat)(r:Bool)(hr:(Zax i j).Ret r):Ctr prog 137 #[pt0 u,pt0 y] (fun G=>At Z' G u 0 i/\At aR' G y 0 j) (fun G v=>v = .bool r):=by
 refine H' (args:=[_,_]) (N:=19) func137 z z z (fun S R Q n=>?_)
 obtain⟨c,k⟩:=n
 refine sr<|sg z z<|nr<|yy (aS' z) z<|yy (aa' sc3 z (aI' (aW' (ax' (ax' (ax' (ax' (ay' c)))))))) z<|ac' hr z (bL' z z) z (fun D hr=>?_) (fun D hr=>?_)
 .refine mv z z<|gy z z (aS' z) z<|gy z z (aa' sc3 z (aI' (aW' (ax' (ax' (ax' (ax' (ay' c)))))))) z<|ac' hr (w' z z) (aj' z z) z (fun A hr=>?_) (fun A hr=>?_)
  .refine yy (h' z z) z<|mv z z ?_
   obtain⟨s,q,C,x,t,p,B,g,h,f⟩:=cY' k
   refine gy z z (aC' _ au' z z B) z<|gy z z (aS' z) z<|gy z z (aa' sc3 z (aI' (aW' (ax' (ax' (ax' (ax' (ay' c)))))))) z ?_
   obtain⟨O,o,hr⟩:=hr
   refine P' (w' z z) z (t' E138 z) (dA' o) z (⟨g,h,f⟩) (fun H L F d=>?_)
   obtain⟨J,I,rfl,m⟩:=d
   obtain⟨M,l,hr⟩:=hr
   refine WL.callFn (vs:=[]) (a:=()) (w' z z) z m z z z l (fun K P E e=>?_)
   subst e
   refine gy z z (al' z) z<|yy (h' z z) z<|sx0 z z<|j' (k0' hr z z)
  refine yy (h' z z) z<|mv z z<|sn6 z<|yy (l' z z) z<|sx0 z z<|j' (k0' hr z z)
 refine mv z z<|sn3 z<|yy (l' z z) z<|mv z z<|sn6 z<|yy (l' z z) z<|sx0 z z<|j' (k0' hr z z)
theorem dY'{l k c d g h f e r}(hr:(Zcw l k).Ret r):Ctr prog 140 #[.agg ((v31' l c d g h f e)).toArray,.bool k] (fun G=>y31' G c d g h f e l) (wl' b' r):=by
 refine H' (args:=[_,_]) (N:=10) func140 z z z (fun s t p m=>?_)
 obtain⟨n,j,i⟩:=m
 refine sr<|ag' 2 z z z fun q=>sx0 z z<|n'<|sr<|mv z z<|nx<|aL' hr z (fun o hr=>?_) (fun o hr=>?_)
 .refine sr<|yy (bb' z) z<|yy (f' 2 bq' z z z) z<|sx0 z z<|j'<|a' ?_
  obtain rfl:_=r:=hr
  exact k' z z ⟨_,_,z,i⟩
 refine q'<|g'<|sr<|yy (aY' z) z<|yy (f' 2 bq' z z z) z<|sx0 z z<|j' ?_
 obtain rfl:_=r:=hr
 exact k' z z ⟨_,_,z,j⟩
theorem gf'(j:Za)(k:Zc)(t:Nat)(x:Nat)(r:Bool)(hr:(ZaO j k).Ret r):Ctr prog 139 #[pt0 t,pt0 x] (fun G=>At aR' G t 0 j/\At Z' G x 0 k) (fun G v=>v = .bool r):=by
 refine H' (args:=[_,_]) (N:=20) func139 z z z (fun L K J m=>?_)
 obtain⟨c,d⟩:=m
 refine sr<|sg z z<|nr ?_
 obtain⟨q,p,B,u,s,o,A,h,i,g⟩:=cY' c
 refine yy (aC' _ au' z z A) z<|yy (dE' z) z<|yy (aa' sc4 z (AtK.bool (ax' (ax' (ax' (ax' (ax' (ax' (ay' d))))))))) z ?_
 obtain⟨I,n,hr⟩:=hr
 refine P' z z (t' E140 z) (dY' n) z (⟨h,i,g⟩) (fun D H e f=>?_)
 obtain⟨F,E,rfl,l⟩:=f
 refine yy (M' y' l z) z<|ac' hr z (aj' z z) z (fun C hr=>?_) (fun C hr=>?_)
 .refine mv z z<|gy z z (aS' z) z<|gy z z (aa' sc3 z (aI' (J' (aW' (ax' (ax' (ax' (ax' (ay' d)))))) e))) z<|ac' hr (w' z z) (at' z z) z (fun y hr=>?_) (fun y hr=>?_)
  .refine gy z z (e' z) z<|gy z z (bw' z) z<|gy z z (aa' sc3 z (aI' (J' (ax' (ax' (ax' (ay' c)))) e))) z<|gy z z (bf' z z) z<|gy z z (h' z z) z<|gy z z (Y0.notD z) z<|yy (h' z z) z<|sx0 z z<|j' (k0' hr z z)
  refine gy z z (e' z) z<|sn3 z<|gy z z (l' z z) z<|gy z z (al' z) z<|yy (h' z z) z<|sx0 z z<|j' (k0' hr z z)
 refine mv z z<|sn4 z<|N' (u' z z) z<|N' (u' z z) z<|N' (u' z z) z<|sn2 z<|yy (l' z z) z<|sx0 z z<|j' (k0' hr z z)
theorem fY'(e:(List Ze))(f:Za)(l:Nat)(t:Nat)(r:Bool)(hr:(Zao e f).Ret r):Ctr prog 175 #[pt0 l,pt0 t] (fun G=>At (Rp.sl K') G l 0 e/\At aR' G t 0 f) (fun G v=>v = .bool r):=by
 refine H' (args:=[_,_]) (N:=20) func175 z z z (fun S Q L j=>?_)
 obtain⟨d,g⟩:=j
 refine sr<|sx0 z z<|n'<|ah' [ff,ff,ff,ff,ff,ff,ff,ff,ff] mix (by kernel_rfl) (fun n=>?_)
 obtain⟨R,J,p,u⟩:=bG' d
 refine cn (fun _ c=>aa' cG' z (c _ _ _ p)) ?_
 obtain⟨o,k,hr⟩:=hr
 refine bv' z (fun _=>t' E77 z) (dP' k) z (fun D c=>(u.mono c)) ?_
 cases o
 .refine cn (fun _ c=>e' z)<|ct z z<|ct z z<|ct z z<|ct z z<|ct z z<|ct z z<|T' n<|sn2 z<|yy (l' z z) z<|mv z z<|sn3 z<|yy (l' z z) z<|sg z z<|v'<|ar'<|g'<|j' (k0' hr z z)
 refine cn (fun _ c=>e' z) ?_
 obtain⟨P,I,s,A⟩:=bG' d
 refine cy z z (fun _ c=>aa' cG' z (c _ _ _ s)) ?_
 obtain⟨H,h,hr⟩:=hr
 refine bv' (w' z z) (fun _=>t' E78 z) (cZ' h) z (fun D c=>(A.mono c))<|cy z z (fun _ c=>aN' aP' aA' z)<|cy z z (fun _ c=>aF' z) ?_
 obtain⟨M,E,B,x⟩:=bG' (aW' (ay' g))
 refine cy z z (fun _ c=>aa' bB' z (c _ _ _ B))<|cy z z (fun _ c=>M' F' (x.mono c) z)<|T' n ?_
 obtain⟨q,hr⟩:=hr
 refine gy z z (Y0.shr z z q) z<|ac' hr (w' z z) (at' z z) z (fun y hr=>?_) (fun y hr=>?_)
 .refine yy (h' z z) z<|mv z z ?_
  obtain⟨O,F,m,C⟩:=bG' d
  refine gy z z (aa' cG' z (m)) z ?_
  obtain⟨K,i,hr⟩:=hr
  refine E' (w' z z) z (t' E79 z) (dM' i) z (C)<|gy z z (bL' z z) z<|yy (h' z z) z<|sg z z<|v'<|ar'<|g'<|j' (k0' hr z z)
 refine yy (h' z z) z<|mv z z<|sn3 z<|yy (l' z z) z<|sg z z<|v'<|ar'<|g'<|j' (k0' hr z z)
theorem fK'{i o g h f e c d q p r}(hr:(Zhe i o).Ret r):Ctr prog 141 #[.agg ((v31' i g h f e c d)).toArray,.slice q o.length p] (fun G=>sl Rp.str G g h i.vars/\sl b' G f e i.eqs/\sl b' G c d i.neqs/\sl K' G q p o) (fun G v=>∃ B F,v=B/\FnRd prog fa0 foB G B F r):=by
 refine H' (args:=[_,_]) (N:=6) func141 z z z (fun P O t y=>?_)
 obtain⟨m,n,l,C⟩:=y
 refine sr<|ag' 128202 z z z fun E=>ag' 128203 z z z fun J=>sx0 z z<|n'<|bI' 128203 z (by rw[t]; rfl) fun L k A I=>bI' 128202 z (by rw[t]; rfl) fun D j u H=>A'<|yy (bU' z z) z<|sx0 z z<|j' ?_
 obtain rfl:_=r:=hr
 exact k' z z ⟨_,_,z,(show FnRd prog fa0 foB D (.func (.func 175) #[] #[pt0 J,pt0 E]) () (fun _=>Zao o i) from (du' E175 (fun x K=>dv' (fY' _ _ _ _ x K) (fun M s=>⟨(J' (cm' (r:=(Rp.sl K')) (cs:=[.slice q o.length p]) A z ⟨_,z,(C.mono k)⟩) (mx j s)),(J' (cm' (r:=aR') (cs:=(v31' i g h f e c d)) u z ⟨[.slice g i.vars.length h],[.slice f i.eqs.length e,.slice c i.neqs.length d,i' i.next],z,⟨_,z,(m.mono (mx k j))⟩,⟨[.slice f i.eqs.length e],[.slice c i.neqs.length d,i' i.next],z,⟨_,z,(n.mono (mx k j))⟩,⟨[.slice c i.neqs.length d],[i' i.next],z,⟨_,z,(l.mono (mx k j))⟩,z⟩⟩⟩) s)⟩))))⟩
theorem fh'{l k c d h g e f j i r}(hr:(Zb5 l k).Ret r):Ctr prog 65 #[.agg ((v31' l c d h g e f)).toArray,.agg ((v48' k j i)).toArray] (fun G=>sl Rp.str G c d l.vars/\sl b' G h g l.eqs/\sl b' G e f l.neqs/\sl K' G j i k.p) (fun G v=>v=i' r):=by
 refine H' (args:=[_,_]) (N:=12) func65 z z z (fun y x t m=>?_)
 obtain⟨o,p,n,s⟩:=m
 refine sr<|ag' 2 z z z fun u=>ag' 3 z z z fun A=>sx0 z z<|n'<|sr<|yy (aS' z) z<|yy (f' 3 sc3 z z z) z<|yy (at' z z) z<|nx<|L' hr z (fun q hr=>?_) (fun q hr=>?_)
 .refine sr<|yy (bw' z) z<|yy (f' 2 sc3 z z z) z<|sx0 z z<|j'<|a' (k0' hr z z)
 refine q'<|g'<|sr<|yy (aS' z) z<|yy (f' 3 sc3 z z z) z<|sx0 z z<|j' (k0' hr z z)
theorem ce'{m c h r}(hr:(ZB m).Ret r):CtrL prog 176 #[.slice c m.length h] [] (fun G=>sl b' G c h m) (fun G L v=>∃ u x f,L=[(7000,f)]/\v = .slice u r.length x/\RowR b' 110 G (.slice u r.length x) r f):=by
 refine bh' (args:=[_]) (N:=8) func176 z z z (fun s d A n=>?_)
 have g:=n
 refine sr<|sx0 z z<|n'<|sr<|mv z z<|yy (Y0.eqlNil y' z z) z<|nx<|dF' (p:=c=none) z (fun k=>?_) (fun k=>?_)
 .replace hr:=hr.1 (SlR.Zjd g k)
  refine sr<|sx0 z z<|j'<|a' ?_
  obtain rfl:_=r:=hr
  refine aE' (S':=St s d d [(7000,none)]) (wk (lw ln))<|k' z z ⟨_,_,_,z,z,(RowR.nil (r:=b') (e:=110))⟩
 replace hr:=hr.2
 refine q'<|g'<|sr<|WL.litT (e:=110) (r:=b') (vs:=#[]) (cs:=[]) ([]:List Zb) 4005 z z z z z (by decide) (fun _=>by kernel_rfl) (z) fun E B t=>mv z z ?_
 obtain⟨q,hr⟩:=hr
 refine cr' (r:=b') (e:=110) 4005 z z y' el110 z (by decide) z z t z g q fun D C l y=>sx0 z z<|j' ?_
 obtain rfl:_=r:=hr
 refine aE' (S':=St s d d [(7000,l)]) ?_ ?_
 .intro w o
  have o:=o.rekey (i:=4005) (j:=7000) z (by rw[A]; rfl)
  exact o.weaken (lc z ln)
 exact k' z z ⟨_,_,_,z,z,y⟩
theorem eR'{c r}(hr:(cmp_isNaN_int c).Ret r):Ctr prog 197 #[i' c] (fun G=>True) (fun G v=>v = .bool r):=by
 refine H' (args:=[_]) (N:=6) func197 z z z fun f g e d=>sr<|sg z z<|nr<|mv z z<|mv z z<|yy (aw' z z) z<|sx0 z z<|j' (k0' hr z z)
theorem fI'{i c r}(hr:(ZcM i c).Ret r):Ctr prog 179 #[i' i,i' c] (fun G=>True) (fun G v=>v=i' r):=by
 refine H' (args:=[_,_]) (N:=20) func179 z z z fun o p n k=>sr<|sg z z<|nr<|mv z z ?_
 obtain⟨l,d,hr⟩:=hr
 refine E' z z (t' E197 z) (eR' d) z (trivial)<|sg z z<|nr<|mv z z ?_
 obtain⟨m,e,hr⟩:=hr
 refine E' z z (t' E197 z) (eR' e) z (trivial)<|sx0 z z<|n'<|sr<|mv z z<|nx<|aL' hr z (fun j hr=>?_) (fun j hr=>?_)
 .exact (show False from hr).elim
 refine q'<|g'<|n'<|sr<|mv z z<|nx<|aL' hr z (fun h hr=>?_) (fun h hr=>?_)
 .exact (show False from hr).elim
 refine q'<|g'<|n'<|sr<|mv z z<|mv z z<|yy (aj' z z) z<|nx<|L' hr z (fun f hr=>?_) (fun f hr=>?_)
 .refine sr<|sx0 z z<|j'<|a' (k0' hr z z)
 refine q'<|g'<|n'<|sr<|mv z z<|mv z z<|yy (be' z z) z<|nx<|L' hr z (fun g hr=>?_) (fun g hr=>?_)
 .refine sr<|sx0 z z<|j'<|a' (k0' hr z z)
 refine q'<|g'<|sr<|sx0 z z<|j' (k0' hr z z)
theorem eL'{e f c d r}(hr:(ZbU e f).Ret r):Ctr prog 178 #[.agg ((v110' e.id c e.p d)).toArray,i' f] (fun G=>sl K' G c d e.p) (fun G v=>v=i' r):=by
 refine H' (args:=[_,_]) (N:=9) func178 z z z (fun m n k g=>?_)
 have i:=g
 refine sr<|ag' 2 z z z fun l=>sg z z<|nr<|yy (bn' z) z<|yy (f' 2 sc3 z z z) z<|mv z z ?_
 obtain⟨j,h,hr⟩:=hr
 refine E' z z (t' E179 z) (fI' h) z (trivial)<|sx0 z z<|j' (k0' hr z z)
theorem cu'{g c n m r}(hr:(Zn g c).Ret r):Ctr prog 177 #[.slice n g.length m,i' c,.func (.func 178) #[] #[]] (fun G=>sl b' G n m g) (fun G v=>v = .tuple #[i' r.1,.bool r.2]):=by
 refine H' (args:=[_,_,_]) (N:=49) func177 z z z (fun D o U x=>?_)
 have i:=x
 refine sr<|sg z z<|sg z z<|nr<|mv z z<|yy (M' y' i z) z<|sg z z<|nr<|mv z z<|sg z z<|sx0 z z<|n'<|am' (fun (⟨k,j⟩:Int×Mem)=>[(0,.slice n g.length m),(1,i' c),(2,.func (.func 178) #[] #[]),(8,i' (g.length:Int)),(9,i' k)]) (fun ⟨k,j⟩=>Mem.le o j/\(Zp g c k).Ret r) (fun ⟨k,j⟩=>St D o j []) ?_ ?_
 .refine C' ?_
  let p:Int->Prop:=fun P=>((fun L=>match L with|k=>Zp g c k:Int->Cq (Int×Bool)) P).wp (fun a=>a=r)
  replace hr:(Cq.loop _ _).wp p:=hr
  refine an' (Φ:=p) (fun (⟨f,h,d⟩:Int×Int×Mem)=>((f,h):Int×Int)) (fun ⟨f,h,d⟩=>[(0,.slice n g.length m),(1,i' c),(2,.func (.func 178) #[] #[]),(8,i' (g.length:Int)),(9,i' f),(10,i' h)]) (fun ⟨f,h,d⟩=>Mem.le o d) (fun ⟨f,h,d⟩=>St D o d []) ⟨0,(g.length:Int),o⟩ hr (f6 z z z z z z) mr (wk ln) ?_
  .intro T M O hr
   obtain⟨f,h,d⟩:=M
   have e:=O
   refine n'<|sr<|mv z z<|mv z z<|yy (aj' z z) z<|nx<|L' hr z (fun H hr=>?_) (fun H hr=>?_)
   .refine q'<|g'<|C'<|sr<|mv z z<|mv z z<|yy (W' z z) z<|yy (aN' aA' dR' z) z<|yy (Y0.shr z z (by decide)) z<|yy (aN' dR' aA' z) z<|sg z z<|nr<|mv z z<|mv z z<|mv z z ?_
    obtain⟨V,q,hr⟩:=hr
    refine yy (V' y' aT' (i.mono e) z z q) z ?_
    obtain⟨Q,I,B,u⟩:=bp' (J' (af' i q) e)
    refine yy (aC' _ bO' z z B) z<|mv z z ?_
    obtain⟨R,t,hr⟩:=hr
    refine E' z z (dj' E178 z z) (eL' t) z (u)<|yy (aj' z z) z<|nx<|L' hr z (fun C hr=>?_) (fun C hr=>?_)
    .refine A'<|mv z z<|yy (W' z z) z<|sg z z<|v'<|I'<|Y' ⟨i64.wrap ((i64.wrap (Int.fdiv (u64.wrap (i64.wrap (f+h))) (2 ^ (min (1:Int).toNat u64.bits))))+1),h,d⟩ hr e (f6 z z z z z z) (wk ln)
    refine A'<|mv z z<|sg z z<|v'<|I'<|Y' ⟨f,i64.wrap (Int.fdiv (u64.wrap (i64.wrap (f+h))) (2 ^ (min (1:Int).toNat u64.bits))),d⟩ hr e (f6 z z z z z z) (wk ln)
   refine ap'<|r'<|r'<|O'<|aq' ⟨f,d⟩ ⟨e,hr⟩ (f5 z z z z z) (wk ln)
 rintro⟨k,j⟩ ⟨l,hr⟩
 refine g'<|sr<|mv z z<|mv z z<|mv z z<|ac' hr z (aj' z z) z (fun F hr=>?_) (fun F hr=>?_)
 .refine mv z z<|gy z z (e' z) z<|gy z z (e' z) z<|gy z z (e' z) z ?_
  obtain⟨W,s,hr⟩:=hr
  refine gy z z (V' y' aT' (i.mono l) z z s) z ?_
  obtain⟨J,K,E,y⟩:=bp' (J' (af' i s) l)
  refine gy z z (aC' _ bO' z z E) z<|gy z z (e' z) z ?_
  obtain⟨S,A,hr⟩:=hr
  refine E' (w' z z) z (dj' E178 z z) (eL' A) z (y)<|gy z z (at' z z) z<|yy (h' z z) z<|sg z z<|sx0 z z<|j' ?_
  obtain rfl:_=r:=hr
  exact aH' z z z z
 refine mv z z<|sn8 z<|yy (l' z z) z<|sg z z<|sx0 z z<|j' ?_
 obtain rfl:_=r:=hr
 exact aH' z z z z
theorem fi'{x o I c d v u q k l m r}(hr:(Zdz x o I).Ret r):Ctr prog 142 #[.agg ((v31' x c d v u q k)).toArray,.agg ((v110' o.id l o.p m)).toArray,.bool I] (fun G=>sl Rp.str G c d x.vars/\sl b' G v u x.eqs/\sl b' G q k x.neqs/\sl K' G l m o.p) (w31' r):=by
 refine H' (args:=[_,_,_]) (N:=32) func142 z z z (fun w0 G0 t W=>?_)
 obtain⟨n,A,y,X⟩:=W
 have hz:w0.L.zero:=by rw[t]; intro p hp; simp at hp
 refine sr<|ag' 3 z z z fun b1=>ag' 4 z z z fun b2=>Q' 6 z z31 z fun b3=>nr<|yy (o' 3 au' z z z) z<|mv z z ?_
 obtain⟨aB,Q,hr⟩:=hr
 refine P' z z (t' E140 z) (dY' Q) z (⟨n,A,y⟩) (fun ak aA h D=>?_)
 obtain⟨an,ag,rfl,T⟩:=D
 obtain⟨aw,S,hr⟩:=hr
 refine cw' z z (t' E176 z) (ce' S) z (T) ln hz (fun aj av ah f F=>?_)
 obtain⟨al,af,ac,rfl,rfl,M⟩:=F
 refine bH' (fun w H=>H.rekey (i:=7000) (j:=4013) z (by rw[t]; rfl))<|sg z z<|nr<|mv z z<|yy (bn' z) z<|yy (f' 4 sc3 z z z) z ?_
 obtain⟨ax,V,hr⟩:=hr
 refine WL.peekROZ (L1:=[]) (r:=b') (e:=110) 4013 M z hz z z (fun _=>t' E177 z) (Ctr.ro (cu' V)) z (fun G' az Z=>Z) ln (fun i hi=>by simp at hi) hz<|mv z z<|yy (x' z z) z<|yy (x' z z) z<|sg z z<|sg z z<|nr<|mv z z<|mv z z<|yy (o' 4 bO' z z z) z<|bc' (e:=110) (r:=b') (vs:=#[(0,.agg ((v110' o.id l o.p m)).toArray)]) (cs:=(v110' o.id l o.p m)++([])) ([o]:List Zb) z z z z z (by decide) (fun _=>by kernel_rfl) ⟨(v110' o.id l o.p m),[],z,⟨[i' o.id],[.slice l o.p.length m],z,z,⟨_,z,(X.mono (mx h f))⟩⟩,z⟩ (key:=999) z (by rw[t]; rfl) (fun p1 ay g Y=>?_)
 obtain⟨O,P,hr⟩:=hr
 refine bH' (fun w H=>H.rekey (i:=4013) (j:=5000) z (by rw[t]; rfl))<|cw' z z (t' E180 z) (dC' P) z (⟨(M.mono g),Y⟩) (lc z ln) hz (fun ai au aq s E=>?_)
 obtain⟨L,K,ab,rfl,rfl,J⟩:=E
 refine bH' (fun w H=>H.rekey (i:=5000) (j:=4025) z (by rw[t]; rfl))<|sx0 z z<|n'<|sr<|mv z z<|nx<|aL' hr z (fun aa hr=>?_) (fun aa hr=>?_)
 .refine A'<|mv z z<|yy (bb' z) z<|aD' 3 ([.slice c x.vars.length d,.slice v x.eqs.length u,.slice L O.length K,i' x.next]).toArray z sz29 z z z (show 2<4 by decide) z z<|nr<|bE' (r:=b') (e:=110) 4025 J z (by rw[t]; rfl) fun ar aC C U ad=>yy (o' 3 au' z z z) z<|s' 6 z aV' z z z z z (List.all_eq_true.1 z)<|nx<|j' ?_
  obtain rfl:_=r:=hr
  have N1:=mx (mx (mx (mx h f) g) s) C
  exact k' z (ad' (i:=6) au' z z z) ⟨_,_,_,_,_,_,z,(n.mono N1),(A.mono N1),U⟩
 refine A'<|mv z z<|yy (aY' z) z<|aD' 3 ([.slice c x.vars.length d,.slice L O.length K,.slice q x.neqs.length k,i' x.next]).toArray z sz29 z z z (show 1<4 by decide) z z<|nr<|bE' (r:=b') (e:=110) 4025 J z (by rw[t]; rfl) fun aD aE B R ae=>yy (o' 3 au' z z z) z<|s' 6 z aV' z z z z z (List.all_eq_true.1 z)<|nx<|j' ?_
 obtain rfl:_=r:=hr
 have N2:=mx (mx (mx (mx h f) g) s) B
 exact k' z (ad' (i:=6) au' z z z) ⟨_,_,_,_,_,_,z,(n.mono N2),R,(y.mono N2)⟩
theorem gW'{o c s t q p k j f g r}(hr:(Ziy o c).Ret r):Ctr prog 89 #[.agg ((v31' o s t q p k j)).toArray,.agg ((v48' c f g)).toArray] (fun G=>sl Rp.str G s t o.vars/\sl b' G q p o.eqs/\sl b' G k j o.neqs/\sl K' G f g c.p) (w31t' r):=by
 refine H' (args:=[_,_]) (N:=41) func89 z z z (fun w0 G0 ai aF=>?_)
 obtain⟨y,A,u,E⟩:=aF
 refine sr<|ag' 117802 z z z fun b1=>ag' 117803 z z z fun b2=>Q' 4 z z31 z fun b3=>sx0 z z<|n'<|bI' 117803 z (by rw[ai]; rfl) fun a0 l an aw=>bI' 117802 z (by rw[ai]; rfl) fun aq m ao aC=>ah' [ff,ff,ff,ff,ff,ff,ff] mix (by kernel_rfl) fun hb=>cn (fun _ n=>bU' z z) ?_
 obtain⟨al,az,hr⟩:=hr
 refine aX' (post:=fun G v=>∃ C I,v=C/\FnRd prog fa0 foI G C I al) (fun _=>z) (fun _ _=>t' E121 z) (bz' az) z (fun G' n=>((show FnRd prog fa0 foB aq (.func (.func 137) #[] #[pt0 b2,pt0 b1]) () (fun _=>Zax c o) from (du' E137 (fun x hx=>dv' (ge' _ _ _ _ x hx) (fun G' n=>⟨(J' (cm' (r:=Z') (cs:=(v48' c f g)) an z ⟨[i' c.kind],[.string c.name,i' c.at',i' c.to',i' c.id,.slice f c.p.length g,.bool c.neq],z,z,⟨[.string c.name],[i' c.at',i' c.to',i' c.id,.slice f c.p.length g,.bool c.neq],z,z,⟨[i' c.at'],[i' c.to',i' c.id,.slice f c.p.length g,.bool c.neq],z,z,⟨[i' c.to'],[i' c.id,.slice f c.p.length g,.bool c.neq],z,z,⟨[i' c.id],[.slice f c.p.length g,.bool c.neq],z,z,⟨[.slice f c.p.length g],[.bool c.neq],z,⟨_,z,(E.mono l)⟩,z⟩⟩⟩⟩⟩⟩) (mx m n)),(J' (cm' (r:=aR') (cs:=(v31' o s t q p k j)) ao z ⟨[.slice s o.vars.length t],[.slice q o.eqs.length p,.slice k o.neqs.length j,i' o.next],z,⟨_,z,(y.mono (mx l m))⟩,⟨[.slice q o.eqs.length p],[.slice k o.neqs.length j,i' o.next],z,⟨_,z,(A.mono (mx l m))⟩,⟨[.slice k o.neqs.length j],[i' o.next],z,⟨_,z,(u.mono (mx l m))⟩,z⟩⟩⟩) n)⟩)))).mono n)) (fun v G1 G2 n h=>?_) ?_
 .obtain⟨C,I,rfl,K⟩:=h
  exact⟨_,_,z,K.mono n⟩
 refine cu (fun _ _ n=>bU' z z) ?_
 obtain⟨aj,aA,hr⟩:=hr
 refine aX' (post:=fun G v=>∃ B H,v=B/\FnRd prog fa0 foI G B H aj) (fun _=>z) (fun _ _=>t' E121 z) (bz' aA) z (fun G' n=>((show FnRd prog fa0 foB aq (.func (.func 139) #[] #[pt0 b1,pt0 b2]) () (fun _=>ZaO o c) from (du' E139 (fun x hx=>dv' (gf' _ _ _ _ x hx) (fun G' n=>⟨(J' (cm' (r:=aR') (cs:=(v31' o s t q p k j)) ao z ⟨[.slice s o.vars.length t],[.slice q o.eqs.length p,.slice k o.neqs.length j,i' o.next],z,⟨_,z,(y.mono (mx l m))⟩,⟨[.slice q o.eqs.length p],[.slice k o.neqs.length j,i' o.next],z,⟨_,z,(A.mono (mx l m))⟩,⟨[.slice k o.neqs.length j],[i' o.next],z,⟨_,z,(u.mono (mx l m))⟩,z⟩⟩⟩) n),(J' (cm' (r:=Z') (cs:=(v48' c f g)) an z ⟨[i' c.kind],[.string c.name,i' c.at',i' c.to',i' c.id,.slice f c.p.length g,.bool c.neq],z,z,⟨[.string c.name],[i' c.at',i' c.to',i' c.id,.slice f c.p.length g,.bool c.neq],z,z,⟨[i' c.at'],[i' c.to',i' c.id,.slice f c.p.length g,.bool c.neq],z,z,⟨[i' c.to'],[i' c.id,.slice f c.p.length g,.bool c.neq],z,z,⟨[i' c.id],[.slice f c.p.length g,.bool c.neq],z,z,⟨[.slice f c.p.length g],[.bool c.neq],z,⟨_,z,(E.mono l)⟩,z⟩⟩⟩⟩⟩⟩) (mx m n))⟩)))).mono n)) (fun v G1 G2 n h=>?_) ?_
 .obtain⟨B,H,rfl,O⟩:=h
  exact⟨_,_,z,O.mono n⟩
 refine cu (fun _ _ n=>o' 117802 au' z z z)<|cu (fun _ _ n=>dp' z)<|cu (fun _ _ n=>f' 117803 cG' z z z)<|dx' (d:=11) (post:=fun G v=>∃ B H,v=B/\FnRd prog fa0 foI G B H aj) (d':=9) (post':=fun G v=>∃ C I,v=C/\FnRd prog fa0 foI G C I al) (fun aS aT aZ D ag ab=>?_)
 obtain⟨B,H,rfl,O⟩:=ag
 obtain⟨C,I,rfl,K⟩:=ab
 obtain⟨aY,aD,hr⟩:=hr
 have N1:=mx (mx l m) D
 refine P' z z (t' E141 z) (fK' aD) z (⟨(y.mono N1),(A.mono N1),(u.mono N1),(E.mono N1)⟩) (fun aM aX L af=>?_)
 obtain⟨aU,aW,rfl,ay⟩:=af
 obtain⟨aG,au,hr⟩:=hr
 refine P' z z (t' E121 z) (bz' au) z (ay) (fun aQ a2 J ac=>?_)
 obtain⟨aR,aN,rfl,am⟩:=ac
 obtain⟨ak,R,rfl⟩:=ci' K
 obtain⟨Z,M,rfl⟩:=ci' O
 obtain⟨P,F,rfl⟩:=ci' am
 refine bc' (e:=178) (r:=(Rp.fn prog fa0 foI)) (vs:=#[(0,(.func (.func ak) #[] R)),(1,(.func (.func Z) #[] M)),(2,(.func (.func P) #[] F))]) (cs:=[(.func (.func ak) #[] R)]++([(.func (.func Z) #[] M)]++([(.func (.func P) #[] F)]++([])))) ([al,aj,aG]:List (Unit->Cq Int)) z z z z z (by decide) (fun _=>by kernel_rfl) ⟨[(.func (.func ak) #[] R)],[(.func (.func Z) #[] M)]++([(.func (.func P) #[] F)]++([])),z,⟨_,z,(K.mono (mx L J))⟩,⟨[(.func (.func Z) #[] M)],[(.func (.func P) #[] F)]++([]),z,⟨_,z,(O.mono (mx L J))⟩,⟨[(.func (.func P) #[] F)],[],z,⟨_,z,am⟩,z⟩⟩⟩ (key:=999) z (by rw[ai]; rfl) (fun p1 a4 ap aI=>?_)
 obtain⟨a3,aB,hr⟩:=hr
 refine E' z z (t' E120 z) (cT' aB) z (aI)<|sg z z<|dc' 117802 z aC l (mx (mx (mx (mx m D) L) J) ap)<|dc' 117803 z aw mr l<|v'<|ar'<|g'<|n'<|sr<|mv z z<|yy (aw' z z) z<|nx<|L' hr z (fun aK hr=>?_) (fun aK hr=>?_)
 .refine sr<|yy (av' (vs:=#[]) (v:=.agg ([.slice none 0 0,.slice none 0 0,.slice none 0 0,i' 0]).toArray) z z (fun _=>by kernel_rfl)) z<|mv z z<|s' 4 z aV' z z z z z (List.all_eq_true.1 z)<|sx0 z z<|j'<|a' ?_
  obtain rfl:_=r:=hr
  exact aH' z (ad' (i:=4) au' z z z) z ⟨_,_,_,_,_,_,z,(R' Rp.str _),(R' b' _),(R' b' _)⟩
 refine q'<|g'<|sr<|yy (o' 117802 au' z z z) z<|yy (o' 117803 bP' z z z) z ?_
 obtain⟨Y,av,hr⟩:=hr
 refine E' z z (t' E65 z) (fh' av) z (⟨y,A,u,E⟩)<|sg z z<|nr<|yy (o' 117802 au' z z z) z<|mv z z<|yy (dp' z) z<|yy (f' 117803 cG' z z z) z<|yy (av' (vs:=#[(0,i' Y),(1,.slice f c.p.length g)]) (v:=.agg ([i' Y,.slice f c.p.length g]).toArray) z z (fun _=>by kernel_rfl)) z<|yy (dE' z) z<|yy (f' 117803 sc4 z z z) z ?_
 obtain⟨Q,aE,hr⟩:=hr
 refine P' z z (t' E142 z) (fi' aE) z (⟨y,A,u,E⟩) (fun aP a1 aL ah=>?_)
 obtain⟨U,X,ad,aa,T,V,rfl,W,ae,S⟩:=ah
 refine s' 117802 z aV' z z z z z (List.all_eq_true.1 z)<|nr<|yy (bw' z) z<|yy (f' 117802 sc3 z z z) z<|mv z z<|yy (W' z z) z<|yy (eo' z z) z<|yy (bw' z) z<|aD' 117802 ([.slice U Q.vars.length X,.slice ad Q.eqs.length aa,.slice T Q.neqs.length V,i' (if Q.next<(i64.wrap (Y+1)) then (i64.wrap (Y+1)) else Q.next)]).toArray z sz3 z z z (show 3<4 by decide) z z<|nr<|yy (o' 117802 au' z z z) z<|s' 4 z aV' z z z z z (List.all_eq_true.1 z)<|sx0 z z<|j' ?_
 obtain rfl:_=r:=hr
 exact aH' z (ad' (i:=4) au' z z z) z ⟨_,_,_,_,_,_,z,W,ae,S⟩
theorem eD'{g c e d f r}(hr:(ZcR g c).Ret r):CtrL prog 181 #[.agg ((v110' g.id e g.p d)).toArray,pt0 f] [(128603,bk0 f ([i' c]) 3)] (fun G=>sl K' G e d g.p) (fun G L v=>L=[(128603,bk0 f ([i' c]) 3)]/\v = .bool r):=by
 refine bh' (args:=[_,_]) (N:=8) func181 z z z (fun j i l h=>?_)
 have k:=h
 refine sr<|ag' 2 z z z fun m=>sg z z<|nr<|yy (bn' z) z<|yy (f' 2 sc3 z z z) z<|yy (f' 128603 sc3 z z z) z<|yy (at' z z) z<|sx0 z z<|j' ?_
 obtain rfl:_=r:=hr
 refine aE' (S':=St j i i [(128603,bk0 f ([i' c]) 3)]) (w1 z)<|k' z z ⟨z,z⟩
theorem cH'{o c m t h r}(hr:(Zz o c).Ret r):CtrL prog 200 #[.slice m o.length t,.func (.func 181) #[] #[pt0 h]] [(128603,bk0 h ([i' c]) 3)] (fun G=>sl b' G m t o) (fun G L v=>L=[(128603,bk0 h ([i' c]) 3)]/\v=i' r):=by
 refine bh' (args:=[_,_]) (N:=19) func200 z z z (fun n j K B=>?_)
 have q:=B
 have hz:n.L.zero:=by
  rw[K]; intro p F x D
  simp only[List.mem_cons,List.not_mem_nil,or_false] at F
  subst F; cases D; rfl
 refine sr<|sx0 z z<|n'<|sr<|mv z z<|yy (M' y' q z) z<|mv z z<|nx<|am' (fun (k:Mem)=>match k with|g=>[]) (fun (k:Mem)=>match k with|g=>Mem.le j g/\(Zy).Ret r) (fun (k:Mem)=>match k with|g=>St n j g [(128603,bk0 h ([i' c]) 3)]) ?_ ?_
 .refine C' ?_
  let s:(Int⊕Unit)->Prop:=fun T=>((fun S=>match S with | .inl rv1=>Cq.ret rv1 | .inr ()=>Zy:(Int⊕Unit)->Cq Int) T).wp (fun a=>a=r)
  replace hr:(Cq.loop _ _).wp s:=hr
  refine an' (Φ:=s) (fun (⟨d,f⟩:Int×Mem)=>(d:Int)) (fun ⟨d,f⟩=>[(0,.slice m o.length t),(1,.func (.func 181) #[] #[pt0 h]),(7,i' (o.length:Int)),(8,i' d)]) (fun ⟨d,f⟩=>Mem.le j f) (fun ⟨d,f⟩=>St n j f [(128603,bk0 h ([i' c]) 3)]) ⟨0,j⟩ hr (f4 z z z z) mr (w1 z) ?_
  .intro V k D hr
   obtain⟨d,f⟩:=k
   have e:=D
   refine sr<|yy (aj' z z) z<|nx<|n'<|L' hr z (fun M hr=>?_) (fun M hr=>?_)
   .refine q'<|g'<|n'<|C'<|sr<|mv z z<|sg z z<|nr<|mv z z<|mv z z<|mv z z ?_
    obtain⟨W,A,hr⟩:=hr
    refine yy (V' y' aT' (q.mono e) z z A) z ?_
    obtain⟨P,R,I,C⟩:=bp' (J' (af' q A) e)
    refine yy (aC' _ bO' z z I) z ?_
    obtain⟨U,E,hr⟩:=hr
    refine WL.callRO z z (dj' E181 z z) (eD' E) z (C) (lc z ln) (fun i J=>by simp only[List.map_cons,List.map_nil,List.mem_cons,List.not_mem_nil,or_false] at J; subst J; exact z) hz (fun Q y u l=>?_)
    subst l
    refine nx<|aL' hr z (fun H hr=>?_) (fun H hr=>?_)
    .refine sr<|mv z z<|sx0 z z<|j'<|m'<|a'<|a'<|m'<|ab'<|a' ?_
     obtain rfl:_=r:=hr
     refine aE' (S':=St n j y [(128603,bk0 h ([i' c]) 3)]) (w1 z)<|k' z z ⟨z,z⟩
    refine q'<|I'<|g'<|A'<|yy (W' z z) z<|mv z z<|v'<|Y' ⟨i64.wrap (d+1),y⟩ hr (mx e u) (f4 z z z z) (w1 z)
   refine ap'<|r'<|r'<|O'<|aq' f ⟨e,hr⟩ fn (w1 z)
 rintro g ⟨O,hr⟩
 refine g'<|sr<|sx0 z z<|j' ?_
 obtain rfl:_=r:=hr
 refine aE' (S':=St n j g [(128603,bk0 h ([i' c]) 3)]) (w1 z)<|k' z z ⟨z,z⟩
theorem bS'{X f m q n s A r}(hr:(Zv X f).Ret r):CtrL prog 182 #[.slice m n q,.func (.func 181) #[] #[pt0 A]] [(5000,s),(128603,bk0 A ([i' f]) 3)] (fun G=>RowR b' 110 G (.slice m n q) X s) (fun G L v=>∃ zp zc S,L=[(5000,S),(128603,bk0 A ([i' f]) 3)]/\v = .slice zp r.length zc/\RowR b' 110 G (.slice zp r.length zc) r S):=by
 refine bh' (args:=[_,_]) (N:=42) func182 z z z (fun J C am Y=>?_)
 have o:=Y
 have hz:J.L.zero:=by
  rw[am]; intro p hp x O
  simp only[List.mem_cons,List.not_mem_nil,or_false] at hp
  rcases hp with rfl|rfl
  .exact RowR.zero o O
  cases O; rfl
 refine sr<|sg z z<|nr<|mv z z<|mv z z ?_
 obtain⟨R,Z,hr⟩:=hr
 refine WL.peekROZ (r:=b') (e:=110) 5000 o z hz z z (fun _=>t' E200 z) (cH' Z) (by rw[RowR.eqv o]) (fun G' az ag=>(df' ag)) (lc z ln) (fun i hi=>by simp only[List.map_cons,List.map_nil,List.mem_cons,List.not_mem_nil,or_false] at hi; subst hi; exact⟨z,by decide⟩) hz<|sx0 z z<|n'<|sr<|mv z z<|yy (at' z z) z<|nx<|L' hr z (fun ao hr=>?_) (fun ao hr=>?_)
 .refine sr<|mv z z<|sx0 z z<|j'<|a' ?_
  obtain rfl:_=r:=hr
  refine aE' (S':=St J C C [(5000,s),(128603,bk0 A ([i' f]) 3)]) (w2 z z)<|k' z z ⟨_,_,_,z,(RowR.eqv o),(RowR.std o)⟩
 refine q'<|g'<|n'<|sr<|mv z z<|yy (W' z z) z<|sx0 z z<|am' (fun (⟨D,k,t,l⟩:(List Zb)×Option Ow×Int×Mem)=>[(0,.slice m n q),(5,i' t)]) (fun ⟨D,k,t,l⟩=>Mem.le C l/\RowR b' 110 l (.slice m n q) D k/\(Zt D t).Ret r) (fun ⟨D,k,t,l⟩=>St J C l [(128603,bk0 A ([i' f]) 3),(5000,k)]) ?_ ?_
 .refine C' ?_
  let M:(((List Zb)×Int))->Prop:=fun oo=>((fun ov=>match ov with|(D,t)=>Zt D t:(((List Zb)×Int))->Cq (List Zb)) oo).wp (fun a=>a=r)
  replace hr:(Cq.loop _ _).wp M:=hr
  refine an' (Φ:=M) (fun (⟨y,c,j,B,h⟩:(List Zb)×Option Ow×Int×Int×Mem)=>((y,j,B):(List Zb)×Int×Int)) (fun ⟨y,c,j,B,h⟩=>[(0,.slice m n q),(1,.func (.func 181) #[] #[pt0 A]),(5,i' j),(6,i' B)]) (fun ⟨y,c,j,B,h⟩=>Mem.le C h/\RowR b' 110 h (.slice m n q) y c) (fun ⟨y,c,j,B,h⟩=>St J C h [(128603,bk0 A ([i' f]) 3),(5000,c)]) ⟨X,s,R,i64.wrap (R+1),C⟩ hr (f4 z z z z) ⟨mr,o⟩ (w2 z z) ?_
  .intro ay gx O hr
   obtain⟨y,c,j,B,h⟩:=gx
   obtain⟨u,g⟩:=O
   refine n'<|sr<|mv z z<|mv z z<|yy (dD' y' g z) z<|yy (aj' z z) z<|nx<|L' hr z (fun ah hr=>?_) (fun ah hr=>?_)
   .refine q'<|g'<|n'<|C'<|sr<|mv z z<|mv z z ?_
    obtain⟨F,T,hr⟩:=hr
    refine yy (aQ' y' aT' g z z T) z ?_
    obtain⟨H,I,aj,K⟩:=bp' (cA' g T)
    refine yy (ey' _ bO' g (key:=5000) z z z (by decide) aj) z<|Q' 7 z z110 z fun b2=>s' 7 z aT' z z z z z (List.all_eq_true.1 z)<|nr<|mv z z<|yy (o' 7 bO' z z z) z ?_
    obtain⟨ax,V,hr⟩:=hr
    refine WL.callRO z z (dj' E181 z z) (eD' V) z (K) (lc z ln) (fun i hi=>by simp only[List.map_cons,List.map_nil,List.mem_cons,List.not_mem_nil,or_false] at hi; subst hi; exact z) hz (fun aw Q d E=>?_)
    subst E
    refine yy (al' z) z<|nx<|aL' hr z (fun an hr=>?_) (fun an hr=>?_)
    .refine sr<|mv z z<|mv z z<|yy (o' 7 bO' z z z) z ?_
     obtain⟨x2,P,hr⟩:=hr
     refine yy (aQ' y' aT' (g.mono d) z z P) z<|bx' (r:=b') (e:=110) (cs':=(v110' F.id H F.p I)) (i:=j) (z':=F) 5000 z aT' z (g.mono d) z z z z ⟨[i' F.id],[.slice H F.p.length I],z,z,⟨_,z,(K.mono d)⟩⟩ P fun ac aa=>nx<|A'<|mv z z<|yy (W' z z) z<|sg z z<|v'<|I'<|g'<|A'<|mv z z<|yy (W' z z) z<|sg z z<|v'<|Y' ⟨(y.set j.toNat F),ac,i64.wrap (j+1),i64.wrap (B+1),Q⟩ hr ⟨(mx u d),aa⟩ (f4 z z z z) (w2 z z)
    refine q'<|I'<|g'<|A'<|mv z z<|yy (W' z z) z<|sg z z<|v'<|Y' ⟨y,c,j,i64.wrap (B+1),Q⟩ hr ⟨(mx u d),(g.mono d)⟩ (f4 z z z z) (w2 z z)
   refine ap'<|r'<|r'<|O'<|aq' ⟨y,c,j,h⟩ ⟨u,g,hr⟩ (f2 z z) (w2 z z)
 rintro⟨D,k,t,l⟩ ⟨ap,ad,hr⟩
 refine g'<|sr<|mv z z<|mv z z ?_
 obtain⟨af,hr⟩:=hr
 refine WL.clearTail (r:=b') (e:=110) (lo:=t) (zx:=(Zb.mk 0 [])) 5000 z y' el110 z z (List.all_eq_true.1 z) (by decide) ⟨[i' 0],[.slice none 0 0],z,z,⟨_,z,(R' _ _)⟩⟩ ad z z z af fun aq ab W=>nr<|mv z z<|mv z z ?_
 obtain⟨ai,hr⟩:=hr
 refine WL.takeRow (r:=b') (e:=110) (hi:=t) z z y' aT' z W z z ai fun U=>sx0 z z<|j' ?_
 obtain rfl:_=r:=hr
 refine aE' (S':=St J C l [(5000,ab),(128603,bk0 A ([i' f]) 3)]) (w2 z z)<|k' z z ⟨_,_,_,z,(RowR.eqv U),(RowR.std U)⟩
theorem eW'{l J c d m n g h r}(hr:(ZcQ l J).Ret r):Ctr prog 143 #[.agg ((v31' l c d m n g h)).toArray,i' J] (fun G=>y31' G c d m n g h l) (w31' r):=by
 refine H' (args:=[_,_]) (N:=20) func143 z z z (fun w0 G0 f U=>?_)
 obtain⟨D,F,A⟩:=U
 have hz:w0.L.zero:=by rw[f]; intro p hp; simp at hp
 refine sr<|ag' 2 z z z fun b1=>ag' 128603 z z z fun b2=>Q' 4 z z31 z fun b3=>nr<|yy (bU' z z) z<|sg z z<|nr<|yy (aY' z) z<|yy (f' 2 bq' z z z) z ?_
 obtain⟨ay,W,hr⟩:=hr
 refine cw' z z (t' E176 z) (ce' W) z (F) ln hz (fun ag av af v y=>?_)
 obtain⟨am,aj,ab,rfl,rfl,Q⟩:=y
 refine bH' (fun w k=>k.rekey (i:=7000) (j:=4009) z (by rw[f]; rfl))<|mv z z ?_
 obtain⟨I,K,hr⟩:=hr
 refine bH' (fun w k=>k.rekey (i:=4009) (j:=5000) z (by rw[f]; rfl))<|cw' z z (t' E182 z) (bS' K) z (Q) (lc z (lc z ln)) hz (fun au aC ar u C=>?_)
 obtain⟨E,H,Z,rfl,rfl,V⟩:=C
 refine bH' (fun w k=>k.rekey (i:=5000) (j:=4011) z (by rw[f]; rfl))<|bE' (r:=b') (e:=110) 4011 V z (by rw[f]; rfl) fun aw aD q M aa=>yy (aY' z) z<|aD' 2 ([.slice c l.vars.length d,.slice E I.length H,.slice g l.neqs.length h,i' l.next]).toArray z sz29 z z z (show 1<4 by decide) z z<|nr<|yy (bb' z) z<|yy (f' 2 bq' z z z) z ?_
 obtain⟨aB,P,hr⟩:=hr
 refine cw' z z (t' E176 z) (ce' P) z ((A.mono (mx (mx v u) q))) ln hz (fun ao aA ak o x=>?_)
 obtain⟨ah,al,ae,rfl,rfl,O⟩:=x
 refine bH' (fun w k=>k.rekey (i:=7000) (j:=4015) z (by rw[f]; rfl))<|mv z z ?_
 obtain⟨Y,L,hr⟩:=hr
 refine bH' (fun w k=>k.rekey (i:=4015) (j:=5000) z (by rw[f]; rfl))<|cw' z z (t' E182 z) (bS' L) z (O) (lc z (lc z ln)) hz (fun ai aE aq t B=>?_)
 obtain⟨S,T,ac,rfl,rfl,R⟩:=B
 refine bH' (fun w k=>k.rekey (i:=5000) (j:=4017) z (by rw[f]; rfl))<|bE' (r:=b') (e:=110) 4017 R z (by rw[f]; rfl) fun ax az s X ad=>yy (bb' z) z<|aD' 2 ([.slice c l.vars.length d,.slice E I.length H,.slice S Y.length T,i' l.next]).toArray z sz29 z z z (show 2<4 by decide) z z<|nr<|yy (o' 2 au' z z z) z<|s' 4 z aV' z z z z z (List.all_eq_true.1 z)<|nx<|j' ?_
 obtain rfl:_=r:=hr
 exact k' z (ad' (i:=4) au' z z z) ⟨_,_,_,_,_,_,z,(D.mono (mx (mx (mx (mx (mx v u) q) o) t) s)),(M.mono (mx (mx o t) s)),X⟩
theorem gN'{F D c f p o g j x u r}(hr:(Zhd F D).Ret r):Ctr prog 90 #[.agg ((v31' F c f p o g j)).toArray,.agg ((v48' D x u)).toArray] (fun G=>sl Rp.str G c f F.vars/\sl b' G p o F.eqs/\sl b' G g j F.neqs/\sl K' G x u D.p) (w31t' r):=by
 refine H' (args:=[_,_]) (N:=22) func90 z z z (fun w0 G0 X P=>?_)
 obtain⟨h,n,d,aa⟩:=P
 refine sr<|ag' 2 z z z fun b1=>ag' 3 z z z fun b2=>Q' 4 z z31 z fun b3=>sx0 z z<|n'<|sr<|yy (o' 2 au' z z z) z<|yy (aS' z) z<|yy (f' 3 sc3 z z z) z ?_
 obtain⟨ak,S,hr⟩:=hr
 refine P' z z (t' E138 z) (dA' S) z (⟨h,n,d⟩) (fun ad ai m y=>?_)
 obtain⟨ag,ae,rfl,O⟩:=y
 obtain⟨V,I,hr⟩:=hr
 refine P' z z (t' E121 z) (bz' I) z (O) (fun ah am l C=>?_)
 obtain⟨ac,ab,rfl,H⟩:=C
 obtain⟨E,t,rfl⟩:=ci' H
 refine bc' (e:=178) (r:=(Rp.fn prog fa0 foI)) (vs:=#[(0,(.func (.func E) #[] t))]) (cs:=[(.func (.func E) #[] t)]++([])) ([V]:List (Unit->Cq Int)) z z z z z (by decide) (fun _=>by kernel_rfl) ⟨[(.func (.func E) #[] t)],[],z,⟨_,z,H⟩,z⟩ (key:=999) z (by rw[X]; rfl) (fun p1 an k W=>?_)
 obtain⟨al,M,hr⟩:=hr
 refine E' z z (t' E120 z) (cT' M) z (W)<|sg z z<|nr<|mv z z<|yy (aw' z z) z<|nx<|L' hr z (fun Y hr=>?_) (fun Y hr=>?_)
 .refine sr<|yy (av' (vs:=#[]) (v:=.agg ([.slice none 0 0,.slice none 0 0,.slice none 0 0,i' 0]).toArray) z z (fun _=>by kernel_rfl)) z<|mv z z<|s' 4 z aV' z z z z z (List.all_eq_true.1 z)<|sx0 z z<|j'<|a' ?_
  obtain rfl:_=r:=hr
  exact aH' z (ad' (i:=4) au' z z z) z ⟨_,_,_,_,_,_,z,(R' Rp.str _),(R' b' _),(R' b' _)⟩
 refine q'<|g'<|sr<|yy (o' 2 au' z z z) z<|yy (aS' z) z<|yy (f' 3 sc3 z z z) z ?_
 obtain⟨aj,L,hr⟩:=hr
 have N1:=mx (mx m l) k
 refine P' z z (t' E143 z) (eW' L) z (⟨(h.mono N1),(n.mono N1),(d.mono N1)⟩) (fun af ao Z B=>?_)
 obtain⟨K,R,U,T,J,Q,rfl,s,A,q⟩:=B
 refine s' 4 z aV' z z z z z (List.all_eq_true.1 z)<|sx0 z z<|j' ?_
 obtain rfl:_=r:=hr
 exact aH' z (ad' (i:=4) au' z z z) z ⟨_,_,_,_,_,_,z,s,A,q⟩
theorem gA'{h e f j c d m r}(hr:(ZfC h e).Ret r):CtrL prog 144 #[.agg ((v110' h.id f h.p j)).toArray,pt0 m] [(118203,bk0 m (v48' e c d) 48)] (fun G=>sl K' G f j h.p/\sl K' G c d e.p) (fun G L v=>L=[(118203,bk0 m (v48' e c d) 48)]/\(∃ k l,v = .agg ((v110' r.id k r.p l)).toArray/\sl K' G k l r.p)):=by
 refine bh' (args:=[_,_]) (N:=13) func144 z z z (fun u t q n=>?_)
 obtain⟨o,g⟩:=n
 refine sr<|ag' 2 z z z fun x=>Q' 3 z z110 z fun s=>nx<|n'<|sr<|yy (bn' z) z<|yy (f' 2 sc3 z z z) z<|yy (aS' z) z<|yy (f' 118203 sc3 z z z) z<|yy (at' z z) z<|nx<|L' hr z (fun p hr=>?_) (fun p hr=>?_)
 .refine A'<|yy (dp' z) z<|yy (f' 118203 cG' z z z) z<|yy (bZ' z) z<|aD' 2 ([i' h.id,.slice c e.p.length d]).toArray z sz46 z z z (show 1<2 by decide) z z<|nr<|yy (o' 2 bO' z z z) z<|s' 3 z aT' z z z z z (List.all_eq_true.1 z)<|nx<|j' ?_
  obtain rfl:_=r:=hr
  exact di' z (ad' (i:=3) bO' z z z) (lc z ln) ⟨z,⟨_,_,z,g⟩⟩
 refine q'<|g'<|sr<|yy (o' 2 bO' z z z) z<|s' 3 z aT' z z z z z (List.all_eq_true.1 z)<|nx<|j' ?_
 obtain rfl:_=r:=hr
 exact di' z (ad' (i:=3) bO' z z z) (lc z ln) ⟨z,⟨_,_,z,o⟩⟩
theorem cL'{j h M K d f y r}(hr:(ZL j h).Ret r):CtrL prog 145 #[.slice M j.length K,.func (.func 144) #[] #[pt0 y]] [(118203,bk0 y (v48' h d f) 48)] (fun G=>sl b' G M K j/\sl K' G d f h.p) (fun G L v=>L=[(118203,bk0 y (v48' h d f) 48)]/\(∃ zp zc,v = .slice zp r.length zc/\sl b' G zp zc r)):=by
 refine bh' (args:=[_,_]) (N:=26) func145 z z z (fun P F T W=>?_)
 obtain⟨B,H⟩:=W
 have hz:P.L.zero:=by
  rw[T]; intro p hp x X
  simp only[List.mem_cons,List.not_mem_nil,or_false] at hp
  subst hp; cases X; rfl
 refine sr<|sg z z<|nr<|mv z z<|yy (M' y' B z) z ?_
 obtain⟨ac,hr⟩:=hr
 refine dT' (r:=b') (e:=110) (n:=(j.length:Int)) (zx:=(Zb.mk 0 [])) 4010 z z y' el110 z (by decide) (by decide) ⟨[i' 0],[.slice none 0 0],z,z,⟨_,z,(R' _ _)⟩⟩ z z ac fun O V aj=>sx0 z z<|n'<|sr<|mv z z<|yy (M' y' B z) z<|mv z z<|nx<|am' (fun (⟨q,k,t⟩:(List Zb)×Option Ow×Mem)=>[(5,.slice O (j.length:Int).toNat ((j.length:Int).toNat))]) (fun ⟨q,k,t⟩=>Mem.le F t/\RowR b' 110 t (.slice O (j.length:Int).toNat ((j.length:Int).toNat)) q k/\(ZS q).Ret r) (fun ⟨q,k,t⟩=>St P F t [(118203,bk0 y (v48' h d f) 48),(4010,k)]) ?_ ?_
 .refine C' ?_
  let J:(List Zb)->Prop:=fun oo=>((fun ov=>match ov with|q=>ZS q:(List Zb)->Cq (List Zb)) oo).wp (fun a=>a=r)
  replace hr:(Cq.loop _ _).wp J:=hr
  refine an' (Φ:=J) (fun (⟨o,g,c,m⟩:(List Zb)×Option Ow×Int×Mem)=>((o,c):(List Zb)×Int)) (fun ⟨o,g,c,m⟩=>[(1,.func (.func 144) #[] #[pt0 y]),(5,.slice O (j.length:Int).toNat ((j.length:Int).toNat)),(11,.slice M j.length K),(12,i' (j.length:Int)),(13,i' c)]) (fun ⟨o,g,c,m⟩=>Mem.le F m/\RowR b' 110 m (.slice O (j.length:Int).toNat ((j.length:Int).toNat)) o g) (fun ⟨o,g,c,m⟩=>St P F m [(118203,bk0 y (v48' h d f) 48),(4010,g)]) ⟨(List.replicate (j.length:Int).toNat (Zb.mk 0 [])),V,0,F⟩ hr (f5 z z z z z) ⟨mr,aj⟩ (w2 z z) ?_
  .intro ay gx X hr
   obtain⟨o,g,c,m⟩:=gx
   obtain⟨l,A⟩:=X
   refine sr<|yy (aj' z z) z<|nx<|n'<|L' hr z (fun al hr=>?_) (fun al hr=>?_)
   .refine q'<|g'<|n'<|C'<|sr<|mv z z ?_
    obtain⟨x1,S,hr⟩:=hr
    refine yy (V' y' aT' (B.mono l) z z S) z ?_
    obtain⟨ap,ar,af,Y⟩:=bp' (J' (af' B S) l)
    refine yy (aC' _ bO' z z af) z<|Q' 7 z z110 z fun b2=>sg z z<|s' 7 z aT' z z z z z (List.all_eq_true.1 z)<|nx<|A'<|mv z z<|mv z z<|mv z z<|yy (o' 7 bO' z z z) z ?_
    obtain⟨s,Z,hr⟩:=hr
    refine WL.callRO z z (dj' E144 z z) (gA' Z) z (⟨Y,(H.mono l)⟩) (lc z ln) (fun i hi=>by simp only[List.map_cons,List.map_nil,List.mem_cons,List.not_mem_nil,or_false] at hi; subst hi; exact z) hz (fun aq ah u E=>?_)
    obtain⟨D,C,rfl,Q⟩:=E
    obtain⟨x2,R,hr⟩:=hr
    refine yy (aQ' y' aT' (A.mono u) z z R) z<|bx' (r:=b') (e:=110) (cs':=(v110' s.id D s.p C)) (i:=c) (z':=s) 4010 z aT' z (A.mono u) z z z z ⟨[i' s.id],[.slice D s.p.length C],z,z,⟨_,z,Q⟩⟩ R fun ad aa=>v'<|I'<|g'<|A'<|yy (W' z z) z<|mv z z<|v'<|Y' ⟨(o.set c.toNat s),ad,i64.wrap (c+1),ah⟩ hr ⟨(mx l u),aa⟩ (f5 z z z z z) (w2 z z)
   refine ap'<|r'<|r'<|O'<|aq' ⟨o,g,m⟩ ⟨l,A,hr⟩ (f1 z) (w2 z z)
 rintro⟨q,k,t⟩ ⟨am,U,hr⟩
 refine g'<|sr<|mv z z<|sx0 z z<|j' ?_
 obtain rfl:_=r:=hr
 refine WE.freezeT (r:=b') (e:=110) 4010 U z (by rw[T]; rfl) fun ax ab ao I an=>aE' (S':=St P F ab [(118203,bk0 y (v48' h d f) 48)]) (w1 z)<|k' z z ⟨z,⟨_,_,(dm' I),(df' I)⟩⟩
theorem gX'{F O l m M L A x B C r}(hr:(ZiA F O).Ret r):Ctr prog 91 #[.agg ((v31' F l m M L A x)).toArray,.agg ((v48' O B C)).toArray] (fun G=>sl Rp.str G l m F.vars/\sl b' G M L F.eqs/\sl b' G A x F.neqs/\sl K' G B C O.p) (w31t' r):=by
 refine H' (args:=[_,_]) (N:=36) func91 z z z (fun w0 G0 ao aB=>?_)
 obtain⟨y,D,t,J⟩:=aB
 have hz:w0.L.zero:=by rw[ao]; intro p hp; simp at hp
 refine sr<|ag' 2 z z z fun b1=>ag' 118203 z z z fun b2=>Q' 4 z z31 z fun b3=>sx0 z z<|n'<|ah' [ff,ff,ff,ff,ff,ff,ff,ff] mix (by kernel_rfl) fun hb=>cn (fun _ c=>o' 2 au' z z z)<|cn (fun _ c=>aS' z)<|cn (fun _ c=>f' 118203 sc3 z z z) ?_
 obtain⟨af,av,hr⟩:=hr
 refine aX' (post:=fun G v=>∃ j k,v=j/\FnRd prog fa0 foB G j k af) (fun _=>z) (fun _ _=>t' E138 z) (dA' av) z (fun G' c=>⟨(y.mono c),(D.mono c),(t.mono c)⟩) (fun v G1 G2 c h=>?_) ?_
 .obtain⟨j,k,rfl,H⟩:=h
  exact⟨_,_,z,H.mono c⟩
 obtain⟨ad,aw,hr⟩:=hr
 refine cE' (f:=121) (φ:=fun G v=>∃ q E,v=q/\FnRd prog fa0 foI G q E ad) (fun _=>z) (fun v G1 G2 c h=>?_) (fun u G' c hu=>?_) ?_
 .obtain⟨q,E,rfl,K⟩:=h
  exact⟨_,_,z,K.mono c⟩
 .obtain⟨⟨j,k,am,H⟩,_⟩:=(show (fun G v=>∃ j k,v=j/\FnRd prog fa0 foB G j k af) G'.m (u 11)/\True from hu)
  exact⟨_,_,_,fun _=>t' E121 z,bz' aw,(by simp only[am] <;> rfl),H⟩
 refine cu (fun _ _ c=>o' 2 au' z z z)<|cu (fun _ _ c=>dp' z)<|cu (fun _ _ c=>f' 118203 cG' z z z)<|dx' (d:=12) (post:=fun G v=>∃ q E,v=q/\FnRd prog fa0 foI G q E ad) (d':=11) (post':=fun G v=>∃ j k,v=j/\FnRd prog fa0 foB G j k af) (fun aN aO aX g ab X=>?_)
 obtain⟨q,E,rfl,K⟩:=ab
 obtain⟨j,k,rfl,H⟩:=X
 obtain⟨aV,ay,hr⟩:=hr
 refine P' z z (t' E141 z) (fK' ay) z (⟨(y.mono g),(D.mono g),(t.mono g),(J.mono g)⟩) (fun aI aU n Z=>?_)
 obtain⟨aP,aS,rfl,au⟩:=Z
 obtain⟨aC,ap,hr⟩:=hr
 refine P' z z (t' E121 z) (bz' ap) z (au) (fun aL aW o Y=>?_)
 obtain⟨aM,aJ,rfl,ag⟩:=Y
 obtain⟨ae,Q,rfl⟩:=ci' K
 obtain⟨V,I,rfl⟩:=ci' ag
 refine bc' (e:=178) (r:=(Rp.fn prog fa0 foI)) (vs:=#[(0,(.func (.func ae) #[] Q)),(1,(.func (.func V) #[] I))]) (cs:=[(.func (.func ae) #[] Q)]++([(.func (.func V) #[] I)]++([]))) ([ad,aC]:List (Unit->Cq Int)) z z z z z (by decide) (fun _=>by kernel_rfl) ⟨[(.func (.func ae) #[] Q)],[(.func (.func V) #[] I)]++([]),z,⟨_,z,(K.mono (mx n o))⟩,⟨[(.func (.func V) #[] I)],[],z,⟨_,z,ag⟩,z⟩⟩ (key:=999) z (by rw[ao]; rfl) (fun p1 aT s aD=>?_)
 obtain⟨aY,ax,hr⟩:=hr
 refine E' z z (t' E120 z) (cT' ax) z (aD)<|sg z z<|v'<|ar'<|g'<|n'<|sr<|mv z z<|yy (aw' z z) z<|nx<|L' hr z (fun aF hr=>?_) (fun aF hr=>?_)
 .refine sr<|yy (av' (vs:=#[]) (v:=.agg ([.slice none 0 0,.slice none 0 0,.slice none 0 0,i' 0]).toArray) z z (fun _=>by kernel_rfl)) z<|mv z z<|s' 4 z aV' z z z z z (List.all_eq_true.1 z)<|sx0 z z<|j'<|a' ?_
  obtain rfl:_=r:=hr
  exact aH' z (ad' (i:=4) au' z z z) z ⟨_,_,_,_,_,_,z,(R' Rp.str _),(R' b' _),(R' b' _)⟩
 refine q'<|g'<|sr<|yy (bU' z z) z<|sx0 z z<|n'<|ah' [ff,ff,ff,ff,ff,ff,ff,ff,ff] mix (by kernel_rfl) fun hb=>cn (fun _ c=>aY' z)<|cn (fun _ c=>f' 2 bq' z z z)<|cn (fun _ c=>e' z) ?_
 obtain⟨U,aq,hr⟩:=hr
 refine eB' (f:=145) (φ:=wl' b' U) (L1:=[(118203,bk0 b2 (v48' O B C) 48)]) (fun _=>z) (fun v G1 G2 c h=>?_) (lc z ln) (fun i hi=>by simp only[List.map_cons,List.map_nil,List.mem_cons,List.not_mem_nil,or_false] at hi; subst hi; exact z) hz (fun u G' c hu=>?_) ?_
 .obtain⟨S,P,rfl,T⟩:=h
  exact⟨_,_,z,T.mono c⟩
 .have N1:=mx (mx (mx g n) o) s
  exact⟨_,_,_,fun _=>t' E145 z,cL' aq,z,⟨((D.mono N1).mono c),((J.mono N1).mono c)⟩⟩
 refine cu (fun _ _ c=>bb' z)<|cu (fun _ _ c=>f' 2 bq' z z z)<|cu (fun _ _ c=>e' z) ?_
 obtain⟨aj,az,hr⟩:=hr
 refine eB' (f:=145) (φ:=wl' b' aj) (L1:=[(118203,bk0 b2 (v48' O B C) 48)]) (fun _=>z) (fun v G1 G2 c h=>?_) (lc z ln) (fun i hi=>by simp only[List.map_cons,List.map_nil,List.mem_cons,List.not_mem_nil,or_false] at hi; subst hi; exact z) hz (fun u G' c hu=>?_) ?_
 .obtain⟨ai,ac,rfl,R⟩:=h
  exact⟨_,_,z,R.mono c⟩
 .obtain⟨_,_⟩:=(show True/\True from hu)
  have N2:=mx (mx (mx g n) o) s
  exact⟨_,_,_,fun _=>t' E145 z,cL' az,z,⟨((t.mono N2).mono c),((J.mono N2).mono c)⟩⟩
 refine cu (fun _ _ c=>aY' z)<|dx' (d:=32) (post:=wl' b' aj) (d':=28) (post':=wl' b' U) (fun aK aH aZ al aa W=>?_)
 obtain⟨ai,ac,rfl,R⟩:=aa
 obtain⟨S,P,rfl,T⟩:=W
 refine aD' 2 ([.slice l F.vars.length m,.slice S U.length P,.slice A F.neqs.length x,i' F.next]).toArray z sz29 z z z (show 1<4 by decide) z z<|yy (bb' z) z<|aD' 2 ([.slice l F.vars.length m,.slice S U.length P,.slice ai aj.length ac,i' F.next]).toArray z sz29 z z z (show 2<4 by decide) z z<|v'<|ar'<|g'<|sr<|yy (o' 2 au' z z z) z<|s' 4 z aV' z z z z z (List.all_eq_true.1 z)<|sx0 z z<|j' ?_
 obtain rfl:_=r:=hr
 exact aH' z (ad' (i:=4) au' z z z) z ⟨_,_,_,_,_,_,z,(y.mono (mx (mx (mx (mx g n) o) s) al)),T,R⟩
theorem fZ'(g:Za)(h:Bool)(s:Nat)(u:Nat)(r:Bool)(hr:(ZaB g h).Ret r):Ctr prog 146 #[pt0 s,pt0 u] (fun G=>At aR' G s 0 g/\At Rp.bool G u 0 h) (fun G v=>v = .bool r):=by
 refine H' (args:=[_,_]) (N:=9) func146 z z z (fun J I H l=>?_)
 obtain⟨i,j⟩:=l
 refine sr<|sg z z<|nr ?_
 obtain⟨p,o,y,t,q,n,x,e,f,d⟩:=cY' i
 refine yy (aC' _ au' z z x) z<|yy (aa' sc4 z (AtK.bool j)) z<|yy (al' z) z ?_
 obtain⟨F,m,hr⟩:=hr
 refine P' z z (t' E140 z) (dY' m) z (⟨e,f,d⟩) (fun B E A c=>?_)
 obtain⟨D,C,rfl,k⟩:=c
 refine yy (M' y' k z) z<|yy (aj' z z) z<|sx0 z z<|j' (k0' hr z z)
theorem gO'{s ae n o m l j g O Q r}(hr:(Zhf s ae).Ret r):Ctr prog 92 #[.agg ((v31' s n o m l j g)).toArray,.agg ((v48' ae O Q)).toArray] (fun G=>sl Rp.str G n o s.vars/\sl b' G m l s.eqs/\sl b' G j g s.neqs/\sl K' G O Q ae.p) (w31t' r):=by
 refine H' (args:=[_,_]) (N:=39) func92 z z z (fun w0 G0 ac aC=>?_)
 obtain⟨q,y,p,aO⟩:=aC
 refine sr<|ag' 118402 z z z fun b1=>ag' 3 z z z fun b2=>Q' 4 z z31 z fun b3=>sg z z<|nr<|yy (o' 118402 au' z z z) z<|yy (aS' z) z<|yy (f' 3 sc3 z z z) z ?_
 obtain⟨ag,au,hr⟩:=hr
 refine P' z z (t' E66 z) (eb' au) z (⟨q,y,p⟩) (fun a3 bb c T=>?_)
 obtain⟨aF,aH,rfl,U⟩:=T
 refine mv z z<|yy (x' z z) z<|yy (x' z z) z<|yy (x' z z) z<|Q' 6 z z110 z fun b4=>Q' 118407 z z4 z fun b5=>s' 6 z aT' z z z z z (List.all_eq_true.1 z)<|aD' 118407 ([.bool ag.2.1]).toArray z sz4 z z z (by first|decide|simp) z z<|sx0 z z<|n'<|bI' 118402 z (by rw[ac]; rfl) fun a8 k ay ax=>bI' 118407 z (by rw[ac]; rfl) fun ba A an aq=>A'<|yy (o' 118402 au' z z z) z<|yy (aS' z) z<|yy (f' 3 sc3 z z z) z ?_
 obtain⟨a9,av,hr⟩:=hr
 have N1:=mx (mx c k) A
 refine P' z z (t' E138 z) (dA' av) z (⟨(q.mono N1),(y.mono N1),(p.mono N1)⟩) (fun a2 a6 D aa=>?_)
 obtain⟨aY,aX,rfl,aD⟩:=aa
 obtain⟨aK,az,hr⟩:=hr
 refine P' z z (t' E121 z) (bz' az) z (aD) (fun aS aM C Z=>?_)
 obtain⟨a4,a5,rfl,ad⟩:=Z
 refine yy (bU' z z) z ?_
 obtain⟨aI,al,hr⟩:=hr
 refine P' z z (t' E121 z) (bz' al) z ((show FnRd prog fa0 foB aM (.func (.func 146) #[] #[pt0 b1,pt0 b5]) () (fun _=>ZaB s ag.2.1) from (du' E146 (fun x hx=>dv' (fZ' _ _ _ _ x hx) (fun G' f=>⟨(J' (cm' (r:=aR') (cs:=(v31' s n o m l j g)) ay z ⟨[.slice n s.vars.length o],[.slice m s.eqs.length l,.slice j s.neqs.length g,i' s.next],z,⟨_,z,(q.mono (mx c k))⟩,⟨[.slice m s.eqs.length l],[.slice j s.neqs.length g,i' s.next],z,⟨_,z,(y.mono (mx c k))⟩,⟨[.slice j s.neqs.length g],[i' s.next],z,⟨_,z,(p.mono (mx c k))⟩,z⟩⟩⟩) (mx (mx (mx A D) C) f)),(J' (cm' (r:=Rp.bool) (cs:=[.bool ag.2.1]) an z z) (mx (mx D C) f))⟩))))) (fun a0 bf P V=>?_)
 obtain⟨a1,aT,rfl,ah⟩:=V
 obtain⟨af,F,rfl⟩:=ci' ad
 obtain⟨R,E,rfl⟩:=ci' ah
 refine bc' (e:=178) (r:=(Rp.fn prog fa0 foI)) (vs:=#[(0,(.func (.func af) #[] F)),(1,(.func (.func R) #[] E))]) (cs:=[(.func (.func af) #[] F)]++([(.func (.func R) #[] E)]++([]))) ([aK,aI]:List (Unit->Cq Int)) z z z z z (by decide) (fun _=>by kernel_rfl) ⟨[(.func (.func af) #[] F)],[(.func (.func R) #[] E)]++([]),z,⟨_,z,(ad.mono P)⟩,⟨[(.func (.func R) #[] E)],[],z,⟨_,z,ah⟩,z⟩⟩ (key:=999) z (by rw[ac]; rfl) (fun p1 a7 aj aL=>?_)
 obtain⟨be,aw,hr⟩:=hr
 refine E' z z (t' E120 z) (cT' aw) z (aL)<|sg z z<|dc' 118407 z aq (mx c k) (mx (mx (mx (mx A D) C) P) aj)<|dc' 118402 z ax c k<|nx<|n'<|sr<|mv z z<|yy (aw' z z) z<|nx<|L' hr z (fun aN hr=>?_) (fun aN hr=>?_)
 .refine sr<|yy (av' (vs:=#[]) (v:=.agg ([.slice none 0 0,.slice none 0 0,.slice none 0 0,i' 0]).toArray) z z (fun _=>by kernel_rfl)) z<|mv z z<|s' 4 z aV' z z z z z (List.all_eq_true.1 z)<|sx0 z z<|j'<|a' ?_
  obtain rfl:_=r:=hr
  exact aH' z (ad' (i:=4) au' z z z) z ⟨_,_,_,_,_,_,z,(R' Rp.str _),(R' b' _),(R' b' _)⟩
 refine q'<|g'<|n'<|ah' [ff,ff,ff,ff,ff,ff,ff] mix (by kernel_rfl) fun hb=>cn (fun _ f=>o' 118402 au' z z z)<|cn (fun _ f=>aS' z)<|cn (fun _ f=>f' 3 sc3 z z z) ?_
 obtain⟨ak,am,hr⟩:=hr
 refine aX' (post:=w31' ak) (fun _=>z) (fun _ _=>t' E143 z) (eW' am) z (fun G' f=>⟨((q.mono c).mono f),((y.mono c).mono f),((p.mono c).mono f)⟩) (fun v G1 G2 f h=>?_) ?_
 .obtain⟨I,J,W,Y,M,L,rfl,t,B,u⟩:=h
  exact⟨_,_,_,_,_,_,z,t.mono f,B.mono f,u.mono f⟩
 refine cu (fun _ _ f=>o' 6 bO' z z z)<|cu (fun _ _ f=>f' 118407 sc4 z z z)<|cu (fun _ _ f=>al' z)<|cU' (d:=34) (post:=w31' ak) (fun aQ bc ai S=>?_)
 obtain⟨I,J,W,Y,M,L,rfl,t,B,u⟩:=S
 obtain⟨bd,aB,hr⟩:=hr
 refine P' z z (t' E142 z) (fi' aB) z (⟨t,B,u,(U.mono ai)⟩) (fun aZ aR aJ ab=>?_)
 obtain⟨ap,aA,aG,aE,ao,ar,rfl,K,X,H⟩:=ab
 refine s' 4 z aV' z z z z z (List.all_eq_true.1 z)<|sg z z<|v'<|ar'<|g'<|j' ?_
 obtain rfl:_=r:=hr
 exact aH' z (ad' (i:=4) au' z z z) z ⟨_,_,_,_,_,_,z,K,X,H⟩
theorem eM'{s1 e l m S O o n X Y r}(hr:(ZcN s1 e).Ret r):Ctr prog 50 #[.agg ((v31' s1 l m S O o n)).toArray,.agg ((v48' e X Y)).toArray] (fun G=>sl Rp.str G l m s1.vars/\sl b' G S O s1.eqs/\sl b' G o n s1.neqs/\sl K' G X Y e.p) (w31t' r):=by
 refine H' (args:=[_,_]) (N:=24) func50 z z z (fun w0 G0 bT bl=>?_)
 obtain⟨g,j,d,k⟩:=bl
 refine sr<|ag' 2 z z z fun b1=>ag' 3 z z z fun b2=>Q' 4 z z31 z fun b3=>sx0 z z<|n'<|ah' [ff,ff,ff,ff,ff,ff,tt] mix (by kernel_rfl) fun hb=>Chain.callMap (f:=67) (ky:=ky3) (Rv:=RvF) Zu (fun _=>z) (fun u G' R hu=>⟨_,_,_,fun _=>t' E67 z,gH',z,trivial⟩)<|cu (fun _ _ R=>cB' z)<|cu (fun _ _ R=>f' 3 sc3 z z z) ?_
 obtain⟨bq,hr⟩:=hr
 refine Chain.lookF (ky:=ky3) (dm:=9) Zu e.kind (fun _=>z) cb' zv104 bq (fun u G' R hu=>?_) ?_
 .obtain⟨h,_⟩:=(show MapX ky3 RvF 9 Zu (u 9) G'/\True from hu)
  exact⟨u 9,h,z,z⟩
 refine cu (fun _ _ R=>e' z)<|cu (fun _ _ R=>x' z z)<|Chain.floatU (fun _=>z) (fun _=>x' z z)<|Chain.tailX1 fun bK X1 c bn=>cg' (show WL _ _ _ _ _ _ (St w0 G0 X1.m _) from ?_)
 refine sg z z<|sg z z<|v'<|ar'<|g'<|n'<|sr<|mv z z<|yy (al' z) z<|nx<|aL' hr z (fun br hr=>?_) (fun br hr=>?_)
 .refine sr<|yy (av' (vs:=#[]) (v:=.agg ([.slice none 0 0,.slice none 0 0,.slice none 0 0,i' 0]).toArray) z z (fun _=>by kernel_rfl)) z<|s' 4 z aV' z z z z z (List.all_eq_true.1 z)<|sx0 z z<|j'<|a' ?_
  obtain rfl:_=r:=hr
  exact aH' z (ad' (i:=4) au' z z z) z ⟨_,_,_,_,_,_,z,(R' Rp.str _),(R' b' _),(R' b' _)⟩
 refine q'<|g'<|sr<|mv z z<|yy (o' 2 au' z z z) z<|yy (o' 3 bP' z z z) z ?_
 by_cases hf1:(1:Int)=e.kind
 .replace hr:=hr.pos hf1
  have bb:selV Value.nilFunc (mget Zu e.kind) = .func (.func 85) #[] #[]:=by simp only[Zu,mget,selV,if_pos hf1]
  rw[bb]
  obtain⟨bU,be,hr⟩:=hr
  refine P' z z (dj' E85 z z) (gy' be) z (⟨(g.mono c),(j.mono c),(d.mono c),(k.mono c)⟩) (fun bI bY bz af=>?_)
  obtain⟨aK,aG,aW,a3,au,ax,rfl,H,M,B⟩:=af
  refine yy (x' z z) z<|yy (x' z z) z<|s' 4 z aV' z z z z z (List.all_eq_true.1 z)<|sx0 z z<|j' ?_
  obtain rfl:_=r:=hr
  exact aH' z (ad' (i:=4) au' z z z) z ⟨_,_,_,_,_,_,z,H,M,B⟩
 replace hr:=hr.neg hf1
 by_cases hf2:(2:Int)=e.kind
 .replace hr:=hr.pos hf2
  have a9:selV Value.nilFunc (mget Zu e.kind) = .func (.func 86) #[] #[]:=by simp only[Zu,mget,selV,if_pos hf2,if_neg hf1]
  rw[a9]
  obtain⟨bW,bj,hr⟩:=hr
  refine P' z z (dj' E86 z z) (gn' bj) z (⟨(g.mono c),(j.mono c),(d.mono c),(k.mono c)⟩) (fun bE bS bv ae=>?_)
  obtain⟨aE,al,aQ,aS,ap,aw,rfl,y,T,p⟩:=ae
  refine yy (x' z z) z<|yy (x' z z) z<|s' 4 z aV' z z z z z (List.all_eq_true.1 z)<|sx0 z z<|j' ?_
  obtain rfl:_=r:=hr
  exact aH' z (ad' (i:=4) au' z z z) z ⟨_,_,_,_,_,_,z,y,T,p⟩
 replace hr:=hr.neg hf2
 by_cases hf3:(3:Int)=e.kind
 .replace hr:=hr.pos hf3
  have bg:selV Value.nilFunc (mget Zu e.kind) = .func (.func 87) #[] #[]:=by simp only[Zu,mget,selV,if_pos hf3,if_neg hf1,if_neg hf2]
  rw[bg]
  obtain⟨bO,a6,hr⟩:=hr
  refine P' z z (dj' E87 z z) (gz' a6) z (⟨(g.mono c),(j.mono c),(d.mono c),(k.mono c)⟩) (fun bH bX bx aa=>?_)
  obtain⟨aD,aj,aZ,aY,ar,aF,rfl,J,Q,q⟩:=aa
  refine yy (x' z z) z<|yy (x' z z) z<|s' 4 z aV' z z z z z (List.all_eq_true.1 z)<|sx0 z z<|j' ?_
  obtain rfl:_=r:=hr
  exact aH' z (ad' (i:=4) au' z z z) z ⟨_,_,_,_,_,_,z,J,Q,q⟩
 replace hr:=hr.neg hf3
 by_cases hf4:(4:Int)=e.kind
 .replace hr:=hr.pos hf4
  have bh:selV Value.nilFunc (mget Zu e.kind) = .func (.func 88) #[] #[]:=by simp only[Zu,mget,selV,if_pos hf4,if_neg hf1,if_neg hf2,if_neg hf3]
  rw[bh]
  obtain⟨b5,bi,hr⟩:=hr
  refine P' z z (dj' E88 z z) (gM' bi) z (⟨(g.mono c),(j.mono c),(d.mono c),(k.mono c)⟩) (fun bD bP bw ac=>?_)
  obtain⟨aq,an,a4,aV,ai,av,rfl,C,V,K⟩:=ac
  refine yy (x' z z) z<|yy (x' z z) z<|s' 4 z aV' z z z z z (List.all_eq_true.1 z)<|sx0 z z<|j' ?_
  obtain rfl:_=r:=hr
  exact aH' z (ad' (i:=4) au' z z z) z ⟨_,_,_,_,_,_,z,C,V,K⟩
 replace hr:=hr.neg hf4
 by_cases hf5:(5:Int)=e.kind
 .replace hr:=hr.pos hf5
  have bf:selV Value.nilFunc (mget Zu e.kind) = .func (.func 89) #[] #[]:=by simp only[Zu,mget,selV,if_pos hf5,if_neg hf1,if_neg hf2,if_neg hf3,if_neg hf4]
  rw[bf]
  obtain⟨bQ,a7,hr⟩:=hr
  refine P' z z (dj' E89 z z) (gW' a7) z (⟨(g.mono c),(j.mono c),(d.mono c),(k.mono c)⟩) (fun bC bZ bu Z=>?_)
  obtain⟨aA,aN,a5,aT,az,aM,rfl,s,P,x⟩:=Z
  refine yy (x' z z) z<|yy (x' z z) z<|s' 4 z aV' z z z z z (List.all_eq_true.1 z)<|sx0 z z<|j' ?_
  obtain rfl:_=r:=hr
  exact aH' z (ad' (i:=4) au' z z z) z ⟨_,_,_,_,_,_,z,s,P,x⟩
 replace hr:=hr.neg hf5
 by_cases hf6:(6:Int)=e.kind
 .replace hr:=hr.pos hf6
  have ba:selV Value.nilFunc (mget Zu e.kind) = .func (.func 90) #[] #[]:=by simp only[Zu,mget,selV,if_pos hf6,if_neg hf1,if_neg hf2,if_neg hf3,if_neg hf4,if_neg hf5]
  rw[ba]
  obtain⟨b4,bk,hr⟩:=hr
  refine P' z z (dj' E90 z z) (gN' bk) z (⟨(g.mono c),(j.mono c),(d.mono c),(k.mono c)⟩) (fun bG b6 bt ag=>?_)
  obtain⟨aC,aB,a2,a1,aJ,am,rfl,I,W,D⟩:=ag
  refine yy (x' z z) z<|yy (x' z z) z<|s' 4 z aV' z z z z z (List.all_eq_true.1 z)<|sx0 z z<|j' ?_
  obtain rfl:_=r:=hr
  exact aH' z (ad' (i:=4) au' z z z) z ⟨_,_,_,_,_,_,z,I,W,D⟩
 replace hr:=hr.neg hf6
 by_cases hf7:(7:Int)=e.kind
 .replace hr:=hr.pos hf7
  have bd:selV Value.nilFunc (mget Zu e.kind) = .func (.func 91) #[] #[]:=by simp only[Zu,mget,selV,if_pos hf7,if_neg hf1,if_neg hf2,if_neg hf3,if_neg hf4,if_neg hf5,if_neg hf6]
  rw[bd]
  obtain⟨bN,bm,hr⟩:=hr
  refine P' z z (dj' E91 z z) (gX' bm) z (⟨(g.mono c),(j.mono c),(d.mono c),(k.mono c)⟩) (fun bB bR bA ab=>?_)
  obtain⟨aL,aO,aU,a0,ak,ao,rfl,F,L,E⟩:=ab
  refine yy (x' z z) z<|yy (x' z z) z<|s' 4 z aV' z z z z z (List.all_eq_true.1 z)<|sx0 z z<|j' ?_
  obtain rfl:_=r:=hr
  exact aH' z (ad' (i:=4) au' z z z) z ⟨_,_,_,_,_,_,z,F,L,E⟩
 replace hr:=hr.neg hf7
 by_cases hf8:(8:Int)=e.kind
 .replace hr:=hr.pos hf8
  have a8:selV Value.nilFunc (mget Zu e.kind) = .func (.func 92) #[] #[]:=by simp only[Zu,mget,selV,if_pos hf8,if_neg hf1,if_neg hf2,if_neg hf3,if_neg hf4,if_neg hf5,if_neg hf6,if_neg hf7]
  rw[a8]
  obtain⟨b0,bc,hr⟩:=hr
  refine P' z z (dj' E92 z z) (gO' bc) z (⟨(g.mono c),(j.mono c),(d.mono c),(k.mono c)⟩) (fun bJ bV bs ad=>?_)
  obtain⟨aH,aP,aX,aR,ay,aI,rfl,A,U,t⟩:=ad
  refine yy (x' z z) z<|yy (x' z z) z<|s' 4 z aV' z z z z z (List.all_eq_true.1 z)<|sx0 z z<|j' ?_
  obtain rfl:_=r:=hr
  exact aH' z (ad' (i:=4) au' z z z) z ⟨_,_,_,_,_,_,z,A,U,t⟩
 replace hr:=hr.neg hf8
 exact (show False from hr).elim
theorem fa'{s1 l1 M O Z V Q P ak am r}(hr:(Zez s1 l1).Ret r):Ctr prog 39 #[.agg ((v31' s1 M O Z V Q P)).toArray,.slice ak l1.length am] (fun G=>sl Rp.str G M O s1.vars/\sl b' G Z V s1.eqs/\sl b' G Q P s1.neqs/\sl Z' G ak am l1) (w31u' r):=by
 refine H' (args:=[_,_]) (N:=34) func39 z z z (fun w0 G0 aZ aG=>?_)
 obtain⟨ax,ay,au,aq⟩:=aG
 refine sr<|ag' 2 z z z fun b1=>Q' 4 z z31 z fun b2=>sg z z<|sx0 z z<|n'<|sr<|mv z z<|yy (M' ao' aq z) z<|mv z z<|nx<|am' (fun (⟨K,A,p,D,C,x,u,R,y,q,F,B,s,t,J⟩:Za×Option Addr×Nat×Option Addr×Nat×Option Addr×Nat×Za×Option Addr×Nat×Option Addr×Nat×Option Addr×Nat×Mem)=>[(1,.slice ak l1.length am),(2,pt0 b1),(4,pt0 b2)]) (fun ⟨K,A,p,D,C,x,u,R,y,q,F,B,s,t,J⟩=>Mem.le G0 J/\sl Rp.str J A p K.vars/\sl b' J D C K.eqs/\sl b' J x u K.neqs/\sl Rp.str J y q R.vars/\sl b' J F B R.eqs/\sl b' J s t R.neqs/\(Zfz l1 K).Ret r) (fun ⟨K,A,p,D,C,x,u,R,y,q,F,B,s,t,J⟩=>St w0 G0 J [(2,bk0 b1 (v31' K A p D C x u) 31),(4,bk0 b2 (v31' R y q F B s t) 31)]) ?_ ?_
 .refine C' ?_
  let az:((Za×Int×Int)⊕(Za×Za))->Prop:=fun oo=>((fun ov=>match ov with | .inl rv1=>Cq.ret rv1 | .inr (K,R)=>Zfz l1 K:((Za×Int×Int)⊕(Za×Za))->Cq (Za×Int×Int)) oo).wp (fun a=>a=r)
  replace hr:(Cq.loop _ _).wp az:=hr
  refine an' (Φ:=az) (fun (⟨H,L,k,g,o,n,j,h,I,f,c,l,m,e,d,E⟩:Int×Za×Option Addr×Nat×Option Addr×Nat×Option Addr×Nat×Za×Option Addr×Nat×Option Addr×Nat×Option Addr×Nat×Mem)=>((H,L,I):Int×Za×Za)) (fun ⟨H,L,k,g,o,n,j,h,I,f,c,l,m,e,d,E⟩=>[(1,.slice ak l1.length am),(2,pt0 b1),(4,pt0 b2),(11,.slice ak l1.length am),(12,i' (l1.length:Int)),(13,i' H)]) (fun ⟨H,L,k,g,o,n,j,h,I,f,c,l,m,e,d,E⟩=>Mem.le G0 E/\sl Rp.str E k g L.vars/\sl b' E o n L.eqs/\sl b' E j h L.neqs/\y31' E f c l m e d I) (fun ⟨H,L,k,g,o,n,j,h,I,f,c,l,m,e,d,E⟩=>St w0 G0 E [(2,bk0 b1 (v31' L k g o n j h) 31),(4,bk0 b2 (v31' I f c l m e d) 31)]) ⟨0,s1,M,O,Z,V,Q,P,(Za.mk [] [] [] 0),none,0,none,0,none,0,G0⟩ hr (f6 z z z z z z) ⟨mr,ax,ay,au,(R' _ _),(R' _ _),(R' _ _)⟩ (w2 z z) ?_
  .intro aY gx hx hr
   obtain⟨H,L,k,g,o,n,j,h,I,f,c,l,m,e,d,E⟩:=gx
   obtain⟨S,U,aa,Y,W,ab,X⟩:=hx
   refine sr<|yy (aj' z z) z<|nx<|n'<|L' hr z (fun aQ hr=>?_) (fun aQ hr=>?_)
   .refine q'<|g'<|n'<|C'<|sr<|mv z z ?_
    obtain⟨x1,aE,hr⟩:=hr
    refine yy (V' ao' cf' (aq.mono S) z z aE) z ?_
    obtain⟨aU,aW,aL,aH⟩:=dd' (J' (af' aq aE) S)
    refine yy (aC' _ bP' z z aL) z<|Q' 8 z z48 z fun b3=>sg z z<|s' 8 z cf' z z z z z (List.all_eq_true.1 z)<|nr<|yy (o' 2 au' z z z) z<|yy (o' 8 bP' z z z) z ?_
    obtain⟨aO,aF,hr⟩:=hr
    refine P' z z (t' E50 z) (eM' aF) z (⟨U,aa,Y,aH⟩) (fun aV aN T ar=>?_)
    obtain⟨ad,ah,aj,an,ae,ac,rfl,af,al,ag⟩:=ar
    refine mv z z<|yy (x' z z) z<|yy (x' z z) z<|Q' 9 z z31 z fun b4=>s' 9 z aV' z z z z z (List.all_eq_true.1 z)<|sx0 z z<|n'<|sr<|mv z z<|yy (aw' z z) z<|nx<|L' hr z (fun aM hr=>?_) (fun aM hr=>?_)
    .refine sr<|yy (av' (vs:=#[]) (v:=.agg ([.slice none 0 0,.slice none 0 0,.slice none 0 0,i' 0]).toArray) z z (fun _=>by kernel_rfl)) z<|mv z z<|mv z z<|s' 4 z aV' z z z z z (List.all_eq_true.1 z)<|sg z z<|sx0 z z<|j'<|a'<|m'<|a'<|a'<|m'<|ab'<|a' ?_
     obtain rfl:_=r:=hr
     exact cW' z (ad' (i:=4) au' z z z) z z ⟨_,_,_,_,_,_,z,(R' Rp.str _),(R' b' _),(R' b' _)⟩
    refine q'<|g'<|A'<|yy (o' 9 au' z z z) z<|s' 2 z aV' z z z z z (List.all_eq_true.1 z)<|v'<|I'<|g'<|A'<|yy (W' z z) z<|mv z z<|v'<|Y' ⟨i64.wrap (H+1),aO.1,ad,ah,aj,an,ae,ac,I,f,c,l,m,e,d,aN⟩ hr ⟨(mx S T),af,al,ag,(W.mono T),(ab.mono T),(X.mono T)⟩ (f6 z z z z z z) (w2 z z)
   refine ap'<|r'<|r'<|O'<|aq' ⟨L,k,g,o,n,j,h,I,f,c,l,m,e,d,E⟩ ⟨S,U,aa,Y,W,ab,X,hr⟩ (f3 z z z) (w2 z z)
 rintro⟨K,A,p,D,C,x,u,R,y,q,F,B,s,t,J⟩ ⟨aC,ao,aw,ap,aJ,aK,aI,hr⟩
 refine g'<|sr<|yy (o' 2 au' z z z) z<|mv z z<|yy (M' ao' (aq.mono aC) z) z<|s' 4 z aV' z z z z z (List.all_eq_true.1 z)<|sg z z<|sx0 z z<|j' ?_
 obtain rfl:_=r:=hr
 exact cW' z (ad' (i:=4) au' z z z) z z ⟨_,_,_,_,_,_,z,ao,aw,ap⟩
theorem gg'(ad:Zg)(b1 b2:Nat):∀ (k:Nat) (v1:Int) (r:Za),(Zcd ad k v1).Ret r->Ctr prog 38 #[i' v1,pt0 b1,pt0 b2] (fun G=>At Zbd G b1 0 ad/\G b2 0=some (.func (.func 38) #[] #[pt0 b1,pt0 b2])) (w31' r):=by
 intro k
 induction k
 .intro _ _ hr
  exact False.elim hr
 rename_i k ih
 intro v1 r hr
 refine H' (args:=[_,_,_]) (N:=32) func38 z z z (fun w0 G0 aY ax=>?_)
 obtain⟨B,ae⟩:=ax
 refine sr<|Q' 4 z z31 z fun b3=>nx<|n'<|sr<|mv z z<|yy (at' z z) z<|nx<|L' hr z (fun aM hr=>?_) (fun aM hr=>?_)
 .refine sr<|yy (cJ' z) z ?_
  obtain⟨az,aA,aK,aC,aB,ay,aD,S,ah,X⟩:=cY' (aW' (ay' B))
  refine yy (aC' _ au' z z aD) z<|s' 4 z aV' z z z z z (List.all_eq_true.1 z)<|nx<|j'<|a' ?_
  obtain rfl:_=r:=hr
  exact k' z (ad' (i:=4) au' z z z) ⟨_,_,_,_,_,_,z,S,ah,X⟩
 refine q'<|g'<|n'<|ah' [ff,ff,ff,ff,ff,ff,ff,ff,ff,ff,ff,ff,ff,ff,ff,ff,ff,tt,tt,ff] mix (by kernel_rfl) fun hb=>cn (fun _ d=>aa' sc87 z (d _ _ _ ae))<|cn (fun _ d=>ai' z) ?_
 obtain⟨p1,a2,aE,al⟩:=bG' (ax' (ay' B))
 refine cn (fun _ d=>aa' aZ' z (d _ _ _ aE))<|cn (fun _ d=>e' z) ?_
 obtain⟨x1,ao,hr⟩:=hr
 refine cn (fun _ d=>V' B' bV' (al.mono d) z z ao)<|cn (fun _ d=>bX' z)<|cn (fun _ d=>aa' sc3 z (aI' (J' (aW' (ay' (af' al ao))) d))) ?_
 obtain⟨an,au,hr⟩:=hr
 refine aX' (post:=w31' an) (fun _=>z) (fun _ _=>dj' E38 z z) (ih _ _ au) z (fun H d=>⟨(J' B d),(d _ _ _ ae)⟩) (fun v G1 G2 d h=>?_) ?_
 .obtain⟨E,C,I,L,D,F,rfl,q,x,m⟩:=h
  exact⟨_,_,_,_,_,_,z,q.mono d,x.mono d,m.mono d⟩
 refine cu (fun _ _ d=>ai' z) ?_
 obtain⟨p2,a0,aH,am⟩:=bG' (ax' (ay' B))
 refine cu (fun _ _ d=>aa' aZ' z (d _ _ _ aH))<|cu (fun _ _ d=>e' z) ?_
 obtain⟨x2,ak,hr⟩:=hr
 refine cu (fun _ _ d=>V' B' bV' (am.mono d) z z ak)<|cu (fun _ _ d=>bJ' z) ?_
 obtain⟨p3,aZ,aL,aG⟩:=bG' (ax' (ax' (ay' (af' am ak))))
 refine cu (fun _ _ d=>aa' sc44 z (d _ _ _ aL)) ?_
 obtain⟨y,av,hr⟩:=hr
 refine cE' (f:=39) (φ:=w31u' y) (fun _=>z) (fun v G1 G2 d h=>?_) (fun u H d O=>?_) ?_
 .obtain⟨p,o,s,t,l,n,rfl,g,j,e⟩:=h
  exact⟨_,_,_,_,_,_,z,g.mono d,j.mono d,e.mono d⟩
 .obtain⟨⟨E,C,I,L,D,F,aj,q,x,m⟩,_⟩:=(show (w31' an) H.m (u 20)/\True from O)
  exact⟨_,_,_,fun _=>t' E39 z,fa' av,(by simp only[aj] <;> rfl),⟨q,x,m,(aG.mono d)⟩⟩
 refine bm' (φ:=w31u' y) (fun _=>z) (fun v G1 G2 d h=>?_) (fun u H d O=>?_) ?_
 .obtain⟨p4,R,p5,P,p6,Q,rfl,K,M,J⟩:=h
  exact⟨_,_,_,_,_,_,z,K.mono d,M.mono d,J.mono d⟩
 .obtain⟨⟨p,o,s,t,l,n,ai,g,j,e⟩,_,_⟩:=(show (w31u' y) H.m (u 27)/\True/\True from O)
  simp only[undFr,ai]
  exact⟨_,e' z,p,o,s,t,l,n,z,g,j,e⟩
 refine bm' (φ:=w31' y.1) (fun _=>z) (fun v G1 G2 d h=>?_) (fun u H d O=>?_) ?_
 .obtain⟨p7,aI,p8,aJ,p9,aF,rfl,aa,Y,Z⟩:=h
  exact⟨_,_,_,_,_,_,z,aa.mono d,Y.mono d,Z.mono d⟩
 .obtain⟨⟨p4,R,p5,P,p6,Q,A,K,M,J⟩,_,_,_⟩:=(show (w31u' y) H.m (u 12)/\True/\True/\True from O)
  simp only[undFr,A]
  exact⟨_,x' z z,p4,R,p5,P,p6,Q,z,K,M,J⟩
 refine bu' (c:=i' y.2.1) (fun _=>z) (fun u H d O=>?_) ?_
 .obtain⟨_,⟨p4,R,p5,P,p6,Q,A,K,M,J⟩,_,_,_⟩:=(show True/\(w31u' y) H.m (u 12)/\True/\True/\True from O)
  simp only[undFr,A]
  exact x' z z
 refine bu' (c:=i' y.2.2) (fun _=>z) (fun u H d O=>?_) ?_
 .obtain⟨_,⟨p4,R,p5,P,p6,Q,A,K,M,J⟩,_,_,_⟩:=(show True/\(w31u' y) H.m (u 12)/\True/\True/\True from O)
  simp only[undFr,A]
  exact x' z z
 refine bF' (fun _=>z) z31<|ek' (fun a1 aP aN aR aS X1 aW af U V W T=>?_)
 obtain⟨b4,rfl,ar⟩:=af
 obtain⟨p7,aI,p8,aJ,p9,aF,rfl,aa,Y,Z⟩:=U
 obtain⟨p4,R,p5,P,p6,Q,rfl,K,M,J⟩:=V
 obtain⟨p,o,s,t,l,n,rfl,g,j,e⟩:=W
 obtain⟨E,C,I,L,D,F,rfl,q,x,m⟩:=T
 refine cx' ar (cg' (show WL _ _ _ _ _ _ (St w0 G0 X1.m _) from ?_))
 refine s' 5 z aV' z z z z z (List.all_eq_true.1 z)<|sg z z<|sg z z<|v'<|ar'<|g'<|sr<|yy (o' 5 au' z z z) z<|s' 4 z aV' z z z z z (List.all_eq_true.1 z)<|nx<|j' ?_
 obtain rfl:_=r:=hr
 exact k' z (ad' (i:=4) au' z z z) ⟨_,_,_,_,_,_,z,aa,Y,Z⟩
theorem Zbt(i:Zg)(q:Int)(d:Option Addr)(f:Nat)(g:Option Addr)(h:Nat)(c:Option Addr)(e:Nat)(j:Option Addr)(k:Nat)(r:Bool)(hr:(Zag i q).Ret r):Ctr prog 37 #[.agg ((v34' i d f g h c e j k)).toArray,i' q] (fun G=>y34' G d f g h c e j k i) (fun G v=>v = .bool r):=by
 refine H' (args:=[_,_]) (N:=14) func37 z z z (fun y x t p=>?_)
 obtain⟨l,n,m,o⟩:=p
 refine sr<|ag' 2 z z z fun u=>sg z z<|nr<|mv z z<|ac' hr z (bf' z z) z (fun s hr=>?_) (fun s hr=>?_)
 .refine mv z z<|gy z z (e' z) z<|gy z z (ai' z) z<|gy z z (f' 2 aZ' z z z) z<|gy z z (M' B' o z) z<|gy z z (aj' z z) z<|yy (h' z z) z<|sx0 z z<|j' (k0' hr z z)
 refine mv z z<|sn5 z<|yy (l' z z) z<|sx0 z z<|j' (k0' hr z z)
theorem Zjs{P:Program}{N l:Nat}{c c2:Code}{Q:Post}{fr:Fr}{S:Asrt}(e:c=c2)(h:WCI P N l c2 Q fr S):WCI P N l c Q fr S:=by rw[e]; exact h
def mark1(A:List Bool)(c:Int):List Bool:=if 0<=c then A.set c.toNat true else A
theorem Zhp(A:List Bool)(c:Int):(mark1 A c).length=A.length:=by unfold mark1; split <;> simp
theorem ZnJ{stop:Int->Bool}{x:Int}{l:List Int}:(x::l).find? stop=if stop x=true then some x else l.find? stop:=by
 rw[List.find?_cons]
 cases stop x <;> rfl
def DownV(h:Zg)(v:Nat):Prop:=v+1<=1000000/\∀ k,k<=v->∃ x,h.v[k]? = some x/\x.parent<=(v:Int)/\x.other<=(v:Int)
theorem anc1(h:Zg)(v bv bh l:Nat)(Lc:Lo)(d:Int->Bool)(Lx:Int->Lo)(P:Mem->Prop)(hm:∀ G o,Mem.le G o->P G->P o)(hc:∀ i,9000<=i->Lc.get i=none)(hx:∀ x i,9000<=i->(Lx x).get i=none)(aE:DownV h v)
  (hY:∀ k:Nat,k<=v->YCtr prog l (i' (k:Int)) Lc P (fun _ L b=>(b=true/\d k=false/\L=Lc)\/(b=false/\d k=true/\L=Lx k))) :
  CtrL prog 57 #[.func (.yield l) #[] #[],pt0 bv,pt0 bh] Lc (fun G=>G bv 0=some (i' (v:Int))/\At Zbd G bh 0 h/\P G)
   (fun _ L u=>L=(match (ancU (parV h) (othV h) v).find? d with|none=>Lc|some x=>Lx x)/\u = .tuple #[]):=by
 obtain⟨hv,am⟩:=aE
 refine bh' (args:=[_,_,_]) (N:=52) func57 z z z (fun w0 J ar K=>?_)
 obtain⟨ad,aQ,K⟩:=K
 obtain⟨q,qc,qe,qh⟩:=bG' (ax' (ay' aQ))
 have ag:∀ B,Lo.sub Lc ((9000,B)::Lc):=fun B i z hz=>by
  rw[Lo.Zi,if_neg (fun e=>by rw[<- e,hc 9000 (Nat.le_refl _)] at hz; cases hz)]; exact hz
 have U:∀ (a:Option Ow) (R:Lo),Lo.sub ((9000,a)::Lc) ((9000,a)::((9000,R.get 9000)::Lc)):=fun a R i z hz=>by
  rw[Lo.Zi] at hz ⊢
  split at hz
  .rename_i e; rw[if_pos e]; exact hz
  rename_i e; rw[if_neg e,Lo.Zi,if_neg e]; exact hz
 have aD:i64.wrap ((v:Int)+1)=((v+1:Nat):Int):=by rw[IntKind.wrap_i64]; omega
 refine n'<|A'<|yy (aa' sc3 z ad) z<|yy (W' z z) z ?_
 rw[aD]
 refine dT' (r:=Rp.bool) (e:=4) (n:=((v+1:Nat):Int)) (zx:=false) 9000 Zl z db' el4 z (by decide) (by decide) z z z (by omega) (fun p1 aM h0=>?_)
 rw[Int.toNat_natCast] at h0
 rw[Int.toNat_natCast]
 refine yy (Y0.assign z) z<|v'<|g'<|n'<|A'<|mv z z<|yy (aa' sc3 z ad) z ?_
 have aq:0<=(v:Int)/\(List.replicate (v+1) false)[(v:Int).toNat]? = some false:=⟨by omega,by rw[Int.toNat_natCast,List.getElem?_replicate,if_pos (by omega)]⟩
 refine yy (aQ' db' sz4 h0 z z aq) z<|bx' (r:=Rp.bool) (e:=4) (cs':=[.bool true]) (i:=(v:Int)) (z':=true) 9000 Zl sz4 z h0 z z z z z aq (fun an h1=>?_)
 rw[Int.toNat_natCast] at h1
 refine v'<|g'<|n'<|A'<|yy (aa' sc3 z ad) z<|yy (Y0.assign z) z<|v'<|g'<|C'<|WC.loopH (X:=Nat×Int×List Bool×Option Ow×Mem) (fun s=>match s with|⟨_,a,_,_,_⟩=>[(0,.func (.yield l) #[] #[]),(1,pt0 bv),(2,pt0 bh),(4,.slice p1 (v+1) (v+1)),(5,i' a)])
  (fun s=>match s with|⟨k,a,A,B,G⟩=>a=(k:Int)-1/\Mem.le J G/\RowR Rp.bool 4 G (.slice p1 (v+1) (v+1)) A B/\k<=v+1/\A.length=v+1/\(ancL (parV h) (othV h) k A).find? d=(ancU (parV h) (othV h) v).find? d)
  (fun s=>match s with|⟨_,_,_,B,G⟩=>St w0 J G ((9000,B)::Lc)) (fun s=>s.1) ⟨v+1,(v:Int),(List.replicate (v+1) false).set v true,an,J⟩ (fc z (fc z (fc z (fc z (fc z (Fr.Zs _)))))) ⟨by omega,Mem.le_refl _,h1,Nat.le_refl _,by simp,z⟩ ?_ ?_
 .intro w t
  exact t.weaken (ar ▸ U an [(9000,aM)])
 rintro⟨k,a,A,B,G⟩ ⟨a4,ac,hA,hk,W,E⟩
 refine n'<|n'<|A'<|mv z z<|yy (bf' z z) z<|v'<|g'<|dF' (p:=0<=a) z (fun aK=>?_) (fun aK=>?_)
 .obtain⟨k,rfl⟩:∃ j,k=j+1:=⟨k-1,by omega⟩
  have ek:a=(k:Int):=by omega
  subst ek
  have ao:i64.wrap ((k:Int)-1)=(k:Int)-1:=by rw[IntKind.wrap_i64]; omega
  obtain⟨x,Z,aF,aL⟩:=am k (by omega)
  have aS:parV h k=x.parent:=by unfold parV; rw[Z]; rfl
  have aG:othV h k=x.other:=by unfold othV; rw[Z]; rfl
  refine q'<|g'<|n'<|C'<|n'<|n'<|A'<|mv z z<|mv z z ?_
  have au:0<=(k:Int)/\A[(k:Int).toNat]? = some (A.getD k false):=⟨by omega,by rw[Int.toNat_natCast,List.getD_eq_getElem?_getD,List.getElem?_eq_getElem (by omega)]; rfl⟩
  refine yy (aQ' db' sz4 hA z z au) z<|yy (dk' sc4 hA (key:=9000) z z (AtK.bool (cA' hA au))) z<|yy (al' z) z<|v'<|g'<|WC.cond (b:=!(A.getD k false)) z (fun I=>?_) (fun I=>?_)
  .-- not above
   have ha:¬ A.getD k false=true:=by cases hq:A.getD k false with|true=>rw[hq] at I; cases I|false=>simp
   refine ap'<|r'<|O'<|g'<|A'<|mv z z<|yy (bk' z z) z ?_
   rw[ao]
   refine yy (Y0.assign z) z<|v'<|WE.backH (x:=(k+1,(k:Int),A,B,G)) (k,(k:Int)-1,A,B,G) ⟨z,ac,hA,by omega,W,?_⟩ (fc z (fc z (fc z (fc z (fc z (Fr.Zs _)))))) (fun w t=>t) (Nat.lt_succ_self k)
   rw[<- E]
   show _=(if A.getD k false=true then _ else _:List Int).find? d
   rw[if_neg ha]
  have ha:A.getD k false=true:=by cases hq:A.getD k false with|true=>rfl|false=>rw[hq] at I; cases I
  have T:(if d (k:Int)=true then some (k:Int) else (ancL (parV h) (othV h) k (markL (parV h) (othV h) A k)).find? d)=(ancU (parV h) (othV h) v).find? d:=by
   rw[<- E,<- ZnJ]
   show _=(if A.getD k false=true then _ else _:List Int).find? d
   rw[if_pos ha]
  refine q'<|g'<|n'<|n'<|WC.regionI<|WLI.y0 Zl (e' z) (fun c h=>by cases h) z<|WLI.y0 Zl (e' z) (fun c h=>by cases h) z<|WLI.callY (R:=[(9000,B)]) (Lc:=Lc) Zl z z z (hY k (by omega)) (hm _ _ ac K) ar (fun i hi=>by simp only[List.map_cons,List.map_nil,List.mem_singleton] at hi; subst hi; exact hc _ (Nat.le_refl _)) fun b G1 L1 af F=>WLI.y0 Zl (al' z) (fun c h=>by cases h) z<|WLI.nil<|g' ?_
  rcases F with ⟨rfl,hst,rfl⟩|⟨rfl,hst,rfl⟩
  .rw[if_neg (by rw[hst]; simp)] at T
   have m:Mem.le J G1:=mx ac af
   have H:0<=(k:Int)/\h.v[(k:Int).toNat]? = some x:=⟨by omega,by rw[Int.toNat_natCast]; exact Z⟩
   refine bd' z<|q'<|g'<|n'<|ah' [ff,ff,ff,ff,ff,ff,ff,ff,ff,ff,ff,ff,ff,ff,ff] mix (by kernel_rfl) fun hb=>Chain.y0 Zl (fun _ f=>ai' z)<|Chain.y0 Zl (fun _ f=>aa' aZ' z (f _ _ _ (m _ _ _ qe)))<|Chain.y0 Zl (fun _ f=>e' z)<|Chain.y0 Zl (fun _ f=>V' B' bV' (qh.mono (mx m f)) z z H)<|Chain.y0 Zl (fun _ f=>bX' z)<|Chain.y0 Zl (fun _ f=>aa' sc3 z (aI' (J' (aW' (ay' (af' qh H))) (mx m f))))<|Chain.y0 Zl (fun _ f=>ai' z)<|Chain.y0 Zl (fun _ f=>aa' aZ' z (f _ _ _ (m _ _ _ qe)))<|Chain.y0 Zl (fun _ f=>e' z)<|Chain.y0 Zl (fun _ f=>V' B' bV' (qh.mono (mx m f)) z z H)<|Chain.y0 Zl (fun _ f=>cC' z)<|Chain.y0 Zl (fun _ f=>aa' sc3 z (aI' (J' (aW' (ax' (ay' (af' qh H)))) (mx m f))))<|eH' (r:=Rp.int .i64) (e:=3) ([x.parent,x.other]:List Int) (fun _=>Zl) z (by decide) (fun u o f hu=>⟨#[(0,i' x.parent),(1,i' x.other)],[i' x.parent,i' x.other],z,z,fun _=>by kernel_rfl,⟨[_],[_],z,z,⟨[_],[],z,z,z⟩⟩⟩)<|Chain.y0UD (c:=i' 2) (fun _=>Zl) (fun u o f hu=>?_) ?_
   .obtain⟨⟨pl,a2,aO,_⟩,_⟩:=(show (fun (v:Value) (g:Gx)=>∃ p uu,v = .slice p 2 2/\SlRd (Rp.int .i64) g.m (.slice p 2 2) uu [x.parent,x.other]) (u 40) o/\True from hu)
    simp only[undFr,aO]
    exact ed' underlying113 z
   refine Chain.y0U (fun _=>Zl) (fun _ _ f=>e' z)<|cU' (post:=fun G v=>∃ p uu,v = .slice p 2 2/\SlRd (Rp.int .i64) G (.slice p 2 2) uu [x.parent,x.other]) (fun v2 G2 Y F=>?_)
   obtain⟨pl,_,rfl,O⟩:=F
   replace O:SlR (Rp.int .i64) G2 (.slice pl 2 2) [x.parent,x.other]:=O
   refine v'<|ar'<|g'<|C'<|WC.loopH (X:=Nat×List Bool×Option Ow×Mem) (fun s=>match s with|⟨j,_,_,_⟩=>[(0,.func (.yield l) #[] #[]),(1,pt0 bv),(2,pt0 bh),(4,.slice p1 (v+1) (v+1)),(5,i' (k:Int)),(40,.slice pl 2 2),(41,i' 2),(42,i' (j:Int))])
    (fun s=>match s with|⟨j,D,y,o⟩=>j<=2/\Mem.le G2 o/\RowR Rp.bool 4 o (.slice p1 (v+1) (v+1)) D y/\D=([x.parent,x.other].take j).foldl mark1 A)
    (fun s=>match s with|⟨_,_,y,o⟩=>St w0 J o ((9000,y)::L1)) (fun s=>2-s.1) ⟨0,A,B,G2⟩ (fc z (fc z (fc z (fc z (fc z (fc z (fc z (fc z (Fr.Zs _))))))))) ⟨by omega,Mem.le_refl _,hA.mono (mx af Y),z⟩ (fun w t=>t) ?_
   rintro⟨j,D,y,o⟩ ⟨hj,C,V,M⟩
   have ah:D.length=v+1:=by
    rw[M,<- W]
    match j,hj with
    | 0,_=>rfl
    | 1,_=>exact Zhp _ _
    | 2,_=>exact (Zhp _ _).trans (Zhp _ _)
   refine n'<|A'<|yy (aj' z z) z<|v'<|g'<|n'<|dF' (p:=(j:Int)<2) z (fun aN=>?_) (fun aN=>?_)
   .obtain⟨c,aC,a3,S⟩:∃ c,([x.parent,x.other]:List Int)[j]? = some c/\c<=(v:Int)/\([x.parent,x.other].take (j+1)).foldl mark1 A=mark1 (([x.parent,x.other].take j).foldl mark1 A) c:=by
     rcases (show j=0\/j=1 by omega) with rfl|rfl
     .exact⟨x.parent,z,aF,z⟩
     exact⟨x.other,z,aL,z⟩
    have aa:0<=(j:Int)/\([x.parent,x.other]:List Int)[(j:Int).toNat]? = some c:=⟨by omega,by rw[Int.toNat_natCast]; exact aC⟩
    have ap:i64.wrap ((j:Int)+1)=((j+1:Nat):Int):=by rw[IntKind.wrap_i64]; omega
    refine q'<|g'<|n'<|C'<|n'<|A'<|yy (V' underlying113 sz3 (O.mono C) z z aa) z<|yy (aa' sc3 z (aI' (J' (af' O aa) C))) z<|yy (Y0.assign z) z<|v'<|g'<|n'<|A'<|mv z z<|yy (bf' z z) z<|v'<|g'<|dF' (p:=0<=c) z (fun Q=>?_) (fun Q=>?_)
    .have aw:0<=c/\D[c.toNat]? = some (D.getD c.toNat false):=⟨Q,by rw[List.getD_eq_getElem?_getD,List.getElem?_eq_getElem (by omega)]; rfl⟩
     refine A'<|mv z z<|mv z z<|yy (aQ' db' sz4 V z z aw) z<|bx' (r:=Rp.bool) (e:=4) (cs':=[.bool true]) (i:=c) (z':=true) 9000 Zl sz4 z V z z z z z aw fun av h3=>v'<|I'<|g'<|A'<|yy (W' z z) z ?_
     rw[ap]
     refine mv z z<|v'<|WE.backH (x:=(j,D,y,o)) (j+1,D.set c.toNat true,av,o) ⟨by omega,C,h3,?_⟩ (fc z (fc z (fc z (fc z (fc z (fc z (fc z (fc z (Fr.Zs _))))))))) (fun w t=>t.weaken (U av [(9000,y)])) (by show 2-(j+1)<2-j; omega)
     rw[S,<- M,mark1,if_pos Q]
    refine q'<|I'<|g'<|A'<|yy (W' z z) z ?_
    rw[ap]
    refine mv z z<|v'<|WE.backH (x:=(j,D,y,o)) (j+1,D,y,o) ⟨by omega,C,V,?_⟩ (fc z (fc z (fc z (fc z (fc z (fc z (fc z (fc z (Fr.Zs _))))))))) (fun w t=>t) (by show 2-(j+1)<2-j; omega)
    rw[S,<- M,mark1,if_neg Q]
   have aU:j=2:=by omega
   subst aU
   refine ap'<|r'<|r'<|O'<|I'<|g'<|A'<|mv z z<|yy (bk' z z) z ?_
   rw[ao]
   refine yy (Y0.assign z) z<|v'<|WE.backH (x:=(k+1,(k:Int),A,B,G)) (k,(k:Int)-1,D,y,o) ⟨z,mx m (mx Y C),V,by omega,ah,?_⟩ (fc z (fc z (fc z (fc z (fc z (Fr.Zs _)))))) (fun w t=>t) (Nat.lt_succ_self k)
   rw[<- T,M]
   have:markL (parV h) (othV h) A k=mark1 (mark1 A x.parent) x.other:=by unfold markL mark1; rw[aS,aG]
   rw[this]
   rfl
  rw[if_pos hst] at T
  refine U' z<|j'<|a'<|m'<|a'<|a'<|m'<|aE' (S':=St w0 J G1 (Lx (k:Int))) (fun w t=>t.weaken (fun i z hz=>?_)) (WE.ret0 z ⟨?_,z⟩)
  .rw[Lo.Zj8 (fun hi=>by simp only[List.map_cons,List.map_nil,List.mem_singleton] at hi; rw[hi,hx _ _ (Nat.le_refl _)] at hz; cases hz)]; exact hz
  rw[<- T]
 have aJ:k=0:=by omega
 subst aJ
 refine ap'<|r'<|r'<|O'<|WE.retN<|aE' (S':=St w0 J G Lc) (fun w t=>t.weaken (ag B)) (WE.ret0 z ⟨?_,z⟩)
 rw[<- E]
 rfl
theorem Zc9(h:Zg)(v:Int)(j:Option Addr)(i:Nat)(f:Option Addr)(g:Nat)(d:Option Addr)(e:Nat)(k:Option Addr)(l:Nat):
  Ctr prog 42 #[.agg ((v34' h j i f g d e k l)).toArray,i' v] (fun G=>y34' G j i f g d e k l h)
   (fun G u=>∃ n m,u = .func (.func 57) #[] #[pt0 n,pt0 m]/\G n 0=some (i' v)/\At Zbd G m 0 h):=by
 refine H' (args:=[_,_]) (N:=6) func42 z z z (fun H E o p=>?_)
 obtain⟨A,x,B,y⟩:=p
 refine n'<|A'<|ag' 2 Zl z z (fun m=>ag' 3 Zl z z (fun n=>?_))
 refine yy (Y0.assign z) z<|v'<|g'<|n'<|bI' 2 z (by rw[o]; rfl) fun I c s D=>bI' 3 z (by rw[o]; rfl) fun F q t C=>A'<|yy (bU' z z) z<|yy (Y0.assign z) z<|v'<|g'<|j'<|k' z z ⟨n,m,z,t 0 _ z,J' (cm' (r:=Zbd) (cs:=(v34' h j i f g d e k l)) s z ⟨(v31' h.root j i f g d e),[.slice k h.v.length l],z,⟨[.slice j h.root.vars.length i],[.slice f h.root.eqs.length g,.slice d h.root.neqs.length e,i' h.root.next],z,⟨_,z,A.mono c⟩,⟨[.slice f h.root.eqs.length g],[.slice d h.root.neqs.length e,i' h.root.next],z,⟨_,z,x.mono c⟩,⟨[.slice d h.root.neqs.length e],[i' h.root.next],z,⟨_,z,B.mono c⟩,z⟩⟩⟩,⟨_,z,y.mono c⟩⟩) q⟩
theorem Zmj{h:Zg}{v:Nat}(c:downB h v=true):DownV h v:=by
 unfold downB at c
 rw[Bool.and_eq_true,decide_eq_true_eq,List.all_eq_true] at c
 refine⟨c.1,fun k d=>?_⟩
 have:=c.2 k (List.mem_range.2 (by omega))
 cases hx:h.v[k]? with
 | none=>rw[hx] at this; cases this
 | some x=>
  rw[hx,Bool.and_eq_true,decide_eq_true_eq,decide_eq_true_eq] at this
  exact⟨x,z,this.1,this.2⟩
theorem ZbG(h:Zg)(a b:Int)(R:Option Addr)(I:Nat)(D:Option Addr)(E:Nat)(C:Option Addr)(J:Nat)(H:Option Addr)(P:Nat)(r:Bool)(hr:(ZaP h a b).Ret r):
  Ctr prog 16 #[.agg ((v34' h R I D E C J H P)).toArray,i' a,i' b] (fun G=>y34' G R I D E C J H P h)
   (fun _ u=>u = .bool r):=by
 refine Ctr.enterM (args:=[_,_,_]) (N:=25) func16 z z z (fun w0 G0 V S=>?_)
 obtain⟨Q,K,F,L⟩:=S
 refine n'<|A'<|ag' 3 Zl z z (fun b3=>ag' 4 Zl z z (fun b4=>Q' 6 Zl z4 z (fun X=>?_)))
 refine v'<|g'<|n'<|n'<|A'<|yy (o' 3 aB' z z z) z<|yy (f' 4 sc3 z z z) z ?_
 obtain⟨y1,U,hr⟩:=hr
 refine E' Zl z (t' E37 z) (Zbt _ _ _ _ _ _ _ _ _ _ _ U) z ⟨Q,K,F,L⟩ ?_
 cases y1
 .refine yy (al' z) z<|mv z z<|sn4 z<|yy (h' z z) z<|v'<|g'<|U' z<|n'<|A'<|aD' 6 #[.bool false] Zl sz4 z z z (by decide) z z<|v'<|g'<|j'<|a'<|WE.early ?_
  obtain rfl:_=r:=hr
  exact k' z (RV.cellS (i:=6) sc4 z z z) z
 obtain⟨y2,Z,hr⟩:=hr
 refine yy (al' z) z<|mv z z<|WL.y0' (w' z z) (o' 3 aB' z z z) z<|WL.y0' (w' z z) (e' z) z<|E' (w' z z) z (t' E37 z) (Zbt _ _ _ _ _ _ _ _ _ _ _ Z) z ⟨Q,K,F,L⟩<|WL.y0' (w' z z) (al' z) z<|yy (l' z z) z<|v'<|g'<|WC.cond (b:=!y2) z (fun j=>?_) (fun j=>?_)
 .replace hr:=hr.pos j
  refine n'<|A'<|aD' 6 #[.bool false] Zl sz4 z z z (by decide) z z<|v'<|g'<|j'<|a'<|WE.early ?_
  obtain rfl:_=r:=hr
  exact k' z (RV.cellS (i:=6) sc4 z z z) z
 replace hr:=hr.neg (Bool.eq_false_iff.1 j)
 obtain⟨⟨aB,y⟩,hr⟩:=hr
 obtain rfl:_=r:=hr
 obtain⟨v,rfl⟩:∃ v:Nat,b=v:=⟨b.toNat,by omega⟩
 rw[Int.toNat_natCast] at y ⊢
 refine q'<|g'<|n'<|n'<|A'<|yy (o' 3 aB' z z z) z<|mv z z<|P' Zl z (t' E42 z) (Zc9 h v R I D E C J H P) z ⟨Q,K,F,L⟩ (fun u G1 ax c=>?_)
 obtain⟨bv,bh,rfl,ad,ah⟩:=c
 refine v'<|g'<|WC.rangeEnd (t:=21) (f:=57) z E57 (fun ac d M l ha A B ag ab al Y=>?_)
 let o:Lo:=[(8001,some ⟨M,.loop l,0⟩),(8002,some ⟨d,.deferred (some []),0⟩),(4,some ⟨b4,.cells #[i' a] 3 (0,0),0⟩),(6,some ⟨X,.cells #[.bool false] 4 (0,0),0⟩)]
 let s:Int->Lo:=fun _=>[(8001,some ⟨M,.loop { l with state:=.done,pending:=some .ret },0⟩),(8002,some ⟨d,.deferred (some []),0⟩),(4,some ⟨b4,.cells #[i' a] 3 (0,0),0⟩),(6,some ⟨X,.cells #[.bool true] 4 (0,0),0⟩)]
 have ak:∀ i,9000<=i->o.get i=none:=fun i hi=>by simp only[o]; rw[Lo.Zi,if_neg (by omega),Lo.Zi,if_neg (by omega),Lo.Zi,if_neg (by omega),Lo.Zi,if_neg (by omega)]; rfl
 have W:∀ x i,9000<=i->(s x).get i=none:=fun x i hi=>by simp only[s]; rw[Lo.Zi,if_neg (by omega),Lo.Zi,if_neg (by omega),Lo.Zi,if_neg (by omega),Lo.Zi,if_neg (by omega)]; rfl
 refine⟨_,o,_,lc z (lc z (lc z (lc z (Lo.Zs _)))),fun i _=>by rw[V]; rfl,anc1 h v bv bh M o (fun x=>decide (x=a)) s (fun _=>True) (fun _ _ _ _=>trivial) ak W (Zmj y) (fun k hk=>?_),⟨ad,ah,trivial⟩,fun G2 L2 u an c=>?_⟩
 .refine YCtr.Zli (N:=25) z A B ab (by rw[ag]; exact ha.round (by decide)) (fun aC G' aD _=>?_)
  refine Zjs al<|WCI.region Zih z (yy (Y0.assign z) z<|v' (fun a1 v1 T ae=>⟨_,_,_,T,ae,z,?_⟩))
  refine Zjs Y<|WCI.block<|WCI.seq<|WCI.region (Zed (ZdC ZdD)) z<|mv z z<|yy (f' 4 sc3 z z z) z<|yy (at' z z) z<|v'<|WCI.then<|WCI.condD (p:=(k:Int)=a) z (fun j=>?_) (fun j=>?_)
  .refine WCI.seq<|WCI.region (Zed (ZdC ZdD)) z<|aD' 6 #[.bool true] Zl sz4 z z z (by decide) z z<|v'<|WCI.then<|WCI.ret ?_
   exact fun O w2 _ e=>⟨_,_,s k,e,z,lc z (lc z (lc z (lc z (Lo.Zs _)))),.inr ⟨z,decide_eq_true j,z⟩⟩
  refine WCI.skip ?_
  exact fun O w2 _ e=>⟨_,_,o,e,z,lc z (lc z (lc z (lc z (Lo.Zs _)))),.inl ⟨z,decide_eq_false j,z⟩⟩
 obtain⟨n,_⟩:=c
 cases hf:(ancU (parV h) (othV h) v).find? (fun x=>decide (x=a)) with
 | none=>
  rw[hf] at n
  subst n
  have m:decide (a ∈ ancU (parV h) (othV h) v)=false:=decide_eq_false (fun hm=>by have:=List.find?_eq_none.1 hf a hm; simp at this)
  refine⟨l,z,by rw[A]; simp,.inl ⟨B,?_⟩⟩
  refine WLD.ys (YS.storeL 6 #[.bool false] sz4 z z z (by decide) z z) (WLD.nil (fun O w2 aj e=>⟨z,z,RetD.of (a:=O) (rvs:=[.cell 6 4]) [.bool false] z z e aj z (fun i rv v g q=>?_) ?_⟩))
  .match i with
   | 0=>simp at g q; subst g q; exact RV.cellS (i:=6) sc4 z z z
   | i+1=>simp at g
  show Value.bool false = .bool (decide _)
  rw[m]
 | some x=>
  rw[hf] at n
  subst n
  have h5:=List.mem_of_find?_eq_some hf
  have h6:x=a:=by simpa using List.find?_some hf
  rw[h6] at h5
  have m:decide (a ∈ ancU (parV h) (othV h) v)=true:=decide_eq_true h5
  refine⟨_,z,by simp,.inr ⟨z,fun w hs=>RetD.of (a:=ac) (rvs:=[.cell 6 4]) [.bool true] z z hs ha z (fun i rv v g q=>?_) ?_⟩⟩
  .match i with
   | 0=>simp at g q; subst g q; exact RV.cellS (i:=6) sc4 z z z
   | i+1=>simp at g
  show Value.bool true = .bool (decide _)
  rw[m]
theorem Zju(h:Zg)(a b:Int)(I:Option Addr)(E:Nat)(B:Option Addr)(C:Nat)(A:Option Addr)(F:Nat)(D:Option Addr)(H:Nat)(r:Int×Int)(hr:(Zc4 h a b).Ret r):
  Ctr prog 13 #[.agg ((v34' h I E B C A F D H)).toArray,i' a,i' b] (fun G=>y34' G I E B C A F D H h)
   (fun _ u=>u = .tuple #[i' r.1,i' r.2]):=by
 refine Ctr.enterM (args:=[_,_,_]) (N:=28) func13 z z z (fun w0 G0 aa X=>?_)
 obtain⟨P,M,L,O⟩:=X
 refine n'<|A'<|ag' 3 Zl z z (fun Z=>ag' 5 Zl z z (fun b5=>Q' 6 Zl z3 z (fun b6=>Q' 7 Zl z36 z (fun b7=>?_))))
 refine v'<|g'<|n'<|n'<|A'<|yy (o' 3 aB' z z z) z<|mv z z ?_
 obtain⟨y1,R,hr⟩:=hr
 refine E' Zl z (t' E37 z) (Zbt _ _ _ _ _ _ _ _ _ _ _ R) z ⟨P,M,L,O⟩ ?_
 cases y1
 .refine yy (al' z) z<|mv z z<|sn4 z<|yy (h' z z) z<|v'<|g'<|U' z<|n'<|A'<|aD' 6 #[i' 0] Zl sz3 z z z (by decide) z z<|aD' 7 #[i' 340] Zl sz36 z z z (by decide) z z<|v'<|g'<|j'<|a'<|WE.early ?_
  obtain rfl:_=r:=hr
  exact aH' z (RV.cellS (i:=6) sc3 z z z) (RV.cellS (i:=7) sc36 z z z) z
 obtain⟨y2,K,hr⟩:=hr
 refine yy (al' z) z<|mv z z<|WL.y0' (w' z z) (o' 3 aB' z z z) z<|WL.y0' (w' z z) (f' 5 sc3 z z z) z<|E' (w' z z) z (t' E37 z) (Zbt _ _ _ _ _ _ _ _ _ _ _ K) z ⟨P,M,L,O⟩<|WL.y0' (w' z z) (al' z) z<|yy (l' z z) z<|v'<|g'<|WC.cond (b:=!y2) z (fun n=>?_) (fun n=>?_)
 .replace hr:=hr.pos n
  refine n'<|A'<|aD' 6 #[i' 0] Zl sz3 z z z (by decide) z z<|aD' 7 #[i' 340] Zl sz36 z z z (by decide) z z<|v'<|g'<|j'<|a'<|WE.early ?_
  obtain rfl:_=r:=hr
  exact aH' z (RV.cellS (i:=6) sc3 z z z) (RV.cellS (i:=7) sc36 z z z) z
 replace hr:=hr.neg (Bool.eq_false_iff.1 n)
 obtain⟨⟨⟨aR,U⟩,ah,ab⟩,hr⟩:=hr
 obtain rfl:_=r:=hr
 obtain⟨v,rfl⟩:∃ v:Nat,a=v:=⟨a.toNat,by omega⟩
 rw[Int.toNat_natCast] at U ⊢
 refine q'<|g'<|n'<|n'<|A'<|yy (o' 3 aB' z z z) z<|mv z z<|P' Zl z (t' E42 z) (Zc9 h v I E B C A F D H) z ⟨P,M,L,O⟩ (fun u G1 j l=>?_)
 obtain⟨bv,bh,rfl,aj,ap⟩:=l
 refine v'<|g'<|WC.rangeEnd (t:=22) (f:=57) z E57 (fun ac d V o ha S T an ai av ag=>?_)
 let J:Lo:=[(8001,some ⟨V,.loop o,0⟩),(8002,some ⟨d,.deferred (some []),0⟩),(3,bk0 Z (v34' h I E B C A F D H) 34),(5,some ⟨b5,.cells #[i' b] 3 (0,0),0⟩),(6,some ⟨b6,.cells #[i' 0] 3 (0,0),0⟩),(7,some ⟨b7,.cells #[i' 0] 36 (0,0),0⟩)]
 let Q:Int->Lo:=fun x=>[(8001,some ⟨V,.loop { o with state:=.done,pending:=some .ret },0⟩),(8002,some ⟨d,.deferred (some []),0⟩),(3,bk0 Z (v34' h I E B C A F D H) 34),(5,some ⟨b5,.cells #[i' b] 3 (0,0),0⟩),(6,some ⟨b6,.cells #[i' x] 3 (0,0),0⟩),(7,some ⟨b7,.cells #[i' 0] 36 (0,0),0⟩)]
 have au:∀ i,9000<=i->J.get i=none:=fun i hi=>by simp only[J]; rw[Lo.Zi,if_neg (by omega),Lo.Zi,if_neg (by omega),Lo.Zi,if_neg (by omega),Lo.Zi,if_neg (by omega),Lo.Zi,if_neg (by omega),Lo.Zi,if_neg (by omega)]; rfl
 have ad:∀ x i,9000<=i->(Q x).get i=none:=fun x i hi=>by simp only[Q]; rw[Lo.Zi,if_neg (by omega),Lo.Zi,if_neg (by omega),Lo.Zi,if_neg (by omega),Lo.Zi,if_neg (by omega),Lo.Zi,if_neg (by omega),Lo.Zi,if_neg (by omega)]; rfl
 refine⟨_,J,_,lc z (lc z (lc z (lc z (lc z (lc z (Lo.Zs _)))))),fun i _=>by rw[aa]; rfl,anc1 h v bv bh V J (fun x=>decide (x ∈ ancU (parV h) (othV h) b.toNat)) Q (fun G=>y34' G I E B C A F D H h) (fun _ _ s ⟨q1,q2,q3,q4⟩=>⟨q1.mono s,q2.mono s,q3.mono s,q4.mono s⟩) au ad (Zmj U) (fun k hk=>?_),⟨aj,ap,P.mono j,M.mono j,L.mono j,O.mono j⟩,fun G2 L2 u az l=>?_⟩
 .have ao:(ZaP h (k:Int) b).Ret (decide ((k:Int) ∈ ancU (parV h) (othV h) b.toNat)):=by
   obtain⟨q,aD⟩:=(⟨R,K⟩:(Zag h v).Ret true/\_)
   refine⟨true,?_,y2,K,?_⟩
   .unfold Zag at q ⊢
    rw[if_pos (by omega)] at q ⊢
    have e:decide ((v:Int)<(h.v.length:Int))=true:=q
    have g:=of_decide_eq_true e
    show decide _=true
    exact decide_eq_true (by omega)
   exact Cq.wp.no (Bool.eq_false_iff.1 n) ⟨⟨ah,ab⟩,z⟩
  refine YCtr.Zli (N:=28) z S T ai (by rw[an]; exact ha.round (by decide)) (fun aP G' aQ aq=>?_)
  obtain⟨g1,g2,g3,g4⟩:=aq
  refine Zjs av<|WCI.region Zih z (yy (Y0.assign z) z<|v' (fun a1 v1 Y al=>⟨_,_,_,Y,al,z,?_⟩))
  refine Zjs ag<|WCI.block<|WCI.seq<|WCI.region (Zed (ZdC ZdD)) z<|yy (o' 3 aB' z z z) z<|mv z z<|yy (f' 5 sc3 z z z) z<|E' Zl z (t' E16 z) (ZbG _ _ _ _ _ _ _ _ _ _ _ _ ao) z ⟨g1,g2,g3,g4⟩<|v'<|WCI.then<|WCI.condD (p:=(k:Int) ∈ ancU (parV h) (othV h) b.toNat) z (fun n=>?_) (fun n=>?_)
  .refine WCI.seq<|WCI.region (Zed (ZdC ZdD)) z<|mv z z<|aD' 6 #[i' (k:Int)] Zl sz3 z z z (by decide) z z<|aD' 7 #[i' 0] Zl sz36 z z z (by decide) z z<|v'<|WCI.then<|WCI.ret ?_
   exact fun W w2 _ m=>⟨_,_,Q k,m,z,lc z (lc z (lc z (lc z (lc z (lc z (Lo.Zs _)))))),.inr ⟨z,decide_eq_true n,z⟩⟩
  refine WCI.skip ?_
  exact fun W w2 _ m=>⟨_,_,J,m,z,lc z (lc z (lc z (lc z (lc z (lc z (Lo.Zs _)))))),.inl ⟨z,decide_eq_false n,z⟩⟩
 obtain⟨y,_⟩:=l
 cases hf:(ancU (parV h) (othV h) v).find? (fun x=>decide (x ∈ ancU (parV h) (othV h) b.toNat)) with
 | none=>
  rw[hf] at y
  subst y
  refine⟨o,z,by rw[S]; simp,.inl ⟨T,?_⟩⟩
  refine WLD.ys (YS.storeL 6 #[i' 0] sz3 z z z (by decide) z z) (WLD.ys (YS.storeL 7 #[i' 0] sz36 z z z (by decide) z z) (WLD.nil (fun W w2 ar m=>⟨z,z,RetD.of (a:=W) (rvs:=[.cell 6 3,.cell 7 36]) [i' 0,i' 0] z z m ar z (fun i rv v c g=>?_) z⟩)))
  match i with
  | 0=>simp at c g; subst c g; exact RV.cellS (i:=6) sc3 z z z
  | 1=>simp at c g; subst c g; exact RV.cellS (i:=7) sc36 z z z
  | i+2=>simp at c
 | some x=>
  rw[hf] at y
  subst y
  refine⟨_,z,by simp,.inr ⟨z,fun w hs=>RetD.of (a:=ac) (rvs:=[.cell 6 3,.cell 7 36]) [i' x,i' 0] z z hs ha z (fun i rv v c g=>?_) z⟩⟩
  match i with
  | 0=>simp at c g; subst c g; exact RV.cellS (i:=6) sc3 z z z
  | 1=>simp at c g; subst c g; exact RV.cellS (i:=7) sc36 z z z
  | i+2=>simp at c
theorem gC'{k c d j h f g r}(hr:(ZfL k).Ret r):Ctr prog 32 #[.agg ((v31' k c d j h f g)).toArray] (fun G=>y31' G c d j h f g k) (w34t' r):=by
 refine H' (args:=[_]) (N:=12) func32 z z z (fun D C u p=>?_)
 obtain⟨m,o,l⟩:=p
 refine sr<|ag' 1 z z z fun B=>Q' 2 z z34 z fun E=>sx0 z z<|n'<|sr<|yy (o' 1 au' z z z) z ?_
 obtain⟨y,q,hr⟩:=hr
 refine E' z z (t' E44 z) (ep' q) z (⟨m,o,l⟩)<|yy (al' z) z<|nx<|aL' hr z (fun x hr=>?_) (fun x hr=>?_)
 .refine sr<|yy (av' (vs:=#[]) (v:=.agg ([.slice none 0 0,.slice none 0 0,.slice none 0 0,i' 0,.slice none 0 0]).toArray) z z (fun _=>by kernel_rfl)) z<|s' 2 z bC' z z z z z (List.all_eq_true.1 z)<|sx0 z z<|j'<|a' ?_
  obtain rfl:_=r:=hr
  exact aH' z (ad' (i:=2) aB' z z z) z ⟨_,_,_,_,_,_,_,_,z,(R' Rp.str _),(R' b' _),(R' b' _),(R' X' _)⟩
 refine q'<|g'<|sr<|yy (o' 1 au' z z z) z<|yy (av' (vs:=#[(0,i' (-1)),(1,i' (-1))]) (v:=.agg ([i' (-1),i' (-1),.slice none 0 0]).toArray) z z (fun _=>by kernel_rfl)) z<|bc' (e:=63) (r:=X') (vs:=#[(0,.agg ([i' (-1),i' (-1),.slice none 0 0]).toArray)]) (cs:=[i' (-1),i' (-1),.slice none 0 0]++([])) ([(Zf.mk (-1) (-1) [])]:List Zf) z z z z z (by decide) (fun _=>by kernel_rfl) ⟨[i' (-1),i' (-1),.slice none 0 0],[],z,⟨[i' (-1)],[i' (-1),.slice none 0 0],z,z,⟨[i' (-1)],[.slice none 0 0],z,z,⟨_,z,(R' _ _)⟩⟩⟩,z⟩ (key:=999) z (by rw[u]; rfl) fun s A n t=>yy (av' (vs:=#[(0,.agg ((v31' k c d j h f g)).toArray),(1,.slice s 1 1)]) (v:=.agg ([.slice c k.vars.length d,.slice j k.eqs.length h,.slice f k.neqs.length g,i' k.next,.slice s 1 1]).toArray) z z (fun _=>by kernel_rfl)) z<|s' 2 z bC' z z z z z (List.all_eq_true.1 z)<|sx0 z z<|j' ?_
 obtain rfl:_=r:=hr
 exact aH' z (ad' (i:=2) aB' z z z) z ⟨_,_,_,_,_,_,_,_,z,(m.mono n),(o.mono n),(l.mono n),t⟩
end Go.Proofs.YtnjiloaolgjedaaGreat

