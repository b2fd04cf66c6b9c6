/- The law VersionCommits holds for every input: a part of its proof (what the code does, plain models, and what they return). No condition. -/
import Derived.Test.YtnjiloaolgjedaaGreatXC14d
import Derived.Test.YtnjiloaolgjedaaGreatXC14c
import Derived.Test.YtnjiloaolgjedaaGreatXC14b
set_option linter.unusedVariables false
set_option linter.unusedSimpArgs false
namespace Go.Proofs.YtnjiloaolgjedaaGreat
open Go.IntKind (i8 i16 i32 i64 u8 u16 u32 u64)
open Go.Proofs.Tryz
open Go Go.EL Go.RowKit Go.Proofs
theorem el'{f i C p c m tk q d r}(hr:(Zbc f i C).Ret r):CtrL prog 129 #[.slice p m c,i' i,.slice q C.length d] [(5000,tk)] (fun G=>RowR Rp.str 9 G (.slice p m c) f tk/\sl Rp.str G q d C) (fun G L v=>∃ zp zc ah,L=[(5000,ah)]/\v = .slice zp r.length zc/\RowR Rp.str 9 G (.slice zp r.length zc) r ah):=by
 obtain⟨⟨⟨aY,ar⟩,av,a0⟩,hr⟩:=hr
 obtain rfl:_=r:=hr
 obtain⟨j,rfl⟩:∃ j:Nat,i=j:=⟨i.toNat,by omega⟩
 refine bg' (args:=[_,_,_]) (N:=95) func129 z z z (fun w0 K az aj=>?_)
 obtain⟨H,ag⟩:=aj
 obtain⟨p',c1,hf⟩:=H.form
 cases hf
 simp only[Int.toNat_natCast]
 refine sr<|sg z z<|nr<|mv z z<|mv z z<|yy (Y0.slcG H' sz9 z z (by omega)) z<|nr<|mv z z<|yy (eb' H' z) z<|sx0 z z<|n'<|sr<|mv z z<|yy (au' z z) z<|nx<|bb' (by rw[show decide ((C.length:Int)=0)=false from decide_eq_false (by omega)]; rfl)<|q'<|g'<|sr<|mv z z<|yy (eb' H' z) z<|sx0 z z<|n'<|sr<|mv z z<|mv z z<|yy (au' z z) z<|nx<|dD' (p:=(j:Int)=(f.length:Int)) z (fun hc=>?_) (fun hc=>?_)
 .have hj:j=f.length:=by omega
  subst hj
  have e1:f.take f.length++C++f.drop f.length=f++C:=by simp
  rw[e1]
  refine sr<|mv z z<|mv z z<|ct' (r:=Rp.str) (e:=9) 5000 z z H' el9 z (by decide) z z H z ag (by simp only[List.length_append,small]; omega) fun p2 c2 au V=>sx0 z z<|j'<|a'<|aK' (S':=St w0 K K [(5000,au)]) (fun w B=>?_) (k' z z ⟨_,_,_,z,z,V⟩)
  exact B.weaken (lc z ln)
 cases tk with
 | none=>have:=H.1; subst this; simp at ar hc; omega
 | some y=>
 obtain⟨aK,cs,s,hv,ho,ai,Y,aa,aF,t⟩:=H
 cases hv
 obtain⟨b,ob,mk⟩:=y
 dsimp only at ho ai
 subst ho ai
 have aU:=Y.len
 have a1:j<f.length:=by omega
 have aq:=RepL.split (l:=f.take j) (m:=f.drop j) (by rw[List.take_append_drop]; exact Y)
 obtain⟨x,g,an,af,O⟩:=aq
 subst an
 have E:=af.len
 have P:=O.len
 rw[List.length_take,Nat.min_eq_left (by omega)] at E
 rw[List.length_drop] at P
 obtain⟨qy,dy,ds,ay,aZ,am,Z,D,A⟩:=ag
 cases ay
 have ad:=Z (by omega)
 obtain⟨⟨vb,vo,vs⟩,rfl⟩:=Option.isSome_iff_exists.1 ad
 have ae:=am _ z (by omega)
 dsimp only at ae
 subst ae
 have A:∀ k u,ds[k]? = some u->K vb (vo+k)=some u:=A
 have F:=D.len
 rw[av,Nat.one_mul] at F
 have U:(Rp.str).size=1:=z
 rw[U] at E P F aa
 simp only[List.length_append] at aa
 have J:∀ (bb S:Nat) (rs:List Value),(x++ds++g++rs).length=S*1->S<=maxLen->f.length+1<=S->RowR Rp.str 9 K (.slice (some ⟨bb,0,none⟩) (f.take j++C++f.drop j).length S) (f.take j++C++f.drop j) (bk0 bb (x++ds++g++rs) 9):=fun bb S rs h1 V h3=>
  ⟨S,x++ds++g,rs,z,z,z,(af.append D).append O,by rw[U]; exact h1,V,by simp only[List.length_append,List.length_take,List.length_drop]; omega⟩
 have Q:(f.take j++C++f.drop j).length=f.length+1:=by simp only[List.length_append,List.length_take,List.length_drop]; omega
 refine q'<|g'<|n'<|sr<|mv z z<|mv z z<|yy (X' z z) z<|mv z z<|yy (Y0.capS H' z) z<|yy (bh' z z) z<|nx ?_
 have X:i64.wrap ((f.length:Int)+(C.length:Int))=((f.length+1:Nat):Int):=by rw[IntKind.wrap_i64]; omega
 rw[X]
 refine dD' (p:=(c:Int)<((f.length+1:Nat):Int)) z (fun ax=>?_) (fun ax=>?_)
 .refine sr<|mv z z<|mv z z<|yy (Y0.slc (l:=0) (h:=j) (m:=c) (b:=b) (o:=0) H' sz9 z z ⟨_,z⟩ z (by omega) (by omega) (by omega)) z<|mv z z<|mv z z<|yy (X' z z) z<|mv z z<|yy (bj' z z) z ?_
  rw[X]
  have aG:i64.wrap (((f.length+1:Nat):Int)-(j:Int))=((f.length+1-j:Nat):Int):=by rw[IntKind.wrap_i64]; omega
  rw[aG]
  simp only[Nat.zero_mul,Nat.add_zero,ite_self,Nat.sub_zero]
  refine WL.appendZ (sz:=1) (bytes:=16) (n:=j) (cap:=c) (m:=f.length+1-j) (b:=b) 5000 7001 z z H' aB' el9 z (by decide) (by decide) z z z (by omega) (by omega) (by simp only[small]; omega) (by simp only[List.length_append]; omega) (fun T M W h1 V h3=>?_)
  have et:List.take (j*1) (x++g++s)=x:=by rw[List.append_assoc,<- E,List.take_left]
  have e0:j+(f.length+1-j)=f.length+1:=by omega
  rw[e0] at h1
  rw[et,e0]
  refine sg z z<|nr<|mv z z<|mv z z<|yy (df' (l:=j) (n:=f.length+1) (cap:=M) (b:=T) H' sz9 z z (by omega) (by omega) (by omega)) z<|mv z z<|dE' (sz:=1) (dn:=f.length+1-j) (sn:=C.length) (ds:=ds) (b:=T) (o:=j*1) 7001 z z H' sz9 z z z (by rw[F]; simp only[Nat.min_def]; split <;> omega) (fun w B k u I=>B.imm _ _ _ (A k u I)) (by simp only[List.length_append]; omega) D.one ?_
  have e2:spl (x++W) (j*1) ds=x++ds++W.drop 1:=by
   rw[<- E]; simp only[spl,List.take_left,<- List.drop_drop,List.drop_left,F]
  rw[e2]
  refine nx<|n'<|ah' [ff,ff,ff,ff,ff,ff,ff,ff] mix (by kernel_rfl) fun hb=>cn (fun _ t=>e' z)<|cn (fun _ t=>e' z)<|cn (fun _ t=>e' z)<|cn (fun _ t=>X' z z) ?_
  have R:i64.wrap ((j:Int)+(C.length:Int))=((j+1:Nat):Int):=by rw[IntKind.wrap_i64]; omega
  rw[R]
  refine cn (fun _ t=>df' (l:=j+1) (n:=f.length+1) (cap:=M) (b:=T) H' sz9 z z (by omega) (by omega) (by omega))<|cn (fun _ t=>e' z)<|cn (fun _ t=>e' z)<|cn (fun _ t=>df' (l:=j) (n:=f.length) (cap:=c) (b:=b) H' sz9 z z (by omega) (by omega) (by omega))<|R' hb ?_
  .refine dE' (sz:=1) (dn:=f.length+1-(j+1)) (sn:=f.length-j) (ds:=g) (b:=T) (o:=(j+1)*1) 7001 z z H' sz9 z z z (by rw[P]; congr 1; simp only[Nat.min_def]; split <;> omega) (fun w B k u I=>by
    rw[B.cellOwn (key:=5000) (b:=b) (c:=x++g++s) (e:=9) z,List.append_assoc,List.getElem?_append_right (by omega),<- E,Nat.add_sub_cancel_left,List.getElem?_append_left (List.getElem?_eq_some_iff.1 I).1]
    exact I) (by simp only[List.length_append,List.length_drop]; omega) O.one ?_
   have e3:spl (x++ds++W.drop 1) ((j+1)*1) g=x++ds++g++(W.drop 1).drop g.length:=by
    have:(j+1)*1=(x++ds).length:=by simp only[List.length_append]; omega
    rw[this]; simp only[spl,List.take_left,<- List.drop_drop,List.drop_left]
   rw[e3]
   refine u'<|aq'<|g'<|sr<|mv z z<|sx0 z z<|j'<|a'<|aK' (S':=St w0 K K [(5000,bk0 T (x++ds++g++(W.drop 1).drop g.length) 9)]) (fun w B=>?_) (k' z z ⟨_,_,_,z,by rw[Q],J T M _ (by simp only[List.length_append,List.length_drop]; omega) V h1⟩)
   have B:=B.rekey (i:=7001) (j:=5000) z (by rw[az]; rfl)
   exact B.weaken (lc z ln)
 refine q'<|g'<|sr<|mv z z<|mv z z<|mv z z<|yy (X' z z) z ?_
 rw[X]
 refine yy (Y0.slc (l:=0) (h:=f.length+1) (m:=c) (b:=b) (o:=0) H' sz9 z z ⟨_,z⟩ z (by omega) (by omega) (by omega)) z ?_
 simp only[Nat.zero_mul,Nat.add_zero,ite_self,Nat.sub_zero]
 refine sx0 z z<|n'<|sr<|mv z z<|mv z z<|mv z z<|mv z z<|yy (X' z z) z ?_
 have R:i64.wrap ((j:Int)+(C.length:Int))=((j+1:Nat):Int):=by rw[IntKind.wrap_i64]; omega
 rw[R]
 refine yy (df' (l:=j+1) (n:=f.length+1) (cap:=c) (b:=b) H' sz9 z z (by omega) (by omega) (by omega)) z ?_
 obtain⟨u0,aC⟩:∃ u,ds[0]? = some u:=⟨ds[0],by simp⟩
 refine yy (Y0.ext z (fun w B=>ZeL (tR:=4) (key:=5000) H' sz9 func170 z z (by kernel_rfl) (by kernel_rfl) B z (by simp only[List.size_toArray,List.length_append]; omega) (A 0 u0 aC))) z<|yy (al' z) z<|nx<|U' z<|n'<|ah' [ff,ff,ff,ff,ff,ff,ff,ff] mix (by kernel_rfl) fun hb=>cn (fun _ t=>e' z)<|cn (fun _ t=>e' z)<|cn (fun _ t=>e' z)<|cn (fun _ t=>X' z z) ?_
 rw[R]
 refine cn (fun _ t=>df' (l:=j+1) (n:=f.length+1) (cap:=c) (b:=b) H' sz9 z z (by omega) (by omega) (by omega))<|cn (fun _ t=>e' z)<|cn (fun _ t=>e' z)<|cn (fun _ t=>df' (l:=j) (n:=f.length+1) (cap:=c) (b:=b) H' sz9 z z (by omega) (by omega) (by omega))<|R' hb<|dE' (sz:=1) (dn:=f.length+1-(j+1)) (sn:=f.length+1-j) (ds:=g) (b:=b) (o:=(j+1)*1) 5000 z z H' sz9 z z z (by rw[P]; congr 1; simp only[Nat.min_def]; split <;> omega) (fun w B k u I=>by
  rw[B.cellOwn (key:=5000) (b:=b) (c:=x++g++s) (e:=9) z,List.append_assoc,List.getElem?_append_right (by omega),<- E,Nat.add_sub_cancel_left,List.getElem?_append_left (List.getElem?_eq_some_iff.1 I).1]
  exact I) (by simp only[List.length_append]; omega) O.one ?_
 refine u'<|aq'<|g'<|sr<|mv z z<|mv z z<|yy (df' (l:=j) (n:=f.length+1) (cap:=c) (b:=b) H' sz9 z z (by omega) (by omega) (by omega)) z<|mv z z ?_
 have aA:(spl (x++g++s) ((j+1)*1) g).length=c*1:=by rw[Zee (by simp only[List.length_append]; omega)]; simp only[List.length_append]; omega
 refine dE' (sz:=1) (dn:=f.length+1-j) (sn:=C.length) (ds:=ds) (b:=b) (o:=j*1) 5000 z z H' sz9 z z z (by rw[F]; simp only[Nat.min_def]; split <;> omega) (fun w B k u I=>B.imm _ _ _ (A k u I)) (by rw[aA]; omega) D.one ?_
 have e4:spl (spl (x++g++s) ((j+1)*1) g) (j*1) ds=x++ds++g++(x++g++s).drop ((j+1)*1+g.length):=by
  have e5:spl (x++g++s) ((j+1)*1) g=x++((g++s).take 1++(g++(x++g++s).drop ((j+1)*1+g.length))):=by
   simp only[spl]
   rw[show (j+1)*1=x.length+1 by omega,List.append_assoc x g s,List.take_length_add_append]
   simp only[List.append_assoc]
  rw[e5,<- E]
  have e6:((g++s).take 1).length=1:=by rw[List.length_take,List.length_append]; omega
  simp only[spl,List.take_left,<- List.drop_drop,List.drop_left,F]
  rw[List.drop_left' e6]
  simp only[List.append_assoc]
 rw[e4]
 refine nr<|mv z z<|sx0 z z<|j'<|a'<|aK' (S':=St w0 K K [(5000,bk0 b (x++ds++g++(x++g++s).drop ((j+1)*1+g.length)) 9)]) (fun w B=>?_) (k' z z ⟨_,_,_,z,by rw[Q],J b c _ (by simp only[List.length_append,List.length_drop]; omega) aF (by omega)⟩)
 exact B.weaken (lc z ln)
theorem em'{d i P p c m J r}(hr:(Zbb d i P).Ret r):CtrL prog 134 #[.slice p m c,i' i,i' P] [(5000,J)] (fun G=>RowR Rp.str 9 G (.slice p m c) d J) (fun G L v=>∃ zp zc U,L=[(5000,U)]/\v = .slice zp r.length zc/\RowR Rp.str 9 G (.slice zp r.length zc) r U):=by
 obtain⟨⟨az,aC,ab,ay⟩,hr⟩:=hr
 obtain rfl:_=r:=hr
 obtain⟨j,rfl⟩:∃ j:Nat,i=j:=⟨i.toNat,by omega⟩
 obtain⟨k,rfl⟩:∃ k:Nat,P=k:=⟨P.toNat,by omega⟩
 refine bg' (args:=[_,_,_]) (N:=33) func134 z z z (fun w0 Q aA t=>?_)
 obtain⟨p',c',hf⟩:=t.form
 cases hf
 simp only[Int.toNat_natCast]
 have Y:d.length<=c:=by
  cases J with
  | none=>have:=t.1; subst this; simp
  | some y=>obtain⟨c1,cs,g,Z,V,F,I,D,S,x⟩:=t; cases Z; exact x
 refine sr<|sg z z<|nr<|mv z z<|mv z z<|mv z z<|mv z z<|yy (eb' H' z) z<|yy (Y0.slcA H' sz9 z z z z (by omega) (by omega) Y) z<|nx<|n'<|sr<|mv z z<|mv z z<|yy (au' z z) z<|nx<|dD' (p:=(j:Int)=(k:Int)) z (fun hc=>?_) (fun hc=>?_)
 .have hj:j=k:=by omega
  subst hj
  rw[List.take_append_drop]
  refine sr<|mv z z<|sx0 z z<|j'<|a'<|aK' (S':=St w0 Q Q [(5000,J)]) (fun w H=>H.weaken (lc z ln)) (k' z z ⟨_,_,_,z,z,t⟩)
 cases J with
 | none=>have:=t.1; subst this; simp at ab hc; omega
 | some y=>
 obtain⟨c1,cs,g,Z,V,F,I,D,S,x⟩:=t
 cases Z
 obtain⟨b,ob,mk⟩:=y
 dsimp only at V F
 subst V F
 have A:(Rp.str).size=1:=z
 obtain⟨s,cb,W,R,ag⟩:=RepL.split (l:=d.take j) (m:=d.drop j) (by rw[List.take_append_drop]; exact I)
 subst W
 obtain⟨B,f,aa,ac,M⟩:=RepL.split (l:=(d.drop j).take (k-j)) (m:=d.drop k) (by
  have:d.drop k=(d.drop j).drop (k-j):=by rw[List.drop_drop]; congr 1; omega
  rw[this,List.take_append_drop]; exact ag)
 subst aa
 have E:=R.len
 have T:=ac.len
 have C:=M.len
 rw[List.length_take,Nat.min_eq_left (by omega),A] at E
 rw[List.length_take,List.length_drop,Nat.min_eq_left (by omega),A] at T
 rw[List.length_drop,A] at C
 rw[A] at D
 simp only[List.length_append] at D
 refine q'<|g'<|sr<|mv z z<|yy (eb' H' z) z<|sx0 z z<|n' ?_
 have e0:(s++(B++f)++g)=s++B++(f++g):=by simp only[List.append_assoc]
 rw[e0]
 have aj:(s++B).length=k*1:=by rw[List.length_append,E,T,<- Nat.add_mul]; congr 1; omega
 refine ah' [ff,ff,ff,ff,ff,ff] mix (by kernel_rfl) fun hb=>cn (fun _ x=>e' z)<|cn (fun _ x=>e' z)<|cn (fun _ x=>Y0.slc (l:=0) (h:=j) (m:=c) (b:=b) (o:=0) H' sz9 z z ⟨_,z⟩ z (by omega) (by omega) (by omega))<|cn (fun _ x=>e' z)<|cn (fun _ x=>e' z)<|cn (fun _ x=>Y0.slc (l:=k) (h:=d.length) (m:=c) (b:=b) (o:=0) H' sz9 z z ⟨z,z⟩ ⟨_,z⟩ (by omega) (by omega) (by omega)) ?_
 simp only[Nat.zero_mul,Nat.add_zero,ite_self,Nat.sub_zero]
 refine R' hb<|WL.appendOwn (sz:=1) (ds:=f) (b:=b) (n:=j) (cap:=c) (m:=d.length-k) 5000 z z H' sz9 z z z (by rw[C]) (fun w H q u hu=>by
  have K:=(List.getElem?_eq_some_iff.1 hu).1
  have ak:¬ c=k:=fun e=>by subst e; rw[C] at K; rw[show d.length-c=0 by omega] at K; omega
  rw[if_neg ak,Nat.zero_add,H.cellOwn (key:=5000) (b:=b) (c:=s++B++(f++g)) (e:=9) z,List.getElem?_append_right (by omega),<- aj,Nat.add_sub_cancel_left,List.getElem?_append_left K]
  exact hu) (by omega) (by simp only[List.length_append]; omega) M.one ?_
 refine sg z z<|u'<|aq'<|g'<|sr<|mv z z<|mv z z<|yy (eb' H' z) z<|mv z z<|yy (Y0.slc (l:=j+(d.length-k)) (h:=d.length) (m:=c) (b:=b) (o:=0) H' sz9 z z ⟨_,z⟩ ⟨_,z⟩ (by omega) (by omega) (by omega)) z ?_
 rw[if_neg (show ¬ c=j+(d.length-k) by omega),Nat.zero_add ((j+(d.length-k))*1)]
 have O:(spl (s++B++(f++g)) (j*1) f).length=c*1:=by rw[Zee (by simp only[List.length_append]; omega)]; simp only[List.length_append]; omega
 refine WL.clearOwn (n:=d.length-(j+(d.length-k))) (b:=b) (o:=(j+(d.length-k))*1) 5000 z trivial H' z9 (List.all_eq_true.1 z) z z (by rw[O]; show _+_*1<=_; omega) (fun ds ae=>?_)
 have aB:ds.length=(d.length-(j+(d.length-k)))*1:=ae
 have al:(spl (spl (s++B++(f++g)) (j*1) f) ((j+(d.length-k))*1) ds).length=c*1:=by rw[Zee (by rw[O]; omega),O]
 have e4:spl (spl (s++B++(f++g)) (j*1) f) ((j+(d.length-k))*1) ds=s++f++(spl (spl (s++B++(f++g)) (j*1) f) ((j+(d.length-k))*1) ds).drop (s++f).length:=by
  have e5:∃ q,spl (s++B++(f++g)) (j*1) f=(s++f)++q:=⟨_,by rw[<- E]; simp only[spl]; rw[List.append_assoc s B,List.take_left]⟩
  obtain⟨q,hq⟩:=e5
  have X:(j+(d.length-k))*1=(s++f).length:=by rw[List.length_append,E,C,<- Nat.add_mul]
  rw[hq,X]
  simp only[spl]
  rw[List.take_left,List.append_assoc (s++f) ds,List.drop_left]
 rw[e4]
 refine nr<|mv z z<|sx0 z z<|j'<|aK' (S':=St w0 Q Q [(5000,bk0 b (s++f++(spl (spl (s++B++(f++g)) (j*1) f) ((j+(d.length-k))*1) ds).drop (s++f).length) 9)]) (fun w H=>H.weaken (lc z ln)) (k' z z ⟨_,_,_,z,?_,⟨c,s++f,_,z,z,z,R.append M,?_,S,?_⟩⟩)
 .rw[show (d.take j++d.drop k).length=j+(d.length-k) by simp only[List.length_append,List.length_take,List.length_drop]; omega]
 .rw[<- e4,al,A]
 simp only[List.length_append,List.length_take,List.length_drop]; omega
theorem dp'{k r}(hr:(Zad k).Ret r):CtrL prog 172 #[.slice none 0 0,i' k] [] (fun _=>True) (fun G L v=>∃ n u f,L=[(7000,f)]/\v = .slice n r.length u/\RowR b' 110 G (.slice n r.length u) r f):=by
 obtain⟨⟨D,C⟩,hr⟩:=hr
 replace hr:[]=r:=hr
 subst hr
 obtain⟨m,rfl⟩:∃ m:Nat,k=m:=⟨k.toNat,by omega⟩
 refine bg' (args:=[_,_]) (N:=27) func172 z z z fun g e q _=>sr<|sx0 z z<|n'<|sr<|mv z z<|yy (ai' z z) z<|nx<|bb' (by rw[show decide ((m:Int)<0)=false from decide_eq_false (by omega)]; rfl)<|q'<|g'<|n'<|sr<|mv z z<|mv z z<|yy (Y0.capS w' z) z<|mv z z<|yy (eb' w' z) z<|yy (bj' z z) z<|yy (bj' z z) z ?_
 have B:i64.wrap ((m:Int)-i64.wrap (((0:Nat):Int)-((0:Nat):Int)))=m:=by simp only[IntKind.wrap_i64]; omega
 rw[B]
 refine sx0 z z<|sr<|mv z z<|yy (bh' z z) z<|nx<|dD' (p:=(0:Int)<(m:Int)) z (fun A=>?_) (fun A=>?_)
 .refine A'<|mv z z<|mv z z<|yy (Y0.capS w' z) z<|yy (Y0.nilH w' aT' z z) z<|mv z z<|WL.appendZ0 (sz:=2) (bytes:=32) (m:=m) 7001 z z w' aB' el110 z (by decide) (by decide) z z (by omega) (by simp only[small]; omega) fun s c t y x=>mv z z<|yy (eb' w' z) z<|yy (Y0.slc (l:=0) (h:=0) (m:=c) (b:=s) (o:=0) w' aT' z z ⟨_,z⟩ z (Nat.le_refl _) (Nat.zero_le _) (Nat.le_refl _)) z ?_
  simp only[Nat.zero_mul,Nat.add_zero,ite_self,Nat.sub_zero]
  refine sg z z<|u'<|g'<|sr<|mv z z<|sx0 z z<|j'<|aK' (S':=St g e e [(7000,bk0 s t 110)]) (fun w d=>?_) (k' z z ⟨_,_,_,z,z,⟨c,[],t,z,z,z,z,x,y,Nat.zero_le _⟩⟩)
  have d:=d.rekey (i:=7001) (j:=7000) z (by rw[q]; rfl)
  exact d.weaken (lc z ln)
 refine q'<|g'<|sr<|mv z z<|sx0 z z<|j'<|aK' (S':=St g e e [(7000,none)]) (fun w d=>d.weaken (lw ln)) (k' z z ⟨_,_,_,z,z,RowR.nil⟩)
theorem dA'{f i C p c m tk q d r}(hr:(ZT f i C).Ret r):CtrL prog 180 #[.slice p m c,i' i,.slice q C.length d] [(5000,tk)] (fun G=>RowR b' 110 G (.slice p m c) f tk/\sl b' G q d C) (fun G L v=>∃ zp zc ah,L=[(5000,ah)]/\v = .slice zp r.length zc/\RowR b' 110 G (.slice zp r.length zc) r ah):=by
 obtain⟨⟨⟨aY,ar⟩,av,a0⟩,hr⟩:=hr
 obtain rfl:_=r:=hr
 obtain⟨j,rfl⟩:∃ j:Nat,i=j:=⟨i.toNat,by omega⟩
 refine bg' (args:=[_,_,_]) (N:=95) func180 z z z (fun w0 K az aj=>?_)
 obtain⟨H,ag⟩:=aj
 obtain⟨p',c1,hf⟩:=H.form
 cases hf
 simp only[Int.toNat_natCast]
 refine sr<|sg z z<|nr<|mv z z<|mv z z<|yy (Y0.slcG w' aT' z z (by omega)) z<|nr<|mv z z<|yy (eb' w' z) z<|sx0 z z<|n'<|sr<|mv z z<|yy (au' z z) z<|nx<|bb' (by rw[show decide ((C.length:Int)=0)=false from decide_eq_false (by omega)]; rfl)<|q'<|g'<|sr<|mv z z<|yy (eb' w' z) z<|sx0 z z<|n'<|sr<|mv z z<|mv z z<|yy (au' z z) z<|nx<|dD' (p:=(j:Int)=(f.length:Int)) z (fun hc=>?_) (fun hc=>?_)
 .have hj:j=f.length:=by omega
  subst hj
  have e1:f.take f.length++C++f.drop f.length=f++C:=by simp
  rw[e1]
  refine sr<|mv z z<|mv z z<|ct' (r:=b') (e:=110) 5000 z z w' el110 z (by decide) z z H z ag (by simp only[List.length_append,small]; omega) fun p2 c2 au V=>sx0 z z<|j'<|a'<|aK' (S':=St w0 K K [(5000,au)]) (fun w B=>?_) (k' z z ⟨_,_,_,z,z,V⟩)
  exact B.weaken (lc z ln)
 cases tk with
 | none=>have:=H.1; subst this; simp at ar hc; omega
 | some y=>
 obtain⟨aK,cs,s,hv,ho,ai,Y,aa,aF,t⟩:=H
 cases hv
 obtain⟨b,ob,mk⟩:=y
 dsimp only at ho ai
 subst ho ai
 have aU:=Y.len
 have a1:j<f.length:=by omega
 have aq:=RepL.split (l:=f.take j) (m:=f.drop j) (by rw[List.take_append_drop]; exact Y)
 obtain⟨x,g,an,af,O⟩:=aq
 subst an
 have E:=af.len
 have P:=O.len
 rw[List.length_take,Nat.min_eq_left (by omega)] at E
 rw[List.length_drop] at P
 obtain⟨qy,dy,ds,ay,aZ,am,Z,D,A⟩:=ag
 cases ay
 have ad:=Z (by omega)
 obtain⟨⟨vb,vo,vs⟩,rfl⟩:=Option.isSome_iff_exists.1 ad
 have ae:=am _ z (by omega)
 dsimp only at ae
 subst ae
 have A:∀ k u,ds[k]? = some u->K vb (vo+k)=some u:=A
 have F:=D.len
 rw[av,Nat.one_mul] at F
 have U:(b').size=2:=z
 rw[U] at E P F aa
 simp only[List.length_append] at aa
 have J:∀ (bb S:Nat) (rs:List Value),(x++ds++g++rs).length=S*2->S<=maxLen->f.length+1<=S->RowR b' 110 K (.slice (some ⟨bb,0,none⟩) (f.take j++C++f.drop j).length S) (f.take j++C++f.drop j) (bk0 bb (x++ds++g++rs) 110):=fun bb S rs h1 V h3=>
  ⟨S,x++ds++g,rs,z,z,z,(af.append D).append O,by rw[U]; exact h1,V,by simp only[List.length_append,List.length_take,List.length_drop]; omega⟩
 have Q:(f.take j++C++f.drop j).length=f.length+1:=by simp only[List.length_append,List.length_take,List.length_drop]; omega
 refine q'<|g'<|n'<|sr<|mv z z<|mv z z<|yy (X' z z) z<|mv z z<|yy (Y0.capS w' z) z<|yy (bh' z z) z<|nx ?_
 have X:i64.wrap ((f.length:Int)+(C.length:Int))=((f.length+1:Nat):Int):=by rw[IntKind.wrap_i64]; omega
 rw[X]
 refine dD' (p:=(c:Int)<((f.length+1:Nat):Int)) z (fun ax=>?_) (fun ax=>?_)
 .refine sr<|mv z z<|mv z z<|yy (Y0.slc (l:=0) (h:=j) (m:=c) (b:=b) (o:=0) w' aT' z z ⟨_,z⟩ z (by omega) (by omega) (by omega)) z<|mv z z<|mv z z<|yy (X' z z) z<|mv z z<|yy (bj' z z) z ?_
  rw[X]
  have aG:i64.wrap (((f.length+1:Nat):Int)-(j:Int))=((f.length+1-j:Nat):Int):=by rw[IntKind.wrap_i64]; omega
  rw[aG]
  simp only[Nat.zero_mul,Nat.add_zero,ite_self,Nat.sub_zero]
  refine WL.appendZ (sz:=2) (bytes:=32) (n:=j) (cap:=c) (m:=f.length+1-j) (b:=b) 5000 7001 z z w' aB' el110 z (by decide) (by decide) z z z (by omega) (by omega) (by simp only[small]; omega) (by simp only[List.length_append]; omega) (fun T M W h1 V h3=>?_)
  have et:List.take (j*2) (x++g++s)=x:=by rw[List.append_assoc,<- E,List.take_left]
  have e0:j+(f.length+1-j)=f.length+1:=by omega
  rw[e0] at h1
  rw[et,e0]
  refine sg z z<|nr<|mv z z<|mv z z<|yy (df' (l:=j) (n:=f.length+1) (cap:=M) (b:=T) w' aT' z z (by omega) (by omega) (by omega)) z<|mv z z<|dE' (sz:=2) (dn:=f.length+1-j) (sn:=C.length) (ds:=ds) (b:=T) (o:=j*2) 7001 z z w' aT' z z z (by rw[F]; simp only[Nat.min_def]; split <;> omega) (fun w B k u I=>B.imm _ _ _ (A k u I)) (by simp only[List.length_append]; omega) D.one ?_
  have e2:spl (x++W) (j*2) ds=x++ds++W.drop 2:=by
   rw[<- E]; simp only[spl,List.take_left,<- List.drop_drop,List.drop_left,F]
  rw[e2]
  refine nx<|n'<|ah' [ff,ff,ff,ff,ff,ff,ff,ff] mix (by kernel_rfl) fun hb=>cn (fun _ t=>e' z)<|cn (fun _ t=>e' z)<|cn (fun _ t=>e' z)<|cn (fun _ t=>X' z z) ?_
  have R:i64.wrap ((j:Int)+(C.length:Int))=((j+1:Nat):Int):=by rw[IntKind.wrap_i64]; omega
  rw[R]
  refine cn (fun _ t=>df' (l:=j+1) (n:=f.length+1) (cap:=M) (b:=T) w' aT' z z (by omega) (by omega) (by omega))<|cn (fun _ t=>e' z)<|cn (fun _ t=>e' z)<|cn (fun _ t=>df' (l:=j) (n:=f.length) (cap:=c) (b:=b) w' aT' z z (by omega) (by omega) (by omega))<|R' hb ?_
  .refine dE' (sz:=2) (dn:=f.length+1-(j+1)) (sn:=f.length-j) (ds:=g) (b:=T) (o:=(j+1)*2) 7001 z z w' aT' z z z (by rw[P]; congr 1; simp only[Nat.min_def]; split <;> omega) (fun w B k u I=>by
    rw[B.cellOwn (key:=5000) (b:=b) (c:=x++g++s) (e:=110) z,List.append_assoc,List.getElem?_append_right (by omega),<- E,Nat.add_sub_cancel_left,List.getElem?_append_left (List.getElem?_eq_some_iff.1 I).1]
    exact I) (by simp only[List.length_append,List.length_drop]; omega) O.one ?_
   have e3:spl (x++ds++W.drop 2) ((j+1)*2) g=x++ds++g++(W.drop 2).drop g.length:=by
    have:(j+1)*2=(x++ds).length:=by simp only[List.length_append]; omega
    rw[this]; simp only[spl,List.take_left,<- List.drop_drop,List.drop_left]
   rw[e3]
   refine u'<|aq'<|g'<|sr<|mv z z<|sx0 z z<|j'<|a'<|aK' (S':=St w0 K K [(5000,bk0 T (x++ds++g++(W.drop 2).drop g.length) 110)]) (fun w B=>?_) (k' z z ⟨_,_,_,z,by rw[Q],J T M _ (by simp only[List.length_append,List.length_drop]; omega) V h1⟩)
   have B:=B.rekey (i:=7001) (j:=5000) z (by rw[az]; rfl)
   exact B.weaken (lc z ln)
 refine q'<|g'<|sr<|mv z z<|mv z z<|mv z z<|yy (X' z z) z ?_
 rw[X]
 refine yy (Y0.slc (l:=0) (h:=f.length+1) (m:=c) (b:=b) (o:=0) w' aT' z z ⟨_,z⟩ z (by omega) (by omega) (by omega)) z ?_
 simp only[Nat.zero_mul,Nat.add_zero,ite_self,Nat.sub_zero]
 refine sx0 z z<|n'<|sr<|mv z z<|mv z z<|mv z z<|mv z z<|yy (X' z z) z ?_
 have R:i64.wrap ((j:Int)+(C.length:Int))=((j+1:Nat):Int):=by rw[IntKind.wrap_i64]; omega
 rw[R]
 refine yy (df' (l:=j+1) (n:=f.length+1) (cap:=c) (b:=b) w' aT' z z (by omega) (by omega) (by omega)) z ?_
 obtain⟨u0,aC⟩:∃ u,ds[0]? = some u:=⟨ds[0],by simp⟩
 refine yy (Y0.ext z (fun w B=>ZeL (tR:=4) (key:=5000) w' aT' func198 z z (by kernel_rfl) (by kernel_rfl) B z (by simp only[List.size_toArray,List.length_append]; omega) (A 0 u0 aC))) z<|yy (al' z) z<|nx<|U' z<|n'<|ah' [ff,ff,ff,ff,ff,ff,ff,ff] mix (by kernel_rfl) fun hb=>cn (fun _ t=>e' z)<|cn (fun _ t=>e' z)<|cn (fun _ t=>e' z)<|cn (fun _ t=>X' z z) ?_
 rw[R]
 refine cn (fun _ t=>df' (l:=j+1) (n:=f.length+1) (cap:=c) (b:=b) w' aT' z z (by omega) (by omega) (by omega))<|cn (fun _ t=>e' z)<|cn (fun _ t=>e' z)<|cn (fun _ t=>df' (l:=j) (n:=f.length+1) (cap:=c) (b:=b) w' aT' z z (by omega) (by omega) (by omega))<|R' hb<|dE' (sz:=2) (dn:=f.length+1-(j+1)) (sn:=f.length+1-j) (ds:=g) (b:=b) (o:=(j+1)*2) 5000 z z w' aT' z z z (by rw[P]; congr 1; simp only[Nat.min_def]; split <;> omega) (fun w B k u I=>by
  rw[B.cellOwn (key:=5000) (b:=b) (c:=x++g++s) (e:=110) z,List.append_assoc,List.getElem?_append_right (by omega),<- E,Nat.add_sub_cancel_left,List.getElem?_append_left (List.getElem?_eq_some_iff.1 I).1]
  exact I) (by simp only[List.length_append]; omega) O.one ?_
 refine u'<|aq'<|g'<|sr<|mv z z<|mv z z<|yy (df' (l:=j) (n:=f.length+1) (cap:=c) (b:=b) w' aT' z z (by omega) (by omega) (by omega)) z<|mv z z ?_
 have aA:(spl (x++g++s) ((j+1)*2) g).length=c*2:=by rw[Zee (by simp only[List.length_append]; omega)]; simp only[List.length_append]; omega
 refine dE' (sz:=2) (dn:=f.length+1-j) (sn:=C.length) (ds:=ds) (b:=b) (o:=j*2) 5000 z z w' aT' z z z (by rw[F]; simp only[Nat.min_def]; split <;> omega) (fun w B k u I=>B.imm _ _ _ (A k u I)) (by rw[aA]; omega) D.one ?_
 have e4:spl (spl (x++g++s) ((j+1)*2) g) (j*2) ds=x++ds++g++(x++g++s).drop ((j+1)*2+g.length):=by
  have e5:spl (x++g++s) ((j+1)*2) g=x++((g++s).take 2++(g++(x++g++s).drop ((j+1)*2+g.length))):=by
   simp only[spl]
   rw[show (j+1)*2=x.length+2 by omega,List.append_assoc x g s,List.take_length_add_append]
   simp only[List.append_assoc]
  rw[e5,<- E]
  have e6:((g++s).take 2).length=2:=by rw[List.length_take,List.length_append]; omega
  simp only[spl,List.take_left,<- List.drop_drop,List.drop_left,F]
  rw[List.drop_left' e6]
  simp only[List.append_assoc]
 rw[e4]
 refine nr<|mv z z<|sx0 z z<|j'<|a'<|aK' (S':=St w0 K K [(5000,bk0 b (x++ds++g++(x++g++s).drop ((j+1)*2+g.length)) 110)]) (fun w B=>?_) (k' z z ⟨_,_,_,z,by rw[Q],J b c _ (by simp only[List.length_append,List.length_drop]; omega) aF (by omega)⟩)
 exact B.weaken (lc z ln)
theorem gC':CtrL prog 67 #[] [] (fun _=>True) (fun _ L v=>∃ c,L=[(7000,c)]/\MapR ky3 RvF v Zv c):=by
 refine bg' (args:=[]) (N:=3) func67 z z z fun g f e _=>sr<|WL.y0' z (Y0.assign z) z<|nx<|sr<|WL.makeMap (ky:=ky3) (Rv:=RvF) 4000 z z fun b c h=>dN' (z:=85) (k:=1) 4000 z bZ' h z z z z (show (Lit.int i64 1).wf=true by decide) z (by decide) fun c h=>dN' (z:=86) (k:=2) 4000 z bZ' h z z z z (show (Lit.int i64 2).wf=true by decide) z (by decide) fun c h=>dN' (z:=87) (k:=3) 4000 z bZ' h z z z z (show (Lit.int i64 3).wf=true by decide) z (by decide) fun c h=>dN' (z:=88) (k:=4) 4000 z bZ' h z z z z (show (Lit.int i64 4).wf=true by decide) z (by decide) fun c h=>dN' (z:=89) (k:=5) 4000 z bZ' h z z z z (show (Lit.int i64 5).wf=true by decide) z (by decide) fun c h=>dN' (z:=90) (k:=6) 4000 z bZ' h z z z z (show (Lit.int i64 6).wf=true by decide) z (by decide) fun c h=>dN' (z:=91) (k:=7) 4000 z bZ' h z z z z (show (Lit.int i64 7).wf=true by decide) z (by decide) fun c h=>dN' (z:=92) (k:=8) 4000 z bZ' h z z z z (show (Lit.int i64 8).wf=true by decide) z (by decide) fun c h=>mv z z<|sx0 z z<|j'<|aK' (S':=St g f f [(7000,c)]) (fun w d=>?_) (k' z z ⟨_,z,h⟩)
 have d:=d.rekey (i:=4000) (j:=7000) z (by rw[e]; rfl)
 exact d.weaken (lc z ln)
theorem eP'{j i r}(hr:(ZbH j i).Ret r):Ctr prog 109 #[.agg (vecG (Value.int .i64) 8 j).toArray,.agg (vecG (Value.int .i64) 8 i).toArray] (fun G=>True) (fun G v=>v=i' r):=by
 refine E' (args:=[_,_]) (N:=25) func109 z z z fun y l J E=>sr<|af' 2 z z z fun n=>af' 3 z z z fun m=>sx0 z z<|n'<|sr<|yy (o' 2 bS' z z (ac' _ _ _)) z<|yy (o' 3 bS' z z (ac' _ _ _)) z<|yy (Y0.eqlV aO' aB' sc3 sz3 eg120 z z) z<|nx<|L' hr z (fun A hr=>?_) (fun A hr=>?_)
 .refine sr<|sx0 z z<|j'<|a' (k0' hr z z)
 refine q'<|g'<|sr<|sx0 z z<|n'<|am' (fun (⟨g,f⟩:Int×Mem)=>[(2,pt0 n),(3,pt0 m),(5,i' g)]) (fun ⟨g,f⟩=>Mem.le l f/\(ZcS j i g).Ret r) (fun ⟨g,f⟩=>St y l f [(2,bk0 n (vecG (Value.int .i64) 8 j) 120),(3,bk0 m (vecG (Value.int .i64) 8 i) 120)]) ?_ ?_
 .refine B' ?_
  let k:Int->Prop:=fun F=>((fun D=>match D with|g=>ZcS j i g:Int->Cq Int) F).wp (fun a=>a=r)
  replace hr:(Cq.loop _ _).wp k:=hr
  refine an' (Φ:=k) (fun (⟨e,d⟩:Int×Mem)=>(e:Int)) (fun ⟨e,d⟩=>[(2,pt0 n),(3,pt0 m),(5,i' e)]) (fun ⟨e,d⟩=>Mem.le l d) (fun ⟨e,d⟩=>St y l d [(2,bk0 n (vecG (Value.int .i64) 8 j) 120),(3,bk0 m (vecG (Value.int .i64) 8 i) 120)]) ⟨0,l⟩ hr (f3 z z z) mr (w2 z z) ?_
  .intro I C H hr
   obtain⟨e,d⟩:=C
   have h:=H
   refine n'<|n'<|ah' [ff,ff,ff,ff,ff,ff] mix (by kernel_rfl) fun t=>cn (fun _ c=>e' z) ?_
   obtain⟨q,hr⟩:=hr
   refine cn (fun _ c=>bi' aO' sz3 z z q)<|cn (fun _ c=>f' 2 sc3 z z (bk' _ _ _ q))<|cn (fun _ c=>e' z) ?_
   obtain⟨o,hr⟩:=hr
   refine cn (fun _ c=>bi' aO' sz3 z z o)<|cn (fun _ c=>f' 3 sc3 z z (bk' _ _ _ o))<|R' t<|yy (au' z z) z<|u'<|aq'<|g'<|L' hr z (fun x hr=>?_) (fun x hr=>?_)
   .refine q'<|g'<|B'<|A'<|mv z z<|yy (X' z z) z<|sg z z<|u'<|J'<|Y' ⟨i64.wrap (e+1),d⟩ hr h (f3 z z z) (w2 z z)
   refine ao'<|r'<|r'<|O'<|ap' ⟨e,d⟩ ⟨h,hr⟩ (f3 z z z) (w2 z z)
 rintro⟨g,f⟩ ⟨B,hr⟩
 refine g'<|n'<|n'<|ah' [ff,ff,ff,ff,ff,ff] mix (by kernel_rfl) fun t=>cn (fun _ c=>e' z) ?_
 obtain⟨p,hr⟩:=hr
 refine cn (fun _ c=>bi' aO' sz3 z z p)<|cn (fun _ c=>f' 2 sc3 z z (bk' _ _ _ p))<|cn (fun _ c=>e' z) ?_
 obtain⟨s,hr⟩:=hr
 refine cn (fun _ c=>bi' aO' sz3 z z s)<|cn (fun _ c=>f' 3 sc3 z z (bk' _ _ _ s))<|R' t<|yy (ai' z z) z<|u'<|aq'<|g'<|L' hr z (fun u hr=>?_) (fun u hr=>?_)
 .refine sr<|sx0 z z<|j'<|a' (k0' hr z z)
 refine q'<|g'<|sr<|sx0 z z<|j' (k0' hr z z)
theorem eO'{l k d j i g e h c f r}(hr:(ZcW l k).Ret r):Ctr prog 211 #[.agg (((v130' l.c d j i g):List Value)++(vecG (Value.int .i64) 8 l.m)).toArray,.agg (((v130' k.c e h c f):List Value)++(vecG (Value.int .i64) 8 k.m)).toArray] (fun G=>sl (Rp.int .u32) G d j l.c.num.mag/\sl (Rp.int .u32) G i g l.c.den.mag/\sl (Rp.int .u32) G e h k.c.num.mag/\sl (Rp.int .u32) G c f k.c.den.mag) (fun G v=>v=i' r):=by
 refine E' (args:=[_,_]) (N:=10) func211 z z z (fun x B u q=>?_)
 obtain⟨o,m,p,n⟩:=q
 refine sr<|af' 2 z z z fun A=>af' 3 z z z fun y=>sg z z<|nr<|yy (bB' z) z<|yy (aI' (vecG (Value.int .i64) 8 k.m).toArray 3 bS' z z (ac' _ _ _) (aU' ((v130' k.c e h c f)) (vecG (Value.int .i64) 8 k.m) ([]))) z<|yy (bB' z) z<|yy (aI' (vecG (Value.int .i64) 8 l.m).toArray 2 bS' z z (ac' _ _ _) (aU' ((v130' l.c d j i g)) (vecG (Value.int .i64) 8 l.m) ([]))) z ?_
 obtain⟨t,s,hr⟩:=hr
 refine F' z z (t' E109 z) (eP' s) z (trivial)<|sx0 z z<|j' (k0' hr z z)
theorem hC':Go.Sort.SWO (Go.Proofs.ltOf (fun a b:Ze=>cmpM b.m a.m)):=⟨fun x=>swoR.irrefl x.m,fun x y z=>swoR.trans x.m y.m z.m,fun x y z=>swoR.ntrans x.m y.m z.m⟩
theorem cV'{l a b i p c n C r}(hr:(ZV l a b i).Ret r):CtrL prog 219 #[.slice p n c,i' a,i' b,i' i,.func (.func 211) #[] #[]] [(5000,C)] (fun G=>RowR K' 133 G (.slice p n c) l C) (fun G L v=>∃ t,L=[(5000,t)]/\v = .tuple #[]/\RowR K' 133 G (.slice p n c) r t):=by
 obtain⟨⟨rfl,rfl,⟨U,S⟩,R⟩,hr⟩:=hr
 obtain⟨k,rfl⟩:∃ k:Nat,i=k:=⟨i.toNat,by omega⟩
 refine (pdqR (r:=K') (sz:=12) z (by decide) hC' Tryz.sortL z (fun _=>by kernel_rfl) (fun _=>by kernel_rfl) (fun x y Q T w G O K=>?_) E211 133 p n c l C k (by omega) (by omega)).mono (fun _ h=>h) (fun G L v ⟨E,D,I,F,P,N,H⟩=>?_)
 .obtain⟨M,J⟩:=K
  obtain⟨u,m,o,j,rfl,d,f⟩:=Zh6 M
  obtain⟨B,s,q,A,rfl,e,g⟩:=Zh6 J
  exact eO' (show (ZcW x y).Ret (cmpM y.m x.m) from ⟨_,ZeK y.m x.m,z⟩) w G O ⟨d,f,e,g⟩
 have:E=r:=hr E ⟨N,H.imp (fun h=>by simpa [Go.Proofs.ltOf] using h)⟩
 subst this
 exact⟨D,I,F,P⟩
theorem fl'(c:Int)(f:Nat)(r:Bool)(hr:(ZaC c).Ret r):Ctr prog 122 #[pt0 f] (fun G=>At (Rp.int .i64) G f 0 c) (fun G v=>v = .bool r):=by
 refine E' (args:=[_]) (N:=4) func122 z z z (fun h i g e=>?_)
 have d:=e
 refine sr<|sg z z<|nr<|yy (Z' sc3 z (aF' d)) z<|yy (ai' z z) z<|sx0 z z<|j' (k0' hr z z)
theorem fm'(e:(Unit->Cq Bool))(d:Int)(k:Nat)(m:Nat)(r:Int)(hr:(Zo e d).Ret r):Ctr prog 167 #[pt0 k,pt0 m] (fun G=>At (Rp.fn prog fa0 foB) G k 0 e/\At (Rp.int .i64) G m 0 d) (fun G v=>v=i' r):=by
 refine E' (args:=[_,_]) (N:=6) func167 z z z (fun x y t i=>?_)
 obtain⟨f,g⟩:=i
 refine sr<|sx0 z z<|n'<|sr ?_
 obtain⟨u,n,o⟩:=AtK.fnv f
 refine yy (Z' sc27 z (n)) z ?_
 obtain⟨q,j,hr⟩:=hr
 refine WL.callFn (vs:=[]) (a:=()) z z o z z z j (fun p s h c=>?_)
 subst c
 refine nx<|aL' hr z (fun l hr=>?_) (fun l hr=>?_)
 .refine sr<|sx0 z z<|j'<|a' (k0' hr z z)
 refine q'<|g'<|sr<|yy (Z' sc36 z (aF' (I' g h))) z<|sx0 z z<|j' (k0' hr z z)
theorem by'{f d c g r}(hr:(ZF f d).Ret r):Ctr prog 121 #[i' f,c] (fun G=>FnRd prog fa0 foB G c g d) (fun G v=>∃ p u,v=p/\FnRd prog fa0 foI G p u r):=by
 refine E' (args:=[_,_]) (N:=6) func121 z z z (fun D E j n=>?_)
 have e:=n
 refine sr<|af' 124202 z z z fun q=>WL.boxF 124203 (FnR.one e) z z z fun t=>sx0 z z<|n'<|bG' 124203 z (by rw[j]; rfl) fun B i m s=>bG' 124202 z (by rw[j]; rfl) fun o h l A=>A'<|yy (bQ' z z) z<|sx0 z z<|j' ?_
 obtain rfl:_=r:=hr
 exact k' z z ⟨_,_,z,(show FnRd prog fa0 foI o (.func (.func 167) #[] #[pt0 t,pt0 q]) () (fun _=>Zo d f) from (dr' E167 (fun x y=>ds' (fm' _ _ _ _ x y) (fun C k=>⟨(I' (ck' (r:=(Rp.fn prog fa0 foB)) (cs:=[c]) m z ⟨_,z,(e.mono i)⟩) (mt h k)),(I' (ck' (r:=(Rp.int .i64)) (cs:=[i' f]) l z z) k)⟩))))⟩
theorem fn'(d:Zc)(e:Int)(h:Nat)(i:Nat)(r:Bool)(hr:(Zal d e).Ret r):Ctr prog 123 #[pt0 h,pt0 i] (fun G=>At ab' G h 0 d/\At (Rp.int .i64) G i 0 e) (fun G v=>v = .bool r):=by
 refine E' (args:=[_,_]) (N:=12) func123 z z z (fun l m k g=>?_)
 obtain⟨c,f⟩:=g
 refine sr<|sg z z<|nr<|yy (aJ' z) z<|yy (Z' sc3 z (aF' (aW' (ax' (ax' (ay' c)))))) z<|ad' hr z (bN' z z) z (fun j hr=>?_) (fun j hr=>?_)
 .refine mv z z<|gy z z (aJ' z) z<|gy z z (Z' sc3 z (aF' (aW' (ax' (ax' (ay' c)))))) z<|gy z z (Z' sc3 z (aF' f)) z<|gy z z (bN' z z) z<|yy (h' z z) z<|sx0 z z<|j' (k0' hr z z)
 refine mv z z<|sn4 z<|yy (l' z z) z<|sx0 z z<|j' (k0' hr z z)
theorem eH'{h e d r}(hr:(Zdm h).Ret r):Ctr prog 157 #[.agg ((v128' h e d)).toArray] (fun G=>sl (Rp.int .u32) G e d h.mag) (fun G v=>v = .bool r):=by
 refine E' (args:=[_]) (N:=19) func157 z z z (fun n o k g=>?_)
 have c:=g
 refine sr<|af' 1 z z z fun l=>sg z z<|nr<|yy (bs' z) z<|ad' hr z (dc' (f' 1 sc4 z z z) (congrArg Value.bool (bdec _))) z (fun i hr=>?_) (fun i hr=>?_)
 .refine yy (al' z) z<|mv z z<|sn4 z<|yy (l' z z) z<|mv z z<|sn5 z<|yy (l' z z) z<|sx0 z z<|j' (k0' hr z z)
 refine yy (al' z) z<|mv z z<|gy z z (aZ' z) z<|gy z z (f' 1 bL' z z z) z<|gy z z (M' C' c z) z<|ad' hr (v' z z) (au' z z) z (fun j hr=>?_) (fun j hr=>?_)
 .refine yy (h' z z) z<|mv z z<|gy z z (aZ' z) z<|gy z z (f' 1 bL' z z z) z ?_
  obtain⟨m,f,hr⟩:=hr
  refine gy z z (T' C' bt' c z z f) z<|gy z z (Z' bV' z (aF' (ae' c f))) z<|gy z z (au' z z) z<|yy (h' z z) z<|sx0 z z<|j' (k0' hr z z)
 refine yy (h' z z) z<|mv z z<|sn5 z<|yy (l' z z) z<|sx0 z z<|j' (k0' hr z z)
theorem dt'{f j k r}(hr:(ZbG f).Ret r):Ctr prog 187 #[.slice j f.length k] (fun G=>sl (Rp.int .u32) G j k f) (wl' (Rp.int .u32) r):=by
 refine E' (args:=[_]) (N:=21) func187 z z z (fun s m D p=>?_)
 have i:=p
 refine sr<|sg z z<|nr<|mv z z<|yy (M' C' i z) z<|sx0 z z<|n'<|am' (fun (⟨h,g⟩:Int×Mem)=>[(0,.slice j f.length k),(3,i' h)]) (fun ⟨h,g⟩=>Mem.le m g/\(ZcP f h).Ret r) (fun ⟨h,g⟩=>St s m g []) ?_ ?_
 .refine B' ?_
  let l:Int->Prop:=fun A=>((fun y=>match y with|h=>ZcP f h:Int->Cq (List Int)) A).wp (fun a=>a=r)
  replace hr:(Cq.loop _ _).wp l:=hr
  refine an' (Φ:=l) (fun (⟨e,d⟩:Int×Mem)=>(e:Int)) (fun ⟨e,d⟩=>[(0,.slice j f.length k),(3,i' e)]) (fun ⟨e,d⟩=>Mem.le m d) (fun ⟨e,d⟩=>St s m d []) ⟨(f.length:Int),m⟩ hr (f2 z z) mr (wk ln) ?_
  .intro C x B hr
   obtain⟨e,d⟩:=x
   have c:=B
   refine n'<|sr<|mv z z<|ad' hr z (bh' z z) z (fun t hr=>?_) (fun t hr=>?_)
   .refine mv z z<|gy z z (e' z) z<|gy z z (e' z) z<|gy z z (bj' z z) z ?_
    obtain⟨H,o,hr⟩:=hr
    refine gy z z (T' C' bt' (i.mono c) z z o) z<|gy z z (Z' bV' z (aF' (I' (ae' i o) c))) z<|gy z z (au' z z) z<|yy (h' z z) z<|nx<|L' hr z (fun u hr=>?_) (fun u hr=>?_)
    .refine q'<|g'<|B'<|A'<|mv z z<|yy (bj' z z) z<|sg z z<|u'<|J'<|Y' ⟨i64.wrap (e-1),d⟩ hr c (f2 z z) (wk ln)
    refine ao'<|r'<|r'<|O'<|ap' ⟨e,d⟩ ⟨c,hr⟩ (f2 z z) (wk ln)
   refine mv z z<|sn6 z<|yy (l' z z) z<|nx<|bb' z<|ao'<|r'<|r'<|O'<|ap' ⟨e,d⟩ ⟨c,hr⟩ (f2 z z) (wk ln)
 rintro⟨h,g⟩ ⟨n,hr⟩
 refine g'<|sr<|mv z z<|mv z z ?_
 obtain⟨v,hr⟩:=hr
 refine WL.sliceRH (r:=(Rp.int .u32)) z z C' bt' z (i.mono n) z z v fun F E q=>sx0 z z<|j' ?_
 obtain rfl:_=r:=hr
 exact k' z z ⟨_,_,z,q⟩
theorem eK'{g c d r}(hr:(ZdX g).Ret r):Ctr prog 186 #[.slice c g.length d] (fun G=>sl (Rp.int .u32) G c d g) (wl' (Rp.int .u32) r):=by
 refine E' (args:=[_]) (N:=5) func186 z z z (fun q s i e=>?_)
 have j:=e
 refine sr<|sg z z<|nr<|mv z z ?_
 obtain⟨f,hr⟩:=hr
 refine bW' (r:=(Rp.int .u32)) 2004 z z C' el202 z (by decide) z z (W' (Rp.int .u32) _) z (by rw[i]; rfl) dh' j f fun p o l n k h m=>sx0 z z<|j' ?_
 obtain rfl:_=r:=hr
 exact k' z z ⟨_,_,z,h⟩
theorem fQ'{c d f e r}(hr:(ZfX c d).Ret r):Ctr prog 189 #[.bool c,.slice f d.length e] (fun G=>sl (Rp.int .u32) G f e d) (w128' r):=by
 refine E' (args:=[_,_]) (N:=14) func189 z z z (fun y A u n=>?_)
 have l:=n
 refine sr<|V' 4 z z128 z fun x=>nr<|mv z z ?_
 obtain⟨m,o,hr⟩:=hr
 refine P' z z (t' E187 z) (dt' o) z (l) (fun s t q g=>?_)
 obtain⟨h,k,rfl,j⟩:=g
 refine sx0 z z<|n'<|sr<|mv z z<|yy (M' C' j z) z<|yy (au' z z) z<|nx<|L' hr z (fun p hr=>?_) (fun p hr=>?_)
 .exact (show False from hr).elim
 refine q'<|g'<|sr<|mv z z<|mv z z<|yy (av' (vs:=#[(0,.bool c),(1,.slice h m.length k)]) (v:=.agg ([.bool c,.slice h m.length k]).toArray) z z (fun _=>by kernel_rfl)) z<|s' 4 z dl' z z z z z (List.all_eq_true.1 z)<|nx<|j' ?_
 obtain rfl:_=r:=hr
 exact k' z (aa' (i:=4) bu' z z z) ⟨_,_,z,j⟩
theorem gr'{a1 b1 H E C I r}(hr:(Zib a1 b1).Ret r):Ctr prog 158 #[.agg ((v128' a1 H E)).toArray,.agg ((v128' b1 C I)).toArray] (fun G=>sl (Rp.int .u32) G H E a1.mag/\sl (Rp.int .u32) G C I b1.mag) (w128' r):=by
 refine E' (args:=[_,_]) (N:=53) func158 z z z (fun w0 G0 a2 aj=>?_)
 obtain⟨U,aa⟩:=aj
 refine sr<|af' 2 z z z fun b2=>af' 3 z z z fun b3=>V' 4 z z128 z fun b4=>nx<|n'<|ah' [ff,ff,ff,ff,ff,ff] mix (by kernel_rfl) fun hb=>cn (fun _ k=>aZ' z)<|cn (fun _ k=>f' 2 bL' z z z) ?_
 obtain⟨W,al,hr⟩:=hr
 refine aX' (post:=wl' (Rp.int .u32) W) (fun _=>z) (fun _ _=>t' E187 z) (dt' al) z (fun G' k=>(U.mono k)) (fun v G1 G2 k h=>?_) ?_
 .obtain⟨T,X,rfl,y⟩:=h
  exact⟨_,_,z,y.mono k⟩
 obtain⟨V,ao,hr⟩:=hr
 refine cD' (f:=186) (φ:=wl' (Rp.int .u32) V) (fun _=>z) (fun v G1 G2 k h=>?_) (fun u G' k hu=>?_) ?_
 .obtain⟨ab,Y,rfl,J⟩:=h
  exact⟨_,_,z,J.mono k⟩
 .obtain⟨⟨T,X,ac,y⟩,_⟩:=(show (wl' (Rp.int .u32) W) G'.m (u 13)/\True from hu)
  exact⟨_,_,_,fun _=>t' E186 z,eK' ao,(by simp only[ac] <;> rfl),y⟩
 refine cu (fun _ _ k=>aZ' z)<|cu (fun _ _ k=>f' 3 bL' z z z)<|du' (d:=14) (post:=wl' (Rp.int .u32) V) (d':=13) (post':=wl' (Rp.int .u32) W) (fun aJ aN a3 ag K P=>?_)
 obtain⟨ab,Y,rfl,J⟩:=K
 obtain⟨T,X,rfl,y⟩:=P
 obtain⟨aY,aq,hr⟩:=hr
 refine P' z z (t' E187 z) (dt' aq) z ((aa.mono ag)) (fun aL aZ af R=>?_)
 obtain⟨aK,aS,rfl,ak⟩:=R
 obtain⟨aG,ai,hr⟩:=hr
 refine P' z z (t' E186 z) (eK' ai) z (ak) (fun aV Z ah O=>?_)
 obtain⟨am,av,rfl,aw⟩:=O
 refine sg z z<|sg z z<|u'<|aq'<|g'<|n'<|am' (fun (⟨D,F,A,x,j,g,t⟩:(List Int)×Option Addr×Nat×Zj×Option Addr×Nat×Mem)=>[(4,pt0 b4),(5,.slice F D.length A)]) (fun ⟨D,F,A,x,j,g,t⟩=>Mem.le Z t/\sl (Rp.int .u32) t F A D/\sl (Rp.int .u32) t j g x.mag/\(Zdh D).Ret r) (fun ⟨D,F,A,x,j,g,t⟩=>St w0 G0 t [(4,bk0 b4 (v128' x j g) 128)]) ?_ ?_
 .refine B' ?_
  let S:(Zj⊕((List Int)×Zj))->Prop:=fun oo=>((fun ov=>match ov with | .inl rv1=>Cq.ret rv1 | .inr (D,x)=>Zdh D:(Zj⊕((List Int)×Zj))->Cq Zj) oo).wp (fun a=>a=r)
  replace hr:(Cq.loop _ _).wp S:=hr
  refine an' (Φ:=S) (fun (⟨B,s,q,p,m,n,o,e,c,l⟩:(List Int)×Option Addr×Nat×(List Int)×Option Addr×Nat×Zj×Option Addr×Nat×Mem)=>((B,p,o):(List Int)×(List Int)×Zj)) (fun ⟨B,s,q,p,m,n,o,e,c,l⟩=>[(4,pt0 b4),(5,.slice s B.length q),(6,.slice m p.length n)]) (fun ⟨B,s,q,p,m,n,o,e,c,l⟩=>Mem.le Z l/\sl (Rp.int .u32) l s q B/\sl (Rp.int .u32) l m n p/\sl (Rp.int .u32) l e c o.mag) (fun ⟨B,s,q,p,m,n,o,e,c,l⟩=>St w0 G0 l [(4,bk0 b4 (v128' o e c) 128)]) ⟨V,ab,Y,aG,am,av,(Zj.mk false []),none,0,Z⟩ hr (f3 z z z) ⟨mr,(J.mono (mt af ah)),aw,(W' _ _)⟩ (w1 z) ?_
  .intro a0 gx hx hr
   obtain⟨B,s,q,p,m,n,o,e,c,l⟩:=gx
   obtain⟨ae,aB,au,L⟩:=hx
   refine n'<|sr<|mv z z<|yy (M' C' au z) z<|yy (bh' z z) z<|nx<|L' hr z (fun aD hr=>?_) (fun aD hr=>?_)
   .exact (show False from hr).elim
   refine ao'<|r'<|r'<|O'<|ap' ⟨B,s,q,o,e,c,l⟩ ⟨ae,aB,L,hr⟩ (f2 z z) (w1 z)
 rintro⟨D,F,A,x,j,g,t⟩ ⟨aI,aA,ax,hr⟩
 refine g'<|sr<|mv z z ?_
 obtain⟨a4,an,hr⟩:=hr
 refine P' z z (t' E189 z) (fQ' an) z (aA) (fun aM aX aH Q=>?_)
 obtain⟨ay,az,rfl,M⟩:=Q
 refine s' 4 z dl' z z z z z (List.all_eq_true.1 z)<|nx<|j' ?_
 obtain rfl:_=r:=hr
 exact k' z (aa' (i:=4) bu' z z z) ⟨_,_,z,M⟩
theorem eL'{h e d r}(hr:(ZdW h).Ret r):Ctr prog 155 #[.agg ((v128' h e d)).toArray] (fun G=>sl (Rp.int .u32) G e d h.mag) (fun G v=>v = .bool r):=by
 refine E' (args:=[_]) (N:=19) func155 z z z (fun m n j g=>?_)
 have c:=g
 refine sr<|af' 1 z z z fun k=>sg z z<|nr<|yy (aZ' z) z<|yy (f' 1 bL' z z z) z<|yy (M' C' c z) z<|sx0 z z<|n'<|sr<|mv z z<|yy (au' z z) z<|nx<|L' hr z (fun i hr=>?_) (fun i hr=>?_)
 .exact (show False from hr).elim
 refine q'<|g'<|sr<|yy (aZ' z) z<|yy (f' 1 bL' z z z) z<|mv z z<|yy (bj' z z) z ?_
 obtain⟨l,f,hr⟩:=hr
 refine yy (T' C' bt' c z z f) z<|yy (Z' bV' z (aF' (ae' c f))) z<|yy (aw' z z) z<|sx0 z z<|j' (k0' hr z z)
theorem eQ'{g d c r}(hr:(ZeF g).Ret r):Ctr prog 156 #[.agg ((v128' g d c)).toArray] (fun G=>sl (Rp.int .u32) G d c g.mag) (fun G v=>v=i' r):=by
 refine E' (args:=[_]) (N:=9) func156 z z z (fun l m j f=>?_)
 have e:=f
 refine sr<|af' 1 z z z fun k=>sx0 z z<|n'<|sr<|yy (aZ' z) z<|yy (f' 1 bL' z z z) z<|yy (M' C' e z) z<|yy (au' z z) z<|nx<|L' hr z (fun i hr=>?_) (fun i hr=>?_)
 .exact (show False from hr).elim
 refine q'<|g'<|n'<|sr<|yy (bs' z) z<|yy (f' 1 sc4 z z z) z<|nx<|aL' hr z (fun h hr=>?_) (fun h hr=>?_)
 .refine sr<|sx0 z z<|j'<|a' (k0' hr z z)
 refine q'<|g'<|sr<|sx0 z z<|j' (k0' hr z z)
theorem fR'{g f e c d r}(hr:(ZbS g).Ret r):Ctr prog 106 #[.agg ((v130' g f e c d)).toArray] (fun G=>sl (Rp.int .u32) G f e g.num.mag/\sl (Rp.int .u32) G c d g.den.mag) (fun G v=>v = .bool r):=by
 refine E' (args:=[_]) (N:=30) func106 z z z (fun K x P s=>?_)
 obtain⟨i,h⟩:=s
 refine sr<|af' 1 z z z fun D=>sx0 z z<|aM' (fun (n:Mem)=>match n with|k=>[(1,pt0 D)]) (fun (n:Mem)=>match n with|k=>Mem.le x k/\(ZdZ g).Ret r) (fun (n:Mem)=>match n with|k=>St K x k [(1,bk0 D (v130' g f e c d) 130)]) ?_ ?_
 .refine sr<|yy (cE' z) z<|yy (aI' ((v128' g.num f e)).toArray 1 bu' z z z (aU' ([]) ((v128' g.num f e)) ((v128' g.den c d)))) z ?_
  obtain⟨F,o,hr⟩:=hr
  refine F' z z (t' E155 z) (eL' o) z (i) ?_
  cases F
  .refine yy (al' z) z<|mv z z<|sn4 z<|yy (h' z z) z<|mv z z<|sn4 z<|yy (h' z z) z<|nx<|U' z<|sr<|sx0 z z<|j'<|a' (k0' hr z z)
  refine yy (al' z) z<|mv z z<|gy z z (cj' z) z<|gy z z (aI' ((v128' g.den c d)).toArray 1 bu' z z z (aU' ((v128' g.num f e)) ((v128' g.den c d)) ([]))) z ?_
  obtain⟨H,t,hr⟩:=hr
  refine F' (v' z z) z (t' E155 z) (eL' t) z (h) ?_
  cases H
  .refine gy z z (al' z) z<|yy (l' z z) z<|mv z z<|sn4 z<|yy (h' z z) z<|nx<|U' z<|sr<|sx0 z z<|j'<|a' (k0' hr z z)
  refine gy z z (al' z) z<|yy (l' z z) z<|mv z z<|gy z z (cj' z) z<|gy z z (aI' ((v128' g.den c d)).toArray 1 bu' z z z (aU' ((v128' g.num f e)) ((v128' g.den c d)) ([]))) z ?_
  obtain⟨O,q,hr⟩:=hr
  refine F' (v' z z) z (t' E156 z) (eQ' q) z (h)<|gy z z (bN' z z) z<|yy (l' z z) z<|nx<|L' hr z (fun E hr=>?_) (fun E hr=>?_)
  .exact (show False from hr).elim
  refine q'<|ar' x ⟨mr,hr⟩ (f1 z) (w1 z)
 rintro k ⟨j,hr⟩
 refine sr<|yy (cj' z) z<|yy (aI' ((v128' g.den c d)).toArray 1 bu' z z z (aU' ((v128' g.num f e)) ((v128' g.den c d)) ([]))) z ?_
 obtain⟨C,u,hr⟩:=hr
 refine F' z z (t' E157 z) (eH' u) z ((h.mono j)) ?_
 cases C
 .refine mv z z<|gy z z (cE' z) z<|gy z z (aI' ((v128' g.num f e)).toArray 1 bu' z z z (aU' ([]) ((v128' g.num f e)) ((v128' g.den c d)))) z<|gy z z (cj' z) z<|gy z z (aI' ((v128' g.den c d)).toArray 1 bu' z z z (aU' ((v128' g.num f e)) ((v128' g.den c d)) ([]))) z ?_
  obtain⟨Q,y,hr⟩:=hr
  refine P' (v' z z) z (t' E158 z) (gr' y) z (⟨(i.mono j),(h.mono j)⟩) (fun J M I l=>?_)
  obtain⟨A,B,rfl,m⟩:=l
  obtain⟨L,p,hr⟩:=hr
  refine F' (v' z z) z (t' E157 z) (eH' p) z (m)<|yy (l' z z) z<|sx0 z z<|j' (k0' hr z z)
 refine mv z z<|sn6 z<|yy (h' z z) z<|sx0 z z<|j' (k0' hr z z)
theorem eM'{h d c e f r}(hr:(Zbr h).Ret r):Ctr prog 107 #[.agg ((v130' h d c e f)).toArray] (fun G=>sl (Rp.int .u32) G d c h.num.mag/\sl (Rp.int .u32) G e f h.den.mag) (fun G v=>v=i' r):=by
 refine E' (args:=[_]) (N:=6) func107 z z z (fun o p m k=>?_)
 obtain⟨g,i⟩:=k
 refine sr<|af' 1 z z z fun n=>sg z z<|nr<|yy (cE' z) z<|yy (aI' ((v128' h.num d c)).toArray 1 bu' z z z (aU' ([]) ((v128' h.num d c)) ((v128' h.den e f)))) z ?_
 obtain⟨l,j,hr⟩:=hr
 refine F' z z (t' E156 z) (eQ' j) z (g)<|sx0 z z<|j' (k0' hr z z)
theorem fS'{k r}(hr:(Zdi k).Ret r):Ctr prog 108 #[.agg (vecG (Value.int .i64) 8 k).toArray] (fun G=>True) (fun G v=>v = .bool r):=by
 refine E' (args:=[_]) (N:=16) func108 z z z fun m i y s=>sr<|af' 1 z z z fun A=>sx0 z z<|n'<|sr<|yy (o' 1 bS' z z (ac' _ _ _)) z<|mv z z<|nx<|am' (fun (f:Mem)=>match f with|e=>[]) (fun (f:Mem)=>match f with|e=>Mem.le i e/\(Zb0).Ret r) (fun (f:Mem)=>match f with|e=>St m i e []) ?_ ?_
 .refine B' ?_
  let h:(Bool⊕Unit)->Prop:=fun t=>((fun q=>match q with | .inl rv1=>Cq.ret rv1 | .inr ()=>Zb0:(Bool⊕Unit)->Cq Bool) t).wp (fun a=>a=r)
  replace hr:(Cq.loop _ _).wp h:=hr
  refine an' (Φ:=h) (fun (⟨c,d⟩:Int×Mem)=>(c:Int)) (fun ⟨c,d⟩=>[(5,.agg (vecG (Value.int .i64) 8 k).toArray),(6,i' c)]) (fun ⟨c,d⟩=>Mem.le i d) (fun ⟨c,d⟩=>St m i d []) ⟨0,i⟩ hr (f2 z z) mr (wk ln) ?_
  .intro x f u hr
   obtain⟨c,d⟩:=f
   have g:=u
   refine sr<|yy (ai' z z) z<|nx<|n'<|L' hr z (fun o hr=>?_) (fun o hr=>?_)
   .refine q'<|g'<|n'<|B'<|sr ?_
    obtain⟨j,hr⟩:=hr
    refine yy (Y0.index aO' sc3 sz3 z z j (bk' _ _ _ j)) z<|sg z z<|nr<|mv z z<|ad' hr z (ai' z z) z (fun n hr=>?_) (fun n hr=>?_)
    .refine mv z z<|sn2 z<|yy (h' z z) z<|nx<|U' z<|sr<|sx0 z z<|j'<|m'<|a'<|a'<|m'<|ag'<|a' (k0' hr z z)
    refine mv z z<|gy z z (e' z) z<|gy z z (bh' z z) z<|yy (l' z z) z<|nx<|L' hr z (fun l hr=>?_) (fun l hr=>?_)
    .exact (show False from hr).elim
    refine q'<|J'<|g'<|A'<|yy (X' z z) z<|mv z z<|u'<|Y' ⟨i64.wrap (c+1),d⟩ hr g (f2 z z) (wk ln)
   refine ao'<|r'<|r'<|O'<|ap' d ⟨g,hr⟩ fn (wk ln)
 rintro e ⟨p,hr⟩
 refine g'<|sr<|sx0 z z<|j' (k0' hr z z)
theorem dO'{q t s r}(hr:(Zbk q).Ret r):Ctr prog 77 #[.slice t q.length s] (fun G=>sl K' G t s q) (fun G v=>v = .bool r):=by
 refine E' (args:=[_]) (N:=43) func77 z z z (fun I C ae J=>?_)
 have y:=J
 refine sr<|sx0 z z<|n'<|sr<|mv z z<|yy (M' ak' y z) z<|mv z z<|nx<|am' (fun (n:Mem)=>match n with|A=>[]) (fun (n:Mem)=>match n with|A=>Mem.le C A/\(Zbx).Ret r) (fun (n:Mem)=>match n with|A=>St I C A []) ?_ ?_
 .refine B' ?_
  let B:(Bool⊕Unit)->Prop:=fun oo=>((fun Z=>match Z with | .inl rv1=>Cq.ret rv1 | .inr ()=>Zbx:(Bool⊕Unit)->Cq Bool) oo).wp (fun a=>a=r)
  replace hr:(Cq.loop _ _).wp B:=hr
  refine an' (Φ:=B) (fun (⟨h,m⟩:Int×Mem)=>(h:Int)) (fun ⟨h,m⟩=>[(0,.slice t q.length s),(5,.slice t q.length s),(6,i' (q.length:Int)),(7,i' h)]) (fun ⟨h,m⟩=>Mem.le C m) (fun ⟨h,m⟩=>St I C m []) ⟨0,C⟩ hr (f4 z z z z) mr (wk ln) ?_
  .intro T n hx hr
   obtain⟨h,m⟩:=n
   have l:=hx
   refine sr<|yy (ai' z z) z<|nx<|n'<|L' hr z (fun V hr=>?_) (fun V hr=>?_)
   .refine q'<|g'<|n'<|B'<|sr<|mv z z ?_
    obtain⟨g,D,hr⟩:=hr
    refine yy (T' ak' cg' (y.mono l) z z D) z ?_
    obtain⟨e,d,f,c,P,k,j⟩:=do' (I' (ae' y D) l)
    refine yy (aA' _ ag133 z z P) z<|V' 4 z z133 z fun O=>sg z z<|s' 4 z cg' z z z z z (fun u W=>Rp.one K' (G:=m) (x:=g) (cs:=((v130' g.c e d f c):List Value)++(vecG (Value.int .i64) 8 g.m)) ⟨(v130' g.c e d f c),vecG (Value.int .i64) 8 g.m,z,⟨(v128' g.c.num e d),(v128' g.c.den f c),z,⟨[.bool g.c.num.neg],[.slice e g.c.num.mag.length d],z,z,⟨_,z,k⟩⟩,⟨[.bool g.c.den.neg],[.slice f g.c.den.mag.length c],z,z,⟨_,z,j⟩⟩⟩,z⟩ u (by first|simpa using W|simpa [Value.cells] using W))<|nx<|aM' (fun (n:Mem)=>match n with|p=>[(0,.slice t q.length s),(3,i' h),(4,pt0 O),(5,.slice t q.length s),(6,i' (q.length:Int)),(7,i' h)]) (fun (n:Mem)=>match n with|p=>Mem.le m p/\(ZaI q h g).wp (Out T B)) (fun (n:Mem)=>match n with|p=>St I C p [(4,bk0 O (((v130' g.c e d f c):List Value)++(vecG (Value.int .i64) 8 g.m)) 133)]) ?_ ?_
    .refine sr<|yy (cQ' z) z<|yy (aI' ((v130' g.c e d f c)).toArray 4 cR' z z z (aU' ([]) ((v130' g.c e d f c)) ((vecG (Value.int .i64) 8 g.m)))) z ?_
     obtain⟨X,L,hr⟩:=hr
     refine F' z z (t' E106 z) (fR' L) z (⟨k,j⟩) ?_
     cases X
     .refine yy (al' z) z<|mv z z<|sn4 z<|yy (h' z z) z<|mv z z<|sn4 z<|yy (h' z z) z<|nx<|U' z<|sr<|sx0 z z<|j'<|a'<|m'<|a'<|a'<|m'<|ag'<|a' (k0' hr z z)
     refine yy (al' z) z<|mv z z<|gy z z (cQ' z) z<|gy z z (aI' ((v130' g.c e d f c)).toArray 4 cR' z z z (aU' ([]) ((v130' g.c e d f c)) ((vecG (Value.int .i64) 8 g.m)))) z ?_
     obtain⟨ad,H,hr⟩:=hr
     refine F' (v' z z) z (t' E107 z) (eM' H) z (⟨k,j⟩)<|ad' hr (v' z z) (au' z z) z (fun S hr=>?_) (fun S hr=>?_)
     .refine yy (l' z z) z<|mv z z<|sn4 z<|yy (h' z z) z<|nx<|U' z<|sr<|sx0 z z<|j'<|a'<|m'<|a'<|a'<|m'<|ag'<|a' (k0' hr z z)
     refine yy (l' z z) z<|mv z z<|gy z z (bB' z) z<|gy z z (aI' (vecG (Value.int .i64) 8 g.m).toArray 4 bS' z z (ac' _ _ _) (aU' ((v130' g.c e d f c)) (vecG (Value.int .i64) 8 g.m) ([]))) z ?_
     obtain⟨af,F,hr⟩:=hr
     refine F' (v' z z) z (t' E108 z) (fS' F) z (trivial)<|gy z z (al' z) z<|yy (l' z z) z<|nx<|aL' hr z (fun R hr=>?_) (fun R hr=>?_)
     .exact (show False from hr).elim
     refine q'<|ar' m ⟨mr,hr⟩ (f6 z z z z z z) (w1 z)
    rintro p ⟨o,hr⟩
    refine n'<|ah' [ff,ff,ff,ff,ff,ff,ff,ff,ff,ff,ff] mix (by kernel_rfl) fun Q=>cn (fun _ i=>e' z)<|bz' hr z (fun _ i=>bh' z z) (fun U hr=>?_) (fun U hr=>?_)
    .refine cn (fun _ i=>e' z)<|cy z z (fun _ i=>e' z)<|cy z z (fun _ i=>e' z)<|cy z z (fun _ i=>bj' z z) ?_
     obtain⟨x2,E,hr⟩:=hr
     refine cy z z (fun _ i=>T' ak' cg' ((y.mono (mt l o)).mono i) z z E)<|cy z z (fun _ i=>bB' z)<|cy z z (fun _ i=>aA' _ bS' z (ac' _ _ _) (dv' (I' (I' (ax' (ay' (ae' y E))) (mt l o)) i)))<|cy z z (fun _ i=>bB' z)<|cy z z (fun _ i=>aI' (vecG (Value.int .i64) 8 g.m).toArray 4 bS' z z (ac' _ _ _) (aU' ((v130' g.c e d f c)) (vecG (Value.int .i64) 8 g.m) ([])))<|R' Q ?_
     obtain⟨ac,K,hr⟩:=hr
     refine F' (v' z z) z (t' E109 z) (eP' K) z (trivial)<|gy z z (bN' z z) z<|yy (h' z z) z<|u'<|aq'<|g'<|L' hr z (fun M hr=>?_) (fun M hr=>?_)
     .exact (show False from hr).elim
     refine q'<|J'<|g'<|A'<|yy (X' z z) z<|mv z z<|u'<|Y' ⟨i64.wrap (h+1),p⟩ hr (mt l o) (f4 z z z z) (wk ln)
    refine cn (fun _ i=>e' z)<|ct z z<|ct z z<|ct z z<|ct z z<|ct z z<|ct z z<|ct z z<|ct z z<|R' Q<|sn2 z<|yy (l' z z) z<|u'<|aq'<|g'<|bb' z<|q'<|J'<|g'<|A'<|yy (X' z z) z<|mv z z<|u'<|Y' ⟨i64.wrap (h+1),p⟩ hr (mt l o) (f4 z z z z) (wk ln)
   refine ao'<|r'<|r'<|O'<|ap' m ⟨l,hr⟩ fn (wk ln)
 rintro A ⟨Y,hr⟩
 refine g'<|sr<|sx0 z z<|j' (k0' hr z z)
theorem fo'{l r}(hr:(Zch l).Ret r):Ctr prog 110 #[.agg (vecG (Value.int .i64) 8 l).toArray] (fun G=>True) (fun G v=>v = .int .u8 r):=by
 refine E' (args:=[_]) (N:=19) func110 z z z fun n j B u=>sr<|af' 1 z z z fun C=>sg z z<|nr<|sx0 z z<|n'<|sr<|yy (o' 1 bS' z z (ac' _ _ _)) z<|mv z z<|nx<|am' (fun (⟨h,g⟩:Int×Mem)=>[(3,.int .u8 h)]) (fun ⟨h,g⟩=>Mem.le j g/\(Zbw h).Ret r) (fun ⟨h,g⟩=>St n j g []) ?_ ?_
 .refine B' ?_
  let i:Int->Prop:=fun x=>((fun t=>match t with|h=>Zbw h:Int->Cq Int) x).wp (fun a=>a=r)
  replace hr:(Cq.loop _ _).wp i:=hr
  refine an' (Φ:=i) (fun (⟨e,c,d⟩:Int×Int×Mem)=>((e,c):Int×Int)) (fun ⟨e,c,d⟩=>[(3,.int .u8 e),(6,.agg (vecG (Value.int .i64) 8 l).toArray),(7,i' c)]) (fun ⟨e,c,d⟩=>Mem.le j d) (fun ⟨e,c,d⟩=>St n j d []) ⟨0,0,j⟩ hr (f3 z z z) mr (wk ln) ?_
  .intro A s y hr
   obtain⟨e,c,d⟩:=s
   have f:=y
   refine sr<|yy (ai' z z) z<|nx<|n'<|L' hr z (fun o hr=>?_) (fun o hr=>?_)
   .refine q'<|g'<|n'<|B'<|sr<|mv z z ?_
    obtain⟨k,hr⟩:=hr
    refine yy (Y0.index aO' sc3 sz3 z z k (bk' _ _ _ k)) z<|sg z z<|sg z z<|nr<|mv z z<|yy (bh' z z) z<|nx<|L' hr z (fun m hr=>?_) (fun m hr=>?_)
    .refine A'<|mv z z<|mv z z ?_
     obtain⟨p,hr⟩:=hr
     refine yy (Y0.shl z z p) z<|yy (Y0.or z z) z<|sg z z<|u'<|J'<|g'<|A'<|yy (X' z z) z<|mv z z<|u'<|Y' ⟨u8.wrap (BitVec.ofInt u8.bits e ||| BitVec.ofInt u8.bits (u8.wrap (1*2 ^ (min (c).toNat u8.bits)))).toNat,i64.wrap (c+1),d⟩ hr f (f3 z z z) (wk ln)
    refine q'<|J'<|g'<|A'<|yy (X' z z) z<|mv z z<|u'<|Y' ⟨e,i64.wrap (c+1),d⟩ hr f (f3 z z z) (wk ln)
   refine ao'<|r'<|r'<|O'<|ap' ⟨e,d⟩ ⟨f,hr⟩ (f1 z) (wk ln)
 rintro⟨h,g⟩ ⟨q,hr⟩
 refine g'<|sr<|mv z z<|sx0 z z<|j' (k0' hr z z)
theorem cZ'{s A t r}(hr:(ZaT s).Ret r):Ctr prog 78 #[.slice A s.length t] (fun G=>sl K' G A t s) (fun G v=>v = .int .u8 r):=by
 refine E' (args:=[_]) (N:=19) func78 z z z (fun H y R C=>?_)
 have p:=C
 refine sr<|sg z z<|nr<|sx0 z z<|n'<|sr<|mv z z<|yy (M' ak' p z) z<|mv z z<|nx<|am' (fun (⟨o,n⟩:Int×Mem)=>[(3,.int .u8 o)]) (fun ⟨o,n⟩=>Mem.le y n/\(ZbK o).Ret r) (fun ⟨o,n⟩=>St H y n []) ?_ ?_
 .refine B' ?_
  let q:Int->Prop:=fun O=>((fun M=>match M with|o=>ZbK o:Int->Cq Int) O).wp (fun a=>a=r)
  replace hr:(Cq.loop _ _).wp q:=hr
  refine an' (Φ:=q) (fun (⟨m,g,h⟩:Int×Int×Mem)=>((m,g):Int×Int)) (fun ⟨m,g,h⟩=>[(3,.int .u8 m),(6,.slice A s.length t),(7,i' (s.length:Int)),(8,i' g)]) (fun ⟨m,g,h⟩=>Mem.le y h) (fun ⟨m,g,h⟩=>St H y h []) ⟨0,0,y⟩ hr (f4 z z z z) mr (wk ln) ?_
  .intro Q L P hr
   obtain⟨m,g,h⟩:=L
   have j:=P
   refine sr<|yy (ai' z z) z<|nx<|n'<|L' hr z (fun I hr=>?_) (fun I hr=>?_)
   .refine q'<|g'<|n'<|B'<|sr ?_
    obtain⟨i,B,hr⟩:=hr
    refine yy (T' ak' cg' (p.mono j) z z B) z ?_
    obtain⟨e,d,f,c,F,l,k⟩:=do' (I' (ae' p B) j)
    refine yy (aA' _ ag133 z z F) z<|V' 5 z z133 z fun S=>s' 5 z cg' z z z z z (fun u J=>Rp.one K' (G:=h) (x:=i) (cs:=((v130' i.c e d f c):List Value)++(vecG (Value.int .i64) 8 i.m)) ⟨(v130' i.c e d f c),vecG (Value.int .i64) 8 i.m,z,⟨(v128' i.c.num e d),(v128' i.c.den f c),z,⟨[.bool i.c.num.neg],[.slice e i.c.num.mag.length d],z,z,⟨_,z,l⟩⟩,⟨[.bool i.c.den.neg],[.slice f i.c.den.mag.length c],z,z,⟨_,z,k⟩⟩⟩,z⟩ u (by first|simpa using J|simpa [Value.cells] using J))<|nx<|A'<|mv z z<|yy (bB' z) z<|yy (aI' (vecG (Value.int .i64) 8 i.m).toArray 5 bS' z z (ac' _ _ _) (aU' ((v130' i.c e d f c)) (vecG (Value.int .i64) 8 i.m) ([]))) z ?_
    obtain⟨E,D,hr⟩:=hr
    refine F' z z (t' E110 z) (fo' D) z (trivial)<|yy (Y0.or z z) z<|sg z z<|u'<|J'<|g'<|A'<|yy (X' z z) z<|mv z z<|u'<|Y' ⟨u8.wrap (BitVec.ofInt u8.bits m ||| BitVec.ofInt u8.bits E).toNat,i64.wrap (g+1),h⟩ hr j (f4 z z z z) (wk ln)
   refine ao'<|r'<|r'<|O'<|ap' ⟨m,h⟩ ⟨j,hr⟩ (f1 z) (wk ln)
 rintro⟨o,n⟩ ⟨K,hr⟩
 refine g'<|sr<|mv z z<|sx0 z z<|j' (k0' hr z z)
theorem fz'{k r}(hr:(ZcT k).Ret r):Ctr prog 111 #[.agg (vecG (Value.int .i64) 8 k).toArray] (fun G=>True) (fun G v=>v=i' r):=by
 refine E' (args:=[_]) (N:=15) func111 z z z fun m j y s=>sr<|af' 1 z z z fun A=>sg z z<|nr<|sx0 z z<|n'<|sr<|yy (o' 1 bS' z z (ac' _ _ _)) z<|mv z z<|nx<|am' (fun (⟨g,e⟩:Int×Mem)=>[(3,i' g)]) (fun ⟨g,e⟩=>Mem.le j e/\(ZbI g).Ret r) (fun ⟨g,e⟩=>St m j e []) ?_ ?_
 .refine B' ?_
  let i:Int->Prop:=fun t=>((fun q=>match q with|g=>ZbI g:Int->Cq Int) t).wp (fun a=>a=r)
  replace hr:(Cq.loop _ _).wp i:=hr
  refine an' (Φ:=i) (fun (⟨f,c,d⟩:Int×Int×Mem)=>((f,c):Int×Int)) (fun ⟨f,c,d⟩=>[(3,i' f),(6,.agg (vecG (Value.int .i64) 8 k).toArray),(7,i' c)]) (fun ⟨f,c,d⟩=>Mem.le j d) (fun ⟨f,c,d⟩=>St m j d []) ⟨0,0,j⟩ hr (f3 z z z) mr (wk ln) ?_
  .intro x p u hr
   obtain⟨f,c,d⟩:=p
   have h:=u
   refine sr<|yy (ai' z z) z<|nx<|n'<|L' hr z (fun n hr=>?_) (fun n hr=>?_)
   .refine q'<|g'<|n'<|B'<|sr ?_
    obtain⟨l,hr⟩:=hr
    refine yy (Y0.index aO' sc3 sz3 z z l (bk' _ _ _ l)) z<|sx0 z z<|A'<|mv z z<|mv z z<|yy (X' z z) z<|sg z z<|u'<|J'<|g'<|A'<|yy (X' z z) z<|mv z z<|u'<|Y' ⟨i64.wrap (f+(getF k c)),i64.wrap (c+1),d⟩ hr h (f3 z z z) (wk ln)
   refine ao'<|r'<|r'<|O'<|ap' ⟨f,d⟩ ⟨h,hr⟩ (f1 z) (wk ln)
 rintro⟨g,e⟩ ⟨o,hr⟩
 refine g'<|sr<|mv z z<|sx0 z z<|j' (k0' hr z z)
theorem dL'{s A t r}(hr:(Za1 s).Ret r):Ctr prog 79 #[.slice A s.length t] (fun G=>sl K' G A t s) (fun G v=>v=i' r):=by
 refine E' (args:=[_]) (N:=19) func79 z z z (fun H y R D=>?_)
 have p:=D
 refine sr<|sg z z<|nr<|sx0 z z<|n'<|sr<|mv z z<|yy (M' ak' p z) z<|mv z z<|nx<|am' (fun (⟨o,n⟩:Int×Mem)=>[(3,i' o)]) (fun ⟨o,n⟩=>Mem.le y n/\(Zbj o).Ret r) (fun ⟨o,n⟩=>St H y n []) ?_ ?_
 .refine B' ?_
  let q:Int->Prop:=fun O=>((fun M=>match M with|o=>Zbj o:Int->Cq Int) O).wp (fun a=>a=r)
  replace hr:(Cq.loop _ _).wp q:=hr
  refine an' (Φ:=q) (fun (⟨m,g,h⟩:Int×Int×Mem)=>((m,g):Int×Int)) (fun ⟨m,g,h⟩=>[(3,i' m),(6,.slice A s.length t),(7,i' (s.length:Int)),(8,i' g)]) (fun ⟨m,g,h⟩=>Mem.le y h) (fun ⟨m,g,h⟩=>St H y h []) ⟨(-1),0,y⟩ hr (f4 z z z z) mr (wk ln) ?_
  .intro Q L P hr
   obtain⟨m,g,h⟩:=L
   have j:=P
   refine sr<|yy (ai' z z) z<|nx<|n'<|L' hr z (fun I hr=>?_) (fun I hr=>?_)
   .refine q'<|g'<|n'<|B'<|sr ?_
    obtain⟨i,C,hr⟩:=hr
    refine yy (T' ak' cg' (p.mono j) z z C) z ?_
    obtain⟨e,d,f,c,F,l,k⟩:=do' (I' (ae' p C) j)
    refine yy (aA' _ ag133 z z F) z<|V' 5 z z133 z fun S=>s' 5 z cg' z z z z z (fun u J=>Rp.one K' (G:=h) (x:=i) (cs:=((v130' i.c e d f c):List Value)++(vecG (Value.int .i64) 8 i.m)) ⟨(v130' i.c e d f c),vecG (Value.int .i64) 8 i.m,z,⟨(v128' i.c.num e d),(v128' i.c.den f c),z,⟨[.bool i.c.num.neg],[.slice e i.c.num.mag.length d],z,z,⟨_,z,l⟩⟩,⟨[.bool i.c.den.neg],[.slice f i.c.den.mag.length c],z,z,⟨_,z,k⟩⟩⟩,z⟩ u (by first|simpa using J|simpa [Value.cells] using J))<|nx<|A'<|mv z z<|yy (bB' z) z<|yy (aI' (vecG (Value.int .i64) 8 i.m).toArray 5 bS' z z (ac' _ _ _) (aU' ((v130' i.c e d f c)) (vecG (Value.int .i64) 8 i.m) ([]))) z ?_
    obtain⟨B,E,hr⟩:=hr
    refine F' z z (t' E111 z) (fz' E) z (trivial)<|yy (en' z z) z<|sg z z<|u'<|J'<|g'<|A'<|yy (X' z z) z<|mv z z<|u'<|Y' ⟨if m<B then B else m,i64.wrap (g+1),h⟩ hr j (f4 z z z z) (wk ln)
   refine ao'<|r'<|r'<|O'<|ap' ⟨m,h⟩ ⟨j,hr⟩ (f1 z) (wk ln)
 rintro⟨o,n⟩ ⟨K,hr⟩
 refine g'<|sr<|mv z z<|sx0 z z<|j' (k0' hr z z)
theorem gs'{g l e d r}(hr:(ZfL g l).Ret r):Ctr prog 60 #[.slice e g.length d,i' l] (fun G=>sl K' G e d g) (fun G v=>v = .bool r):=by
 refine E' (args:=[_,_]) (N:=20) func60 z z z (fun s t q h=>?_)
 have c:=h
 refine sr<|sg z z<|nr<|mv z z ?_
 obtain⟨k,i,hr⟩:=hr
 refine F' z z (t' E77 z) (dO' i) z (c) ?_
 cases k
 .refine mv z z<|sn6 z<|yy (l' z z) z<|mv z z<|sn3 z<|yy (l' z z) z<|sx0 z z<|j' (k0' hr z z)
 refine mv z z<|gy z z (e' z) z ?_
 obtain⟨o,j,hr⟩:=hr
 refine F' (v' z z) z (t' E78 z) (cZ' j) z (c)<|gy z z (aN' aQ' aB' z) z<|gy z z (e' z) z ?_
 obtain⟨n,hr⟩:=hr
 refine gy z z (Y0.shr z z n) z<|ad' hr (v' z z) (au' z z) z (fun m hr=>?_) (fun m hr=>?_)
 .refine yy (h' z z) z<|mv z z<|gy z z (e' z) z ?_
  obtain⟨p,f,hr⟩:=hr
  refine F' (v' z z) z (t' E79 z) (dL' f) z (c)<|gy z z (bN' z z) z<|yy (h' z z) z<|sx0 z z<|j' (k0' hr z z)
 refine yy (h' z z) z<|mv z z<|sn3 z<|yy (l' z z) z<|sx0 z z<|j' (k0' hr z z)
theorem fW'{e r}(hr:(Zb9 e).Ret r):Ctr prog 76 #[.int .i32 e] (fun G=>True) (fun G v=>v = .bool r):=by
 refine E' (args:=[_]) (N:=13) func76 z z z fun h i g f=>sr<|sg z z<|nr<|mv z z<|ad' hr z (bN' z z) z (fun c hr=>?_) (fun c hr=>?_)
 .refine mv z z<|gy z z (e' z) z<|ad' hr (v' z z) (bN' z z) z (fun d hr=>?_) (fun d hr=>?_)
  .refine yy (h' z z) z<|mv z z<|sn2 z<|yy (h' z z) z<|sx0 z z<|j' (k0' hr z z)
  refine yy (h' z z) z<|mv z z<|gy z z (e' z) z<|gy z z (au' z z) z<|yy (l' z z) z<|sx0 z z<|j' (k0' hr z z)
 refine mv z z<|sn2 z<|yy (l' z z) z<|mv z z<|gy z z (e' z) z<|gy z z (au' z z) z<|yy (l' z z) z<|sx0 z z<|j' (k0' hr z z)
theorem fX'{g r}(hr:(Zb8 g).Ret r):Ctr prog 59 #[.string g] (fun G=>True) (fun G v=>v = .bool r):=by
 refine E' (args:=[_]) (N:=45) func59 z z z fun q o P K=>sr<|sx0 z z<|aM' (fun (f:Mem)=>match f with|h=>[(0,.string g)]) (fun (f:Mem)=>match f with|h=>Mem.le o h/\(ZeP g).Ret r) (fun (f:Mem)=>match f with|h=>St q o h []) ?_ ?_
 .refine sr<|mv z z<|yy (Y0.lenS bl' z) z<|ad' hr z (ai' z z) z (fun u hr=>?_) (fun u hr=>?_)
  .refine mv z z<|sn3 z<|yy (h' z z) z<|nx<|U' z<|sr<|sx0 z z<|j'<|a' (k0' hr z z)
  refine mv z z<|gy z z (e' z) z<|gy z z (Y0.lenS bl' z) z<|gy z z (bh' z z) z<|yy (l' z z) z<|nx<|L' hr z (fun t hr=>?_) (fun t hr=>?_)
  .refine sr<|sx0 z z<|j'<|a' (k0' hr z z)
  refine q'<|ar' o ⟨mr,hr⟩ (f1 z) (wk ln)
 rintro h ⟨H,hr⟩
 refine n'<|sr<|mv z z<|WL.rangeS 4015 z z bl' z fun n=>nx<|am' (fun (f:Mem)=>match f with|k=>[]) (fun (f:Mem)=>match f with|k=>Mem.le h k/\(ZaH).Ret r) (fun (f:Mem)=>match f with|k=>St q o k []) ?_ ?_
 .refine B' ?_
  let l:(Bool⊕Unit)->Prop:=fun L=>((fun J=>match J with | .inl rv1=>Cq.ret rv1 | .inr ()=>ZaH:(Bool⊕Unit)->Cq Bool) L).wp (fun a=>a=r)
  replace hr:(Cq.loop _ _).wp l:=hr
  refine an' (Φ:=l) (fun (⟨c,e⟩:Nat×Mem)=>(c:Nat)) (fun ⟨c,e⟩=>[(15,pt0 n)]) (fun ⟨c,e⟩=>Mem.le h e) (fun ⟨c,e⟩=>St q o e [(4015,(some ⟨n,.stringIter g c,0⟩))]) ⟨0,h⟩ hr (f1 z) mr (w1 z) ?_
  .intro C f M hr
   obtain⟨c,e⟩:=f
   have j:=M
   refine sr<|WL.nextS 4015 z z z z (fun p=>?_) (fun p=>?_)
   .replace hr:=hr.pos p
    refine yy (y' z z) z<|nx<|n'<|U' z<|q'<|g'<|B'<|sr<|yy (y' z z) z<|yy (y' z z) z<|sg z z<|sx0 z z<|aM' (fun (⟨d,i⟩:Bool×Mem)=>[(3,i' (c:Int)),(4,.int .i32 ((Utf8.decode g c).1:Int)),(5,.bool d),(15,pt0 n)]) (fun ⟨d,i⟩=>Mem.le e i/\(ZP g c d).wp (Out C l)) (fun ⟨d,i⟩=>St q o i [(4015,(some ⟨n,.stringIter g (c+(Utf8.decode g c).2),0⟩))]) ?_ ?_
    .refine A'<|mv z z<|ad' hr z (bN' z z) z (fun A hr=>?_) (fun A hr=>?_)
     .refine mv z z<|gy z z (e' z) z<|ad' hr (v' z z) (bN' z z) z (fun F hr=>?_) (fun F hr=>?_)
      .refine yy (h' z z) z<|mv z z<|sn3 z<|N' (x' z z) z<|N' (x' z z) z<|sf z z z<|yy (h' z z) z<|sg z z<|u'<|ar' ⟨true,e⟩ ⟨mr,hr⟩ (f4 z z z z) (w1 z)
      refine yy (h' z z) z<|mv z z<|gy z z (e' z) z<|ad' hr (v' z z) (bN' z z) z (fun x hr=>?_) (fun x hr=>?_)
      .refine gy z z (e' z) z<|gy z z (e' z) z<|gy z z (bN' z z) z<|gy z z (h' z z) z<|yy (l' z z) z<|sg z z<|u'<|ar' ⟨decide (((Utf8.decode g c).1:Int)<=122),e⟩ ⟨mr,hr⟩ (f4 z z z z) (w1 z)
      refine gy z z (e' z) z<|sn2 z<|gy z z (l' z z) z<|yy (l' z z) z<|sg z z<|u'<|ar' ⟨false,e⟩ ⟨mr,hr⟩ (f4 z z z z) (w1 z)
     refine mv z z<|sn2 z<|yy (l' z z) z<|mv z z<|gy z z (e' z) z<|ad' hr (v' z z) (bN' z z) z (fun B hr=>?_) (fun B hr=>?_)
     .refine gy z z (e' z) z<|gy z z (e' z) z<|gy z z (bN' z z) z<|gy z z (h' z z) z<|yy (l' z z) z<|sg z z<|u'<|ar' ⟨decide (((Utf8.decode g c).1:Int)<=122),e⟩ ⟨mr,hr⟩ (f4 z z z z) (w1 z)
     refine gy z z (e' z) z<|sn2 z<|gy z z (l' z z) z<|yy (l' z z) z<|sg z z<|u'<|ar' ⟨false,e⟩ ⟨mr,hr⟩ (f4 z z z z) (w1 z)
    rintro⟨d,i⟩ ⟨m,hr⟩
    refine sr<|ad' hr z (dc' (e' z) (congrArg Value.bool (bdec _))) z (fun D hr=>?_) (fun D hr=>?_)
    .refine yy (al' z) z<|mv z z<|sn3 z<|N' (x' z z) z<|N' (x' z z) z<|N' (x' z z) z<|sk z z z<|yy (l' z z) z<|nx<|bb' z<|q'<|J'<|Y' ⟨(c+(Utf8.decode g c).2),i⟩ hr (mt j m) (f1 z) (w1 z)
    refine yy (al' z) z<|mv z z<|gy z z (e' z) z<|ad' hr (v' z z) (au' z z) z (fun y hr=>?_) (fun y hr=>?_)
    .refine gy z z (e' z) z<|sn3 z<|gy z z (h' z z) z<|yy (h' z z) z<|nx<|U' z<|sr<|sx0 z z<|j'<|m'<|a'<|m'<|ag'<|a' (k0' hr z z)
    refine gy z z (e' z) z<|gy z z (e' z) z ?_
    obtain⟨O,s,hr⟩:=hr
    refine F' (v' z z) z (t' E76 z) (fW' s) z (trivial)<|gy z z (al' z) z<|gy z z (l' z z) z<|yy (h' z z) z<|nx<|aL' hr z (fun E hr=>?_) (fun E hr=>?_)
    .refine sr<|sx0 z z<|j'<|m'<|a'<|m'<|ag'<|a' (k0' hr z z)
    refine q'<|J'<|Y' ⟨(c+(Utf8.decode g c).2),i⟩ hr (mt j m) (f1 z) (w1 z)
   replace hr:=hr.neg p
   refine yy (y' z z) z<|nx<|n'<|bb' z<|ao'<|r'<|r'<|O'<|ap' e ⟨j,hr⟩ fn (wk ln)
 rintro k ⟨I,hr⟩
 refine g'<|sr<|sx0 z z<|j' (k0' hr z z)
theorem eo'{c m l j i g f r}(hr:(Za8 c).Ret r):Ctr prog 44 #[.agg ((v31' c m l j i g f)).toArray] (fun G=>y31' G m l j i g f c) (fun G v=>v = .bool r):=by
 refine E' (args:=[_]) (N:=108) func44 z z z (fun Z T a7 aE=>?_)
 obtain⟨p,ad,Y⟩:=aE
 refine sr<|af' 1 z z z fun H=>sx0 z z<|aM' (fun (o:Mem)=>match o with|J=>[(1,pt0 H)]) (fun (o:Mem)=>match o with|J=>Mem.le T J/\(Zfc c).Ret r) (fun (o:Mem)=>match o with|J=>St Z T J [(1,bk0 H (v31' c m l j i g f) 31)]) ?_ ?_
 .refine sr<|yy (aH' z) z<|yy (f' 1 bC' z z z) z<|yy (M' H' p z) z<|ad' hr z (bh' z z) z (fun aS hr=>?_) (fun aS hr=>?_)
  .refine mv z z<|sn3 z<|yy (h' z z) z<|mv z z<|sn3 z<|yy (h' z z) z<|nx<|U' z<|sr<|sx0 z z<|j'<|a' (k0' hr z z)
  refine mv z z<|gy z z (bw' z) z<|gy z z (f' 1 sc3 z z z) z<|ad' hr (v' z z) (ai' z z) z (fun bc hr=>?_) (fun bc hr=>?_)
  .refine yy (l' z z) z<|mv z z<|sn3 z<|yy (h' z z) z<|nx<|U' z<|sr<|sx0 z z<|j'<|a' (k0' hr z z)
  refine yy (l' z z) z<|mv z z<|gy z z (bw' z) z<|gy z z (f' 1 sc3 z z z) z<|gy z z (bh' z z) z<|yy (l' z z) z<|nx<|L' hr z (fun bd hr=>?_) (fun bd hr=>?_)
  .refine sr<|sx0 z z<|j'<|a' (k0' hr z z)
  refine q'<|ar' T ⟨mr,hr⟩ (f1 z) (w1 z)
 rintro J ⟨D,hr⟩
 refine sr<|WL.makeMap (ky:=ky9) (Rv:=RvS Rp.bool J) 4025 z z fun aC aw aH=>sx0 z z<|n'<|sr<|yy (aH' z) z<|yy (f' 1 bC' z z z) z<|yy (M' H' (p.mono D) z) z<|mv z z<|nx<|am' (fun (o:Mem)=>match o with|U=>[(1,pt0 H)]) (fun (o:Mem)=>match o with|U=>Mem.le J U/\(ZbA c).Ret r) (fun (o:Mem)=>match o with|U=>St Z T U [(1,bk0 H (v31' c m l j i g f) 31)]) ?_ ?_
 .refine B' ?_
  let ap:(Bool⊕Unit)->Prop:=fun oo=>((fun ov=>match ov with | .inl rv3=>Cq.ret rv3 | .inr ()=>ZbA c:(Bool⊕Unit)->Cq Bool) oo).wp (fun a=>a=r)
  replace hr:(Cq.loop _ _).wp ap:=hr
  refine an' (Φ:=ap) (fun (⟨u,R,B,E⟩:Int×(List (ByteArray×Bool))×Option Ow×Mem)=>((u,R):Int×(List (ByteArray×Bool)))) (fun ⟨u,R,B,E⟩=>[(1,pt0 H),(27,.slice m c.vars.length l),(28,i' (c.vars.length:Int)),(29,i' u),(3,.map (some aC))]) (fun ⟨u,R,B,E⟩=>Mem.le J E/\MapR ky9 (RvS Rp.bool E) (.map (some aC)) R B) (fun ⟨u,R,B,E⟩=>St Z T E [(1,bk0 H (v31' c m l j i g f) 31),(4025,B)]) ⟨0,[],aw,J⟩ hr (f5 z z z z z) ⟨mr,aH⟩ (w2 z z) ?_
  .intro bj o hx hr
   obtain⟨u,R,B,E⟩:=o
   obtain⟨L,ak⟩:=hx
   refine sr<|yy (ai' z z) z<|nx<|n'<|L' hr z (fun a9 hr=>?_) (fun a9 hr=>?_)
   .refine q'<|g'<|n'<|B'<|sr ?_
    obtain⟨x4,ax,hr⟩:=hr
    refine yy (T' H' sz9 (p.mono (mt D L)) z z ax) z<|yy (Z' sc9 z (cb' (I' (ae' p ax) (mt D L)))) z<|sx0 z z<|n'<|sr<|mv z z ?_
    obtain⟨a2,aO,hr⟩:=hr
    refine F' z z (t' E59 z) (fX' aO) z (trivial) ?_
    cases a2
    .refine yy (al' z) z<|mv z z<|sn3 z<|yy (h' z z) z<|nx<|U' z<|sr<|sx0 z z<|j'<|a'<|m'<|a'<|a'<|m'<|ag'<|a' (k0' hr z z)
    refine yy (al' z) z<|mv z z<|gy z z (e' z) z<|gy z z (e' z) z ?_
    obtain⟨a0,hr⟩:=hr
    refine gy z z (Y0.mapGet1 (mk:=Value.bool) (k:=x4) 4025 false (fun h=>Zlk h) underlying115 zv4 ak z z z a0) z<|yy (l' z z) z<|nx<|aL' hr z (fun aX hr=>?_) (fun aX hr=>?_)
    .refine sr<|sx0 z z<|j'<|a'<|m'<|a'<|a'<|m'<|ag'<|a' (k0' hr z z)
    refine q'<|g'<|A'<|mv z z<|mv z z ?_
    obtain⟨⟨bg,aM⟩,hr⟩:=hr
    refine WL.mapPut (Rv':=RvS Rp.bool E) (k:=x4) (z:=true) 4025 z underlying115 ak z z z z bg z (fun _ _ _ _ h=>h) aM fun aW aF=>u'<|J'<|g'<|A'<|yy (X' z z) z<|mv z z<|u'<|Y' ⟨i64.wrap (u+1),(mput R x4 true),aW,E⟩ hr ⟨L,aF⟩ (f5 z z z z z) (w2 z z)
   refine ao'<|r'<|r'<|O'<|ap' E ⟨L,hr⟩ (f1 z) (w1 z)
 rintro U ⟨X,hr⟩
 refine g'<|sr<|WL.makeMap (ky:=ky3) (Rv:=RvS Rp.bool U) 4044 z z fun S aq aI=>sx0 z z<|n'<|sr<|yy (aY' z) z<|yy (f' 1 br' z z z) z<|yy (ba' z) z<|yy (f' 1 br' z z z) z<|bd' (e:=29) (r:=(Rp.sl b')) (vs:=#[(0,.slice j c.eqs.length i),(1,.slice g c.neqs.length f)]) (cs:=[.slice j c.eqs.length i]++([.slice g c.neqs.length f]++([]))) ([c.eqs,c.neqs]:List (List Zb)) z z z z z (by decide) (fun _=>by kernel_rfl) ⟨[.slice j c.eqs.length i],[.slice g c.neqs.length f]++([]),z,⟨_,z,(ad.mono (mt D X))⟩,⟨[.slice g c.neqs.length f],[],z,⟨_,z,(Y.mono (mt D X))⟩,z⟩⟩ (key:=999) z (by rw[a7]; rfl) fun p1 an ae ai=>yy (M' cl' ai z) z<|mv z z<|nx<|am' (fun (o:Mem)=>match o with|aa=>[]) (fun (o:Mem)=>match o with|aa=>Mem.le an aa/\(ZcX).Ret r) (fun (o:Mem)=>match o with|aa=>St Z T aa []) ?_ ?_
 .refine B' ?_
  let W:(Bool⊕Unit)->Prop:=fun oo=>((fun ov=>match ov with | .inl rv1=>Cq.ret rv1 | .inr ()=>ZcX:(Bool⊕Unit)->Cq Bool) oo).wp (fun a=>a=r)
  replace hr:(Cq.loop _ _).wp W:=hr
  refine an' (Φ:=W) (fun (⟨n,P,t,A⟩:Int×(List (Int×Bool))×Option Ow×Mem)=>((n,P):Int×(List (Int×Bool)))) (fun ⟨n,P,t,A⟩=>[(1,pt0 H),(49,.slice p1 2 2),(50,i' ([c.eqs,c.neqs].length:Int)),(51,i' n),(6,.map (some S))]) (fun ⟨n,P,t,A⟩=>Mem.le an A/\MapR ky3 (RvS Rp.bool A) (.map (some S)) P t) (fun ⟨n,P,t,A⟩=>St Z T A [(1,bk0 H (v31' c m l j i g f) 31),(4044,t)]) ⟨0,[],aq,an⟩ hr (f5 z z z z z) ⟨mr,(MapR.mono aI ae)⟩ (w2 z z) ?_
  .intro aA o hx hr
   obtain⟨n,P,t,A⟩:=o
   obtain⟨F,aP⟩:=hx
   refine sr<|yy (ai' z z) z<|nx<|n'<|L' hr z (fun a8 hr=>?_) (fun a8 hr=>?_)
   .refine q'<|g'<|n'<|B'<|sr ?_
    obtain⟨x1,aB,hr⟩:=hr
    refine yy (T' cl' sz29 (ai.mono F) z z aB) z ?_
    obtain⟨p2,af,bh,V⟩:=bF' (I' (ae' ai aB) F)
    refine yy (Z' br' z (bh)) z<|sx0 z z<|n'<|sr<|mv z z<|yy (M' w' V z) z<|yy (bh' z z) z<|nx<|L' hr z (fun a3 hr=>?_) (fun a3 hr=>?_)
    .exact (show False from hr).elim
    refine q'<|g'<|sr<|mv z z<|yy (M' w' V z) z<|mv z z<|nx<|am' (fun (⟨K,C,O⟩:(List (Int×Bool))×Option Ow×Mem)=>[(1,pt0 H),(49,.slice p1 2 2),(50,i' ([c.eqs,c.neqs].length:Int)),(51,i' n),(6,.map (some S))]) (fun ⟨K,C,O⟩=>Mem.le A O/\MapR ky3 (RvS Rp.bool O) (.map (some S)) K C/\(ZcY n K).wp (Out aA W)) (fun ⟨K,C,O⟩=>St Z T O [(1,bk0 H (v31' c m l j i g f) 31),(4044,C)]) ?_ ?_
    .refine B' ?_
     let ab:(Bool⊕((List (Int×Bool))))->Prop:=fun oo=>((fun ov=>match ov with | .inl rv2=>Cq.ret (.inr (.inl rv2)) | .inr K=>ZcY n K:(Bool⊕((List (Int×Bool))))->Cq ((Int×(List (Int×Bool)))⊕(Bool⊕Unit))) oo).wp (Out aA W)
     replace hr:(Cq.loop _ _).wp ab:=hr
     refine an' (Φ:=ab) (fun (⟨q,I,s,y⟩:Int×(List (Int×Bool))×Option Ow×Mem)=>((q,I):Int×(List (Int×Bool)))) (fun ⟨q,I,s,y⟩=>[(1,pt0 H),(8,.slice p2 x1.length af),(49,.slice p1 2 2),(50,i' ([c.eqs,c.neqs].length:Int)),(51,i' n),(58,.slice p2 x1.length af),(59,i' (x1.length:Int)),(60,i' q),(6,.map (some S))]) (fun ⟨q,I,s,y⟩=>Mem.le A y/\MapR ky3 (RvS Rp.bool y) (.map (some S)) I s) (fun ⟨q,I,s,y⟩=>St Z T y [(1,bk0 H (v31' c m l j i g f) 31),(4044,s)]) ⟨0,P,t,A⟩ hr (f9 z z z z z z z z z) ⟨mr,aP⟩ (w2 z z) ?_
     .intro bf o hx hr
      obtain⟨q,I,s,y⟩:=o
      obtain⟨x,ac⟩:=hx
      refine sr<|yy (ai' z z) z<|nx<|n'<|L' hr z (fun aU hr=>?_) (fun aU hr=>?_)
      .refine q'<|g'<|n'<|B'<|sr<|mv z z ?_
       obtain⟨x2,az,hr⟩:=hr
       refine yy (T' w' aT' (V.mono x) z z az) z ?_
       obtain⟨aD,aL,aY,aN⟩:=bq' (I' (ae' V az) x)
       refine yy (aA' _ bM' z z aY) z<|V' 10 z z110 z fun b2=>sg z z<|s' 10 z aT' z z z z z (List.all_eq_true.1 z)<|nx<|aM' (fun (o:Mem)=>match o with|Q=>[(1,pt0 H),(8,.slice p2 x1.length af),(10,pt0 b2),(49,.slice p1 2 2),(50,i' ([c.eqs,c.neqs].length:Int)),(51,i' n),(58,.slice p2 x1.length af),(59,i' (x1.length:Int)),(60,i' q),(6,.map (some S))]) (fun (o:Mem)=>match o with|Q=>Mem.le y Q/\(Zbz c q I x2).wp (Out bf ab)) (fun (o:Mem)=>match o with|Q=>St Z T Q [(1,bk0 H (v31' c m l j i g f) 31),(10,bk0 b2 (v110' x2.id aD x2.p aL) 110),(4044,s)]) ?_ ?_
       .refine n'<|ah' [ff,ff,ff,ff,ff,ff,ff,ff,ff,ff,ff,ff,ff,ff,ff,ff,ff,ff,ff,ff,ff,ff,ff,ff,ff,ff,ff,ff] mix (by kernel_rfl) fun hb=>cn (fun _ d=>bo' z)<|cn (fun _ d=>f' 10 sc3 z z z)<|bz' hr z (fun _ d=>ai' z z) (fun aV hr=>?_) (fun aV hr=>?_)
        .refine cn (fun _ d=>e' z)<|cf z z<|cf z z<|cf z z<|cf z z<|cf z z<|cn (fun _ d=>h' z z)<|cn (fun _ d=>e' z)<|cf z z<|cf z z<|cf z z<|cf z z<|cn (fun _ d=>h' z z)<|cn (fun _ d=>e' z)<|cf z z<|cf z z<|cf z z<|cs z z<|cs z z<|cs z z<|cs z z<|cs z z<|cs z z<|cs z z<|cs z z<|R' hb<|N' (x' z z) z<|sf z z z<|yy (h' z z) z<|u'<|aq'<|g'<|U' z<|sr<|sx0 z z<|j'<|a'<|m'<|a'<|a'<|m'<|ag'<|m'<|a'<|a'<|m'<|ag'<|a' (k0' hr z z)
        refine cn (fun _ d=>e' z)<|cy z z (fun _ d=>bo' z)<|cy z z (fun _ d=>f' 10 sc3 z z z)<|cy z z (fun _ d=>bw' z)<|cy z z (fun _ d=>f' 1 sc3 z z z)<|bz' hr (v' z z) (fun _ d=>bf' z z) (fun bb hr=>?_) (fun bb hr=>?_)
        .refine cn (fun _ d=>l' z z)<|cn (fun _ d=>e' z)<|cf z z<|cf z z<|cf z z<|cf z z<|cn (fun _ d=>h' z z)<|cn (fun _ d=>e' z)<|cf z z<|cf z z<|cf z z<|cs z z<|cs z z<|cs z z<|cs z z<|cs z z<|cs z z<|cs z z<|cs z z<|R' hb<|N' (x' z z) z<|sf z z z<|yy (h' z z) z<|u'<|aq'<|g'<|U' z<|sr<|sx0 z z<|j'<|a'<|m'<|a'<|a'<|m'<|ag'<|m'<|a'<|a'<|m'<|ag'<|a' (k0' hr z z)
        refine cn (fun _ d=>l' z z)<|cn (fun _ d=>e' z)<|cy z z (fun _ d=>e' z)<|cy z z (fun _ d=>bo' z)<|cy z z (fun _ d=>f' 10 sc3 z z z) ?_
        obtain⟨ba,hr⟩:=hr
        refine bz' hr (v' z z) (fun _ d=>dc' (Y0.mapGet1 (mk:=Value.bool) (k:=x2.id) 4044 false (fun h=>Zlk h) underlying116 zv4 (MapR.mono ac d) z z z ba) (congrArg Value.bool (bdec _))) (fun a5 hr=>?_) (fun a5 hr=>?_)
        .refine cn (fun _ d=>l' z z)<|cn (fun _ d=>e' z)<|cf z z<|cf z z<|cf z z<|cs z z<|cs z z<|cs z z<|cs z z<|cs z z<|cs z z<|cs z z<|cs z z<|R' hb<|N' (x' z z) z<|sf z z z<|yy (h' z z) z<|u'<|aq'<|g'<|U' z<|sr<|sx0 z z<|j'<|a'<|m'<|a'<|a'<|m'<|ag'<|m'<|a'<|a'<|m'<|ag'<|a' (k0' hr z z)
        refine cn (fun _ d=>l' z z)<|cn (fun _ d=>e' z)<|cy z z (fun _ d=>e' z)<|bz' hr (v' z z) (fun _ d=>bh' z z) (fun a1 hr=>?_) (fun a1 hr=>?_)
        .refine cy z z (fun _ d=>e' z)<|cy z z (fun _ d=>bo' z)<|cy z z (fun _ d=>f' 10 sc3 z z z)<|cy z z (fun _ d=>e' z)<|cy z z (fun _ d=>e' z)<|cy z z (fun _ d=>bj' z z) ?_
         obtain⟨x3,ay,hr⟩:=hr
         refine cy z z (fun _ d=>T' w' aT' ((V.mono x).mono d) z z ay)<|cy z z (fun _ d=>bo' z)<|cy z z (fun _ d=>Z' sc3 z (aF' (I' (I' (aW' (ay' (ae' V ay))) x) d)))<|R' hb<|gy z z (bN' z z) z<|gy z z (h' z z) z<|yy (l' z z) z<|u'<|aq'<|g'<|L' hr z (fun a4 hr=>?_) (fun a4 hr=>?_)
         .exact (show False from hr).elim
         refine q'<|ar' y ⟨mr,hr⟩ (f10 z z z z z z z z z z) (w3 z z z)
        refine cy z z (fun _ d=>e' z)<|ct z z<|ct z z<|ct z z<|ct z z<|ct z z<|ct z z<|ct z z<|ct z z<|R' hb<|sk z z z<|gy z z (l' z z) z<|yy (l' z z) z<|u'<|aq'<|g'<|bb' z<|q'<|ar' y ⟨mr,hr⟩ (f10 z z z z z z z z z z) (w3 z z z)
       rintro Q ⟨M,hr⟩
       refine sr<|mv z z<|yy (bo' z) z<|yy (f' 10 sc3 z z z) z ?_
       obtain⟨⟨aT,aQ⟩,hr⟩:=hr
       refine WL.mapPut (Rv':=RvS Rp.bool Q) (k:=x2.id) (z:=true) 4044 z underlying116 (MapR.mono ac M) z z z z aT z (fun _ _ _ _ h=>h) aQ fun a6 aJ=>nr<|yy (bX' z) z<|yy (f' 10 cF' z z z) z<|yy (aH' z) z<|yy (f' 1 bC' z z z) z<|yy (M' H' (p.mono (mt (mt (mt (mt (mt D X) ae) F) x) M)) z) z ?_
       obtain⟨bk,aG,hr⟩:=hr
       refine F' z z (t' E60 z) (gs' aG) z ((aN.mono M))<|yy (al' z) z<|nx<|aL' hr z (fun aZ hr=>?_) (fun aZ hr=>?_)
       .exact (show False from hr).elim
       refine q'<|J'<|g'<|A'<|yy (X' z z) z<|mv z z<|u'<|Y' ⟨i64.wrap (q+1),(mput I x2.id true),a6,Q⟩ hr ⟨(mt x M),aJ⟩ (f9 z z z z z z z z z) (w2 z z)
      refine ao'<|r'<|r'<|O'<|ap' ⟨I,s,y⟩ ⟨x,ac,hr⟩ (f5 z z z z z) (w2 z z)
    rintro⟨K,C,O⟩ ⟨av,aR,hr⟩
    refine J'<|g'<|A'<|yy (X' z z) z<|mv z z<|u'<|Y' ⟨i64.wrap (n+1),K,C,O⟩ hr ⟨(mt F av),aR⟩ (f5 z z z z z) (w2 z z)
   refine ao'<|r'<|r'<|O'<|ap' A ⟨F,hr⟩ fn (wk ln)
 rintro aa ⟨bi,hr⟩
 refine g'<|sr<|sx0 z z<|j' (k0' hr z z)
theorem dY'{c r}(hr:(Zdu c).Ret r):Ctr prog 125 #[.string c] (fun G=>True) (fun G v=>v = .bool r):=by
 refine E' (args:=[_]) (N:=7) func125 z z z fun m n g j=>sr<|sg z z<|nr<|mv z z<|bd' (e:=9) (r:=Rp.str) (vs:=#[(0,.string c)]) (cs:=[.string c]++([])) ([c]:List ByteArray) z z z z z (by decide) (fun _=>by kernel_rfl) ⟨[.string c],[],z,z,z⟩ (key:=999) z (by rw[g]; rfl) fun h k i f=>yy (av' (vs:=#[(0,.slice h 1 1),(3,i' 1)]) (v:=.agg ([.slice h 1 1,.slice none 0 0,.slice none 0 0,i' 1]).toArray) z z (fun _=>by kernel_rfl)) z ?_
 obtain⟨l,d,hr⟩:=hr
 refine F' z z (t' E44 z) (eo' d) z (⟨f,(W' b' _),(W' b' _)⟩)<|sx0 z z<|j' (k0' hr z z)
theorem cL'{j p i l r}(hr:(Z7 j p).Ret r):Ctr prog 136 #[.slice i j.length l,.string p] (fun G=>sl Rp.str G i l j) (fun G v=>v=i' r):=by
 refine E' (args:=[_,_]) (N:=19) func136 z z z (fun s k C o=>?_)
 have m:=o
 refine sr<|sx0 z z<|n'<|sr<|mv z z<|yy (M' H' m z) z<|mv z z<|nx<|am' (fun (g:Mem)=>match g with|f=>[]) (fun (g:Mem)=>match g with|f=>Mem.le k f/\(Zaj).Ret r) (fun (g:Mem)=>match g with|f=>St s k f []) ?_ ?_
 .refine B' ?_
  let h:(Int⊕Unit)->Prop:=fun y=>((fun x=>match x with | .inl rv1=>Cq.ret rv1 | .inr ()=>Zaj:(Int⊕Unit)->Cq Int) y).wp (fun a=>a=r)
  replace hr:(Cq.loop _ _).wp h:=hr
  refine an' (Φ:=h) (fun (⟨c,d⟩:Int×Mem)=>(c:Int)) (fun ⟨c,d⟩=>[(0,.slice i j.length l),(1,.string p),(7,i' (j.length:Int)),(8,i' c)]) (fun ⟨c,d⟩=>Mem.le k d) (fun ⟨c,d⟩=>St s k d []) ⟨0,k⟩ hr (f4 z z z z) mr (wk ln) ?_
  .intro B g A hr
   obtain⟨c,d⟩:=g
   have e:=A
   refine sr<|yy (ai' z z) z<|nx<|n'<|L' hr z (fun t hr=>?_) (fun t hr=>?_)
   .refine q'<|g'<|n'<|B'<|sr<|mv z z<|sg z z<|nr<|mv z z<|mv z z<|mv z z ?_
    obtain⟨D,n,hr⟩:=hr
    refine yy (T' H' sz9 (m.mono e) z z n) z<|yy (Z' sc9 z (cb' (I' (ae' m n) e))) z<|yy (Y0.eqlS bl' z z) z<|nx<|L' hr z (fun q hr=>?_) (fun q hr=>?_)
    .refine sr<|mv z z<|sx0 z z<|j'<|m'<|a'<|a'<|m'<|ag'<|a' (k0' hr z z)
    refine q'<|J'<|g'<|A'<|yy (X' z z) z<|mv z z<|u'<|Y' ⟨i64.wrap (c+1),d⟩ hr e (f4 z z z z) (wk ln)
   refine ao'<|r'<|r'<|O'<|ap' d ⟨e,hr⟩ fn (wk ln)
 rintro f ⟨u,hr⟩
 refine g'<|sr<|sx0 z z<|j' (k0' hr z z)
theorem dk'{e i c d r}(hr:(Zai e i).Ret r):Ctr prog 126 #[.slice c e.length d,.string i] (fun G=>sl Rp.str G c d e) (fun G v=>v = .bool r):=by
 refine E' (args:=[_,_]) (N:=9) func126 z z z (fun l m k f=>?_)
 have h:=f
 refine sr<|sg z z<|nr<|mv z z<|mv z z ?_
 obtain⟨j,g,hr⟩:=hr
 refine F' z z (t' E136 z) (cL' g) z (h)<|yy (bf' z z) z<|sx0 z z<|j' (k0' hr z z)
theorem fp'(e:Zc)(d:Za)(l:Nat)(n:Nat)(r:Bool)(hr:(ZaD e d).Ret r):Ctr prog 124 #[pt0 l,pt0 n] (fun G=>At ab' G l 0 e/\At aR' G n 0 d) (fun G v=>v = .bool r):=by
 refine E' (args:=[_,_]) (N:=14) func124 z z z (fun s u o g=>?_)
 obtain⟨c,f⟩:=g
 refine sr<|sg z z<|nr<|yy (ca' z) z<|yy (Z' sc9 z (cb' (aW' (ax' (ay' c))))) z ?_
 obtain⟨k,h,hr⟩:=hr
 refine F' z z (t' E125 z) (dY' h) z (trivial) ?_
 cases k
 .refine mv z z<|sn6 z<|yy (l' z z) z<|sx0 z z<|j' (k0' hr z z)
 refine mv z z<|gy z z (aH' z) z ?_
 obtain⟨t,p,m,j⟩:=bF' (aW' (ay' f))
 refine gy z z (Z' bC' z (m)) z<|gy z z (ca' z) z<|gy z z (Z' sc9 z (cb' (aW' (ax' (ay' c))))) z ?_
 obtain⟨q,i,hr⟩:=hr
 refine F' (v' z z) z (t' E126 z) (dk' i) z (j)<|gy z z (al' z) z<|yy (h' z z) z<|sx0 z z<|j' (k0' hr z z)
theorem cT'{l k n r}(hr:(Zz l).Ret r):Ctr prog 120 #[.slice k l.length n] (fun G=>sl (Rp.fn prog fa0 foI) G k n l) (fun G v=>v=i' r):=by
 refine E' (args:=[_]) (N:=18) func120 z z z (fun u m K q=>?_)
 have j:=q
 refine sr<|sx0 z z<|n'<|sr<|mv z z<|yy (M' underlying203 j z) z<|mv z z<|nx<|am' (fun (g:Mem)=>match g with|f=>[]) (fun (g:Mem)=>match g with|f=>Mem.le m f/\(ZdU).Ret r) (fun (g:Mem)=>match g with|f=>St u m f []) ?_ ?_
 .refine B' ?_
  let i:(Int⊕Unit)->Prop:=fun F=>((fun E=>match E with | .inl rv1=>Cq.ret rv1 | .inr ()=>ZdU:(Int⊕Unit)->Cq Int) F).wp (fun a=>a=r)
  replace hr:(Cq.loop _ _).wp i:=hr
  refine an' (Φ:=i) (fun (⟨c,e⟩:Int×Mem)=>(c:Int)) (fun ⟨c,e⟩=>[(6,.slice k l.length n),(7,i' (l.length:Int)),(8,i' c)]) (fun ⟨c,e⟩=>Mem.le m e) (fun ⟨c,e⟩=>St u m e []) ⟨0,m⟩ hr (f3 z z z) mr (wk ln) ?_
  .intro J g H hr
   obtain⟨c,e⟩:=g
   have d:=H
   refine sr<|yy (ai' z z) z<|nx<|n'<|L' hr z (fun y hr=>?_) (fun y hr=>?_)
   .refine q'<|g'<|n'<|B'<|sr ?_
    obtain⟨M,p,hr⟩:=hr
    refine yy (T' underlying203 sz178 (j.mono d) z z p) z ?_
    obtain⟨L,A,B⟩:=AtK.fnv (I' (ae' j p) d)
    refine yy (Z' sc178 z (A)) z<|sg z z<|nr<|mv z z ?_
    obtain⟨I,s,hr⟩:=hr
    refine WL.callFn (vs:=[]) (a:=()) z z B z z z s (fun D x o h=>?_)
    subst h
    refine sg z z<|nr<|mv z z<|yy (aw' z z) z<|nx<|L' hr z (fun t hr=>?_) (fun t hr=>?_)
    .refine sr<|mv z z<|sx0 z z<|j'<|m'<|a'<|a'<|m'<|ag'<|a' (k0' hr z z)
    refine q'<|J'<|g'<|A'<|yy (X' z z) z<|mv z z<|u'<|Y' ⟨i64.wrap (c+1),x⟩ hr (mt d o) (f3 z z z) (wk ln)
   refine ao'<|r'<|r'<|O'<|ap' e ⟨d,hr⟩ fn (wk ln)
 rintro f ⟨C,hr⟩
 refine g'<|sr<|sx0 z z<|j' (k0' hr z z)
theorem ee'{r}(hr:(Zbq).Ret r):Ctr prog 127 #[] (fun G=>True) (fun G v=>v = .agg (vecG (Value.int .i64) 8 r).toArray):=by
 refine E' (args:=[]) (N:=10) func127 z z z fun m k D y=>sr<|V' 0 z z119 z fun l=>nx<|n'<|sr<|mv z z<|nx<|am' (fun (⟨d,g⟩:(Fin 8->Int)×Mem)=>[(0,pt0 l)]) (fun ⟨d,g⟩=>Mem.le k g/\(Zce d).Ret r) (fun ⟨d,g⟩=>St m k g [(0,bk0 l (vecG (Value.int .i64) 8 d) 119)]) ?_ ?_
 .refine B' ?_
  let j:(Fin 8->Int)->Prop:=fun A=>((fun t=>match t with|d=>Zce d:(Fin 8->Int)->Cq (Fin 8->Int)) A).wp (fun a=>a=r)
  replace hr:(Cq.loop _ _).wp j:=hr
  refine an' (Φ:=j) (fun (⟨c,e,f⟩:Int×(Fin 8->Int)×Mem)=>((c,e):Int×(Fin 8->Int))) (fun ⟨c,e,f⟩=>[(0,pt0 l),(2,i' c)]) (fun ⟨c,e,f⟩=>Mem.le k f) (fun ⟨c,e,f⟩=>St m k f [(0,bk0 l (vecG (Value.int .i64) 8 e) 119)]) ⟨0,(fun _=>0),k⟩ hr (f2 z z) mr (w1 z) ?_
  .intro C s B hr
   obtain⟨c,e,f⟩:=s
   have h:=B
   refine sr<|yy (ai' z z) z<|nx<|n'<|L' hr z (fun o hr=>?_) (fun o hr=>?_)
   .refine q'<|g'<|n'<|B'<|sr<|mv z z<|sx0 z z<|A'<|mv z z<|mv z z ?_
    obtain⟨n,hr⟩:=hr
    refine yy (bi' be' sz3 z z n) z<|aC' 0 (vecG (Value.int .i64) 8 (setF e c.toNat c)).toArray z sz3 z z z (by first|(rw[ac']; omega)|(show _<(vecG _ _ _).toArray.size; rw[ac']; omega)) z (ci' _ _ _ _ _)<|u'<|J'<|g'<|A'<|yy (X' z z) z<|mv z z<|u'<|Y' ⟨i64.wrap (c+1),setF e c.toNat c,f⟩ hr h (f2 z z) (w1 z)
   refine ao'<|r'<|r'<|O'<|ap' ⟨e,f⟩ ⟨h,hr⟩ (f1 z) (w1 z)
 rintro⟨d,g⟩ ⟨q,hr⟩
 refine g'<|sr<|yy (o' 0 ag119 z z (ac' _ _ _)) z<|s' 0 z sz119 z z z (ac' _ _ _) (ac' _ _ _) (fun u p=>Rp.one (dw' .i64 8) (G:=g) (x:=d) (cs:=vecG (Value.int .i64) 8 d) z u (by first|simpa using p|simpa [Value.cells] using p))<|nx<|j' ?_
 obtain rfl:_=r:=hr
 exact k' z (aa' (i:=0) ag119 z z (ac' _ _ _)) z
theorem fA'{n r}(hr:(Ze7 n).Ret r):Ctr prog 230 #[.int .u64 n] (fun G=>True) (fun G v=>v=i' r):=by
 refine E' (args:=[_]) (N:=25) func230 z z z fun m l B A=>sr<|sx0 z z<|aM' (fun (⟨g,f,c⟩:Int×Int×Mem)=>[(0,.int .u64 g),(2,i' f)]) (fun ⟨g,f,c⟩=>Mem.le l c/\(ZdK g f).Ret r) (fun ⟨g,f,c⟩=>St m l c []) ?_ ?_
 .refine sr<|mv z z<|yy (bf' z z) z<|nx<|L' hr z (fun p hr=>?_) (fun p hr=>?_)
  .exact (show False from hr).elim
  refine q'<|ar' ⟨n,0,l⟩ ⟨mr,hr⟩ (f2 z z) (wk ln)
 rintro⟨g,f,c⟩ ⟨x,hr⟩
 refine aM' (fun (⟨h,i,d⟩:Int×Int×Mem)=>[(0,.int .u64 h),(2,i' i)]) (fun ⟨h,i,d⟩=>Mem.le c d/\(ZdJ h i).Ret r) (fun ⟨h,i,d⟩=>St m l d []) ?_ ?_
 .refine sr<|mv z z<|yy (bf' z z) z<|nx<|L' hr z (fun o hr=>?_) (fun o hr=>?_)
  .exact (show False from hr).elim
  refine q'<|ar' ⟨g,f,c⟩ ⟨mr,hr⟩ (f2 z z) (wk ln)
 rintro⟨h,i,d⟩ ⟨y,hr⟩
 refine aM' (fun (⟨j,k,e⟩:Int×Int×Mem)=>[(0,.int .u64 j),(2,i' k)]) (fun ⟨j,k,e⟩=>Mem.le d e/\(ZdI j k).Ret r) (fun ⟨j,k,e⟩=>St m l e []) ?_ ?_
 .refine sr<|mv z z<|yy (bf' z z) z<|nx<|L' hr z (fun t hr=>?_) (fun t hr=>?_)
  .exact (show False from hr).elim
  refine q'<|ar' ⟨h,i,d⟩ ⟨mr,hr⟩ (f2 z z) (wk ln)
 rintro⟨j,k,e⟩ ⟨u,hr⟩
 refine sr<|mv z z<|mv z z<|yy (aN' az' aQ' z) z ?_
 obtain⟨q,hr⟩:=hr
 refine yy (dP' (s:=ZeO) bl' z z q) z<|yy (aN' aQ' aB' z) z<|yy (X' z z) z<|sx0 z z<|j' (k0' hr z z)
theorem fY'{d r}(hr:(Zb6 d).Ret r):Ctr prog 220 #[.int .u64 d] (fun G=>True) (fun G v=>v=i' r):=by
 refine E' (args:=[_]) (N:=8) func220 z z z fun h i g e=>sr<|sx0 z z<|n'<|bb' z<|q'<|g'<|sr<|mv z z ?_
 obtain⟨f,c,hr⟩:=hr
 refine F' z z (t' E230 z) (fA' c) z (trivial)<|sx0 z z<|j' (k0' hr z z)
theorem cM'{u j h f d r}(hr:(ZB u).Ret r):CtrL prog 210 #[.slice j f h,.func (.func 211) #[] #[]] [(5000,d)] (fun G=>RowR K' 133 G (.slice j f h) u d) (fun G L v=>∃ k,L=[(5000,k)]/\v = .tuple #[]/\RowR K' 133 G (.slice j f h) r k):=by
 refine bg' (args:=[_,_]) (N:=14) func210 z z z (fun q C t l=>?_)
 have g:=l
 have hz:q.L.zero:=by
  rw[t]; intro p s x D
  simp only[List.mem_cons,List.not_mem_nil,or_false] at s
  subst s; exact RowR.zero g D
 refine sr<|mv z z<|yy (dB' ak' g z) z<|sx0 z z<|A'<|mv z z<|mv z z<|mv z z<|yy (aN' aB' dQ' z) z ?_
 obtain⟨E,m,hr⟩:=hr
 refine F' z z (t' E220 z) (fY' m) z (trivial)<|mv z z ?_
 obtain⟨F,n,hr⟩:=hr
 refine cN' z z (t' E219 z) (cV' n) z (g) (lc z ln) hz (fun A o B y c=>?_)
 obtain⟨e,rfl,rfl,i⟩:=c
 refine u'<|WE.retN ?_
 obtain rfl:_=r:=hr
 refine aK' (S':=St q C o [(5000,e)]) (w1 z)<|WE.ret0 z  ⟨_,z,z,i⟩
theorem fh'{B t h r}(hr:(Zb1 B).Ret r):CtrL prog 195 #[.map (some t)] [(5500,h)] (fun G=>MapR ky120 (RvA ef' G) (.map (some t)) B h) (fun G L v=>L=[(5500,h)]/\(∃ zp zc,v = .slice zp r.length zc/\sl K' G zp zc r)):=by
 refine bg' (args:=[_]) (N:=28) func195 z z z (fun w0 T J ad=>?_)
 have C:=ad
 have hz:w0.L.zero:=by
  rw[J]; intro p hp x hx
  simp only[List.mem_cons,List.not_mem_nil,or_false] at hp
  subst hp; exact MapR.zero C hx
 refine sr<|sg z z<|nr<|mv z z<|yy (Y0.lenM 5500 ev' C z z) z ?_
 obtain⟨aq,hr⟩:=hr
 refine WL.makeC (r:=K') (e:=133) (n:=(B.length:Int)) 4008 z z ak' el133 z (by decide) z z aq fun p1 ao al am=>sx0 z z<|n'<|sr<|mv z z<|WL.rangeM 5500 4010 z z ev' C z z fun ac ab ag=>nx<|am' (fun (⟨A,I,H,y,K⟩:(List Ze)×Option Addr×Nat×Option Ow×Mem)=>[(3,.slice I A.length H),(0,.map (some t))]) (fun ⟨A,I,H,y,K⟩=>Mem.le T K/\RowR K' 133 K (.slice I A.length H) A y/\(Zbl A).Ret r) (fun ⟨A,I,H,y,K⟩=>St w0 T K [(4003,y),(5500,h)]) ?_ ?_
 .refine B' ?_
  let V:(List Ze)->Prop:=fun oo=>((fun ov=>match ov with|A=>Zbl A:(List Ze)->Cq (List Ze)) oo).wp (fun a=>a=r)
  replace hr:(Cq.loop _ _).wp V:=hr
  refine an' (Φ:=V) (fun (⟨o,m,s,l,S,D,q⟩:(List Ze)×Option Addr×Nat×Option Ow×List ((Fin 8->Int)×Zm)×Option Ow×Mem)=>((o,S):(List Ze)×List ((Fin 8->Int)×Zm))) (fun ⟨o,m,s,l,S,D,q⟩=>[(3,.slice m o.length s),(0,.map (some t)),(10,ac)]) (fun ⟨o,m,s,l,S,D,q⟩=>Mem.le T q/\RowR K' 133 q (.slice m o.length s) o l/\IterR ky120 (RvA ef' q) h ac S none D) (fun ⟨o,m,s,l,S,D,q⟩=>St w0 T q [(4003,l),(5500,h),(4010,D)]) ⟨([]:List Ze),p1,ao,al,B,ab,T⟩ hr (f3 z z z) ⟨mr,am,(IterR.forget ag)⟩ ?_ ?_
  .intro w Q
   have Q:=Q.rekey (i:=4008) (j:=4003) z (by rw[J]; rfl)
   exact Q.weaken (lc z (lc z (lc z ln)))
  intro aX gx hx hr
  obtain⟨o,m,s,l,S,D,q⟩:=gx
  obtain⟨M,P,aA⟩:=hx
  refine sr<|WL.nextM 5500 4010 z z aA z z z (fun Ra k Rb W Y R aQ aS=>?_) (fun Y=>?_)
  .replace hr:=hr.2 _ _ _ Y
   generalize Ra++Rb=R2 at hr R
   refine yy (y' z z) z<|nx<|n'<|U' z<|q'<|g'<|B'<|sr<|WL.entryM 5500 4010 z z R z z z (fun u1 av aY=>?_)
   obtain⟨a0,rfl,aC⟩:=av
   obtain⟨g,d,f,c,rfl,F,E⟩:=ZmR aC
   refine yy (y' z z) z<|yy (y' z z) z<|V' 4 z z120 z fun b1=>V' 5 z z130 z fun b2=>s' 4 z sz120 z z z (ac' _ _ _) (ac' _ _ _) (fun u hu=>Rp.one (dw' .i64 8) (G:=q) (x:=k.1) (cs:=vecG (Value.int .i64) 8 k.1) z u (by first|simpa using hu|simpa [Value.cells] using hu))<|s' 5 z sz130 z z z z z (List.all_eq_true.1 z)<|nr<|yy (o' 5 cR' z z z) z ?_
   obtain⟨aU,aj,hr⟩:=hr
   refine F' z z (t' E107 z) (eM' aj) z (⟨F,E⟩)<|yy (aw' z z) z<|nx<|L' hr z (fun ax hr=>?_) (fun ax hr=>?_)
   .refine A'<|mv z z<|yy (o' 5 cR' z z z) z<|yy (o' 4 bS' z z (ac' _ _ _)) z<|yy (av' (vs:=#[(0,.agg ((v130' k.2 g d f c)).toArray),(1,.agg (vecG (Value.int .i64) 8 k.1).toArray)]) (v:=.agg (((v130' k.2 g d f c):List Value)++(vecG (Value.int .i64) 8 k.1)).toArray) z z (fun _=>by kernel_rfl)) z<|bd' (e:=133) (r:=K') (vs:=#[(0,.agg (((v130' k.2 g d f c):List Value)++(vecG (Value.int .i64) 8 k.1)).toArray)]) (cs:=(((v130' k.2 g d f c):List Value)++(vecG (Value.int .i64) 8 k.1))++([])) ([(Ze.mk k.2 k.1)]:List Ze) z z z z z (by decide) (fun _=>by kernel_rfl) ⟨((v130' k.2 g d f c):List Value)++(vecG (Value.int .i64) 8 k.1),[],z,⟨(v130' k.2 g d f c),vecG (Value.int .i64) 8 k.1,z,⟨(v128' k.2.num g d),(v128' k.2.den f c),z,⟨[.bool k.2.num.neg],[.slice g k.2.num.mag.length d],z,z,⟨_,z,F⟩⟩,⟨[.bool k.2.den.neg],[.slice f k.2.den.mag.length c],z,z,⟨_,z,E⟩⟩⟩,z⟩,z⟩ (key:=999) z (by rw[J]; rfl) (fun p2 ar O aD=>?_)
    obtain⟨af,hr⟩:=hr
    refine ct' (r:=K') (e:=133) 4003 z z ak' el133 z (by decide) z z (P.mono O) z aD af fun p3 az ai ay=>sg z z<|u'<|J'<|Y' ⟨(o++[(Ze.mk k.2 k.1)]),p3,az,ai,R2,W,ar⟩ hr ⟨(mt M O),ay,(IterR.forget (IterR.monoA R O))⟩ (f3 z z z) (w3 z z z)
   refine q'<|J'<|Y' ⟨o,m,s,l,R2,W,q⟩ hr ⟨M,P,(IterR.forget R)⟩ (f3 z z z) (w3 z z z)
  replace hr:=hr.1 Y
  refine yy (y' z z) z<|nx<|n'<|bb' z<|ao'<|r'<|r'<|O'<|ap' ⟨o,m,s,l,q⟩ ⟨M,P,hr⟩ (f2 z z) (w2 z z)
 rintro⟨A,I,H,y,K⟩ ⟨aI,ae,hr⟩
 refine g'<|sr<|mv z z ?_
 obtain⟨aV,ah,hr⟩:=hr
 refine bK' (fun w Q=>Q.rekey (i:=4003) (j:=5000) z (by rw[J]; rfl))<|cN' z z (t' E210 z) (cM' ah) z (ae) (lc z ln) hz (fun aL aZ aO aH U=>?_)
 obtain⟨ap,rfl,rfl,Z⟩:=U
 refine bK' (fun w Q=>Q.rekey (i:=5000) (j:=4003) z (by rw[J]; rfl))<|nr<|mv z z<|sx0 z z<|j' ?_
 obtain rfl:_=r:=hr
 refine WE.freezeT (r:=K') (e:=133) 4003 Z z (by rw[J]; rfl) fun aW aw aG X aF=>aK' (S':=St w0 T aw [(5500,h)]) (w1 z)<|k' z z ⟨z,⟨_,_,(cH' X),(cw' X)⟩⟩
theorem eU'{F g O M r}(hr:(ZbJ F g).Ret r):Ctr prog 169 #[.slice O F.length M,.agg (vecG (Value.int .i64) 8 g).toArray] (fun G=>sl K' G O M F) (wlt' K' r):=by
 refine E' (args:=[_,_]) (N:=59) func169 z z z (fun X V ad au=>?_)
 have ab:=au
 have hz:X.L.zero:=by rw[ad]; intro p hp; simp at hp
 refine sr<|af' 3 z z z fun R=>sg z z<|sg z z<|nr<|V' 6 z z216 z fun b2=>nx<|n'<|sr<|yy (o' 3 ag119 z z (ac' _ _ _)) z<|mv z z<|nx<|am' (fun (o:Mem)=>match o with|E=>[(0,.slice O F.length M),(3,pt0 R)]) (fun (o:Mem)=>match o with|E=>Mem.le V E/\(Zat F g).Ret r) (fun (o:Mem)=>match o with|E=>St X V E [(3,bk0 R (vecG (Value.int .i64) 8 g) 119)]) ?_ ?_
 .refine B' ?_
  let ai:(((List Ze)×Int)⊕Unit)->Prop:=fun oo=>((fun ov=>match ov with | .inl rv1=>Cq.ret rv1 | .inr ()=>Zat F g:(((List Ze)×Int)⊕Unit)->Cq ((List Ze)×Int)) oo).wp (fun a=>a=r)
  replace hr:(Cq.loop _ _).wp ai:=hr
  refine an' (Φ:=ai) (fun (⟨q,J,H⟩:Int×(Fin 8->Bool)×Mem)=>((q,J):Int×(Fin 8->Bool))) (fun ⟨q,J,H⟩=>[(0,.slice O F.length M),(3,pt0 R),(6,pt0 b2),(15,.agg (vecG (Value.int .i64) 8 g).toArray),(16,i' q)]) (fun ⟨q,J,H⟩=>Mem.le V H) (fun ⟨q,J,H⟩=>St X V H [(3,bk0 R (vecG (Value.int .i64) 8 g) 119),(6,bk0 b2 (vecG Value.bool 8 J) 216)]) ⟨0,(fun _=>false),V⟩ hr (f5 z z z z z) mr (w2 z z) ?_
  .intro aW o hx hr
   obtain⟨q,J,H⟩:=o
   have Z:=hx
   refine sr<|yy (ai' z z) z<|nx<|n'<|L' hr z (fun aD hr=>?_) (fun aD hr=>?_)
   .refine q'<|g'<|n'<|B'<|sr ?_
    obtain⟨aq,hr⟩:=hr
    refine yy (Y0.index be' sc3 sz3 z z aq (bk' _ _ _ aq)) z<|sx0 z z<|n'<|sr<|mv z z<|ad' hr z (ai' z z) z (fun aE hr=>?_) (fun aE hr=>?_)
    .refine mv z z<|sn2 z<|yy (h' z z) z<|mv z z<|sn3 z<|yy (h' z z) z<|nx<|U' z<|sr<|sg z z<|sx0 z z<|j'<|a'<|m'<|a'<|a'<|m'<|ag'<|a' ?_
     obtain rfl:_=r:=hr
     exact aE' z z z ⟨_,_,z,(W' K' _)⟩
    refine mv z z<|gy z z (e' z) z<|ad' hr (v' z z) (bf' z z) z (fun aO hr=>?_) (fun aO hr=>?_)
    .refine yy (l' z z) z<|mv z z<|sn3 z<|yy (h' z z) z<|nx<|U' z<|sr<|sg z z<|sx0 z z<|j'<|a'<|m'<|a'<|a'<|m'<|ag'<|a' ?_
     obtain rfl:_=r:=hr
     exact aE' z z z ⟨_,_,z,(W' K' _)⟩
    refine yy (l' z z) z<|mv z z<|gy z z (e' z) z ?_
    obtain⟨ar,hr⟩:=hr
    refine gy z z (bi' dR' sz4 z z ar) z<|gy z z (f' 6 sc4 z z (bk' _ _ _ ar)) z<|yy (l' z z) z<|nx<|aL' hr z (fun aH hr=>?_) (fun aH hr=>?_)
    .exact (show False from hr).elim
    refine q'<|g'<|A'<|mv z z ?_
    obtain⟨aF,hr⟩:=hr
    refine yy (bi' dR' sz4 z z aF) z<|aC' 6 (vecG Value.bool 8 (setF J ((getF g q).toNat) true)).toArray z sz4 z z z (by first|(rw[ac']; omega)|(show _<(vecG _ _ _).toArray.size; rw[ac']; omega)) z (ci' _ _ _ _ _)<|u'<|J'<|g'<|A'<|yy (X' z z) z<|mv z z<|u'<|Y' ⟨i64.wrap (q+1),setF J ((getF g q).toNat) true,H⟩ hr Z (f5 z z z z z) (w2 z z)
   refine ao'<|r'<|r'<|O'<|ap' H ⟨Z,hr⟩ (f2 z z) (w1 z)
 rintro E ⟨W,hr⟩
 refine g'<|sr<|WL.makeMap (ky:=ky120) (Rv:=RvA ef' E) 4033 z z fun T al ax=>sx0 z z<|n'<|sr<|mv z z<|yy (M' ak' (ab.mono W) z) z<|mv z z<|nx<|am' (fun (o:(List ((Fin 8->Int)×Zm))×Option Ow×Mem)=>match o with|⟨Q,C,S⟩=>[(9,.map (some T))]) (fun (o:(List ((Fin 8->Int)×Zm))×Option Ow×Mem)=>match o with|⟨Q,C,S⟩=>Mem.le E S/\MapR ky120 (RvA ef' S) (.map (some T)) Q C/\(Za3 Q).Ret r) (fun (o:(List ((Fin 8->Int)×Zm))×Option Ow×Mem)=>match o with|⟨Q,C,S⟩=>St X V S [(4033,C)]) ?_ ?_
 .refine B' ?_
  let U:(((List ((Fin 8->Int)×Zm))))->Prop:=fun oo=>((fun ov=>match ov with|Q=>Za3 Q:(((List ((Fin 8->Int)×Zm))))->Cq ((List Ze)×Int)) oo).wp (fun a=>a=r)
  replace hr:(Cq.loop _ _).wp U:=hr
  refine an' (Φ:=U) (fun (o:Int×(List ((Fin 8->Int)×Zm))×Option Ow×Mem)=>match o with|⟨n,v,s,t⟩=>((n,v):Int×(List ((Fin 8->Int)×Zm)))) (fun (o:Int×(List ((Fin 8->Int)×Zm))×Option Ow×Mem)=>match o with|⟨n,v,s,t⟩=>[(3,pt0 R),(34,.slice O F.length M),(35,i' (F.length:Int)),(36,i' n),(9,.map (some T))]) (fun (o:Int×(List ((Fin 8->Int)×Zm))×Option Ow×Mem)=>match o with|⟨n,v,s,t⟩=>Mem.le E t/\MapR ky120 (RvA ef' t) (.map (some T)) v s) (fun (o:Int×(List ((Fin 8->Int)×Zm))×Option Ow×Mem)=>match o with|⟨n,v,s,t⟩=>St X V t [(3,bk0 R (vecG (Value.int .i64) 8 g) 119),(4033,s)]) ⟨0,[],al,E⟩ hr (f5 z z z z z) ⟨mr,ax⟩ (w2 z z) ?_
  .intro an o hx hr
   obtain⟨n,v,s,t⟩:=o
   obtain⟨L,ag⟩:=hx
   refine sr<|yy (ai' z z) z<|nx<|n'<|L' hr z (fun aN hr=>?_) (fun aN hr=>?_)
   .refine q'<|g'<|n'<|B'<|sr ?_
    obtain⟨l,ap,hr⟩:=hr
    refine yy (T' ak' cg' (ab.mono (mt W L)) z z ap) z ?_
    obtain⟨e,d,f,c,aG,D,y⟩:=do' (I' (ae' ab ap) (mt W L))
    refine yy (aA' _ ag133 z z aG) z<|V' 11 z z133 z fun b3=>s' 11 z cg' z z z z z (fun u hu=>Rp.one K' (G:=t) (x:=l) (cs:=((v130' l.c e d f c):List Value)++(vecG (Value.int .i64) 8 l.m)) ⟨(v130' l.c e d f c),vecG (Value.int .i64) 8 l.m,z,⟨(v128' l.c.num e d),(v128' l.c.den f c),z,⟨[.bool l.c.num.neg],[.slice e l.c.num.mag.length d],z,z,⟨_,z,D⟩⟩,⟨[.bool l.c.den.neg],[.slice f l.c.den.mag.length c],z,z,⟨_,z,y⟩⟩⟩,z⟩ u (by first|simpa using hu|simpa [Value.cells] using hu))<|nr<|V' 12 z z120 z fun b4=>nx<|n'<|sr<|yy (bB' z) z<|yy (aI' (vecG (Value.int .i64) 8 l.m).toArray 11 bS' z z (ac' _ _ _) (aU' ((v130' l.c e d f c)) (vecG (Value.int .i64) 8 l.m) ([]))) z<|mv z z<|nx<|am' (fun (⟨B,P⟩:(Fin 8->Int)×Mem)=>[(3,pt0 R),(11,pt0 b3),(12,pt0 b4),(34,.slice O F.length M),(35,i' (F.length:Int)),(36,i' n),(9,.map (some T))]) (fun ⟨B,P⟩=>Mem.le t P/\(Za4 n v l B).wp (Out an U)) (fun ⟨B,P⟩=>St X V P [(3,bk0 R (vecG (Value.int .i64) 8 g) 119),(11,bk0 b3 (((v130' l.c e d f c):List Value)++(vecG (Value.int .i64) 8 l.m)) 133),(12,bk0 b4 (vecG (Value.int .i64) 8 B) 120),(4033,s)]) ?_ ?_
    .refine B' ?_
     let af:(Fin 8->Int)->Prop:=fun oo=>((fun ov=>match ov with|B=>Za4 n v l B:(Fin 8->Int)->Cq ((Int×(List ((Fin 8->Int)×Zm)))⊕(((List ((Fin 8->Int)×Zm)))))) oo).wp (Out an U)
     replace hr:(Cq.loop _ _).wp af:=hr
     refine an' (Φ:=af) (fun (⟨m,A,I⟩:Int×(Fin 8->Int)×Mem)=>((m,A):Int×(Fin 8->Int))) (fun ⟨m,A,I⟩=>[(3,pt0 R),(11,pt0 b3),(12,pt0 b4),(34,.slice O F.length M),(35,i' (F.length:Int)),(36,i' n),(41,.agg (vecG (Value.int .i64) 8 l.m).toArray),(42,i' m),(9,.map (some T))]) (fun ⟨m,A,I⟩=>Mem.le t I) (fun ⟨m,A,I⟩=>St X V I [(3,bk0 R (vecG (Value.int .i64) 8 g) 119),(11,bk0 b3 (((v130' l.c e d f c):List Value)++(vecG (Value.int .i64) 8 l.m)) 133),(12,bk0 b4 (vecG (Value.int .i64) 8 A) 120),(4033,s)]) ⟨0,(fun _=>0),t⟩ hr (f9 z z z z z z z z z) mr (w4 z z z z) ?_
     .intro aZ o hx hr
      obtain⟨m,A,I⟩:=o
      have Y:=hx
      refine sr<|yy (ai' z z) z<|nx<|n'<|L' hr z (fun aK hr=>?_) (fun aK hr=>?_)
      .refine q'<|g'<|n'<|B'<|sr<|mv z z ?_
       obtain⟨am,hr⟩:=hr
       refine yy (Y0.index aO' sc3 sz3 z z am (bk' _ _ _ am)) z<|sg z z<|sx0 z z<|A'<|mv z z ?_
       obtain⟨ao,hr⟩:=hr
       refine yy (bi' be' sz3 z z ao) z<|yy (f' 3 sc3 z z (bk' _ _ _ ao)) z<|mv z z ?_
       obtain⟨aI,hr⟩:=hr
       refine yy (bi' aO' sz3 z z aI) z<|aC' 12 (vecG (Value.int .i64) 8 (setF A ((getF g m).toNat) (getF l.m m))).toArray z sz3 z z z (by first|(rw[ac']; omega)|(show _<(vecG _ _ _).toArray.size; rw[ac']; omega)) z (ci' _ _ _ _ _)<|u'<|J'<|g'<|A'<|yy (X' z z) z<|mv z z<|u'<|Y' ⟨i64.wrap (m+1),setF A ((getF g m).toNat) (getF l.m m),I⟩ hr Y (f9 z z z z z z z z z) (w4 z z z z)
      refine ao'<|r'<|r'<|O'<|ap' ⟨A,I⟩ ⟨Y,hr⟩ (f7 z z z z z z z) (w4 z z z z)
    rintro⟨B,P⟩ ⟨K,hr⟩
    refine g'<|A'<|mv z z<|yy (o' 12 bS' z z (ac' _ _ _)) z<|yy (cQ' z) z<|yy (aI' ((v130' l.c e d f c)).toArray 11 cR' z z z (aU' ([]) ((v130' l.c e d f c)) ((vecG (Value.int .i64) 8 l.m)))) z ?_
    obtain⟨⟨aC,aA⟩,hr⟩:=hr
    refine WL.mapPut (Rv':=RvA ef' P) (k:=B) (z:=l.c) 4033 z ev' (MapR.monoA ag K) z z z z aC ⟨(v130' l.c e d f c),z,⟨(v128' l.c.num e d),(v128' l.c.den f c),z,⟨[.bool l.c.num.neg],[.slice e l.c.num.mag.length d],z,z,⟨_,z,(D.mono K)⟩⟩,⟨[.bool l.c.den.neg],[.slice f l.c.den.mag.length c],z,z,⟨_,z,(y.mono K)⟩⟩⟩⟩ (fun _ _ _ _ h=>h) aA fun aL ay=>u'<|J'<|g'<|A'<|yy (X' z z) z<|mv z z<|u'<|Y' ⟨i64.wrap (n+1),(mput v B l.c),aL,P⟩ hr ⟨(mt L K),ay⟩ (f5 z z z z z) (w2 z z)
   refine ao'<|r'<|r'<|O'<|ap' ⟨v,s,t⟩ ⟨L,ag,hr⟩ (f1 z) (w1 z)
 rintro⟨Q,C,S⟩ ⟨aQ,az,hr⟩
 refine g'<|sr<|mv z z ?_
 obtain⟨aX,aw,hr⟩:=hr
 refine bK' (fun w hs=>hs.rekey (i:=4033) (j:=5500) z (by rw[ad]; rfl))<|WL.callRO z z (t' E195 z) (fh' aw) z (az) (lc z ln) (fun i hi=>by simp only[List.map_cons,List.map_nil,List.mem_cons,List.not_mem_nil,or_false] at hi; subst hi; exact z) hz (fun aU aY aR aa=>?_)
 obtain⟨aT,aV,rfl,av⟩:=aa
 refine bK' (fun w hs=>hs.rekey (i:=5500) (j:=4033) z (by rw[ad]; rfl))<|sg z z<|sx0 z z<|j' ?_
 obtain rfl:_=r:=hr
 exact aE' z z z ⟨_,_,z,av⟩
theorem fB'{f c e h n r}(hr:(Ze2 f c).Ret r):CtrL prog 168 #[.agg ((v110' f.id e f.p h)).toArray,pt0 n] [(125603,bk0 n (vecG (Value.int .i64) 8 c) 119)] (fun G=>sl K' G e h f.p) (fun G L v=>L=[(125603,bk0 n (vecG (Value.int .i64) 8 c) 119)]/\(∃ m l,v = .agg ((v110' r.id m r.p l)).toArray/\sl K' G m l r.p)):=by
 refine bg' (args:=[_,_]) (N:=13) func168 z z z (fun A D y o=>?_)
 have q:=o
 refine sr<|af' 2 z z z fun C=>V' 3 z z110 z fun B=>nr<|yy (bX' z) z<|yy (f' 2 cF' z z z) z<|yy (o' 125603 ag119 z z (ac' _ _ _)) z ?_
 obtain⟨s,p,hr⟩:=hr
 refine P' z z (t' E169 z) (eU' p) z (q) (fun u x t d=>?_)
 obtain⟨j,k,rfl,g⟩:=d
 refine mv z z<|yy (y' z z) z<|yy (y' z z) z<|yy (bX' z) z<|aC' 2 ([i' f.id,.slice j s.1.length k]).toArray z sz46 z z z (show 1<2 by decide) z z<|nr<|yy (o' 2 bM' z z z) z<|s' 3 z aT' z z z z z (List.all_eq_true.1 z)<|nx<|j' ?_
 obtain rfl:_=r:=hr
 exact WE.retW1 z (aa' (i:=3) bM' z z z) (lc z ln) ⟨z,⟨_,_,z,g⟩⟩
theorem cx'{f h H I t r}(hr:(ZH f h).Ret r):CtrL prog 145 #[.slice H f.length I,.func (.func 168) #[] #[pt0 t]] [(125603,bk0 t (vecG (Value.int .i64) 8 h) 119)] (fun G=>sl b' G H I f) (fun G L v=>L=[(125603,bk0 t (vecG (Value.int .i64) 8 h) 119)]/\(∃ zp zc,v = .slice zp r.length zc/\sl b' G zp zc r)):=by
 refine bg' (args:=[_,_]) (N:=26) func145 z z z (fun K D Q R=>?_)
 have y:=R
 have hz:K.L.zero:=by
  rw[Q]; intro p hp x X
  simp only[List.mem_cons,List.not_mem_nil,or_false] at hp
  subst hp; cases X; rfl
 refine sr<|sg z z<|nr<|mv z z<|yy (M' w' y z) z ?_
 obtain⟨ad,hr⟩:=hr
 refine dS' (r:=b') (e:=110) (n:=(f.length:Int)) (zx:=(Zb.mk 0 [])) 4010 z z w' el110 z (by decide) (by decide) ⟨[i' 0],[.slice none 0 0],z,z,⟨_,z,(W' _ _)⟩⟩ z z ad fun M S Y=>sx0 z z<|n'<|sr<|mv z z<|yy (M' w' y z) z<|mv z z<|nx<|am' (fun (⟨m,g,q⟩:(List Zb)×Option Ow×Mem)=>[(5,.slice M (f.length:Int).toNat ((f.length:Int).toNat))]) (fun ⟨m,g,q⟩=>Mem.le D q/\RowR b' 110 q (.slice M (f.length:Int).toNat ((f.length:Int).toNat)) m g/\(ZN m).Ret r) (fun ⟨m,g,q⟩=>St K D q [(125603,bk0 t (vecG (Value.int .i64) 8 h) 119),(4010,g)]) ?_ ?_
 .refine B' ?_
  let F:(List Zb)->Prop:=fun oo=>((fun ov=>match ov with|m=>ZN m:(List Zb)->Cq (List Zb)) oo).wp (fun a=>a=r)
  replace hr:(Cq.loop _ _).wp F:=hr
  refine an' (Φ:=F) (fun (⟨j,d,c,k⟩:(List Zb)×Option Ow×Int×Mem)=>((j,c):(List Zb)×Int)) (fun ⟨j,d,c,k⟩=>[(1,.func (.func 168) #[] #[pt0 t]),(5,.slice M (f.length:Int).toNat ((f.length:Int).toNat)),(11,.slice H f.length I),(12,i' (f.length:Int)),(13,i' c)]) (fun ⟨j,d,c,k⟩=>Mem.le D k/\RowR b' 110 k (.slice M (f.length:Int).toNat ((f.length:Int).toNat)) j d) (fun ⟨j,d,c,k⟩=>St K D k [(125603,bk0 t (vecG (Value.int .i64) 8 h) 119),(4010,d)]) ⟨(List.replicate (f.length:Int).toNat (Zb.mk 0 [])),S,0,D⟩ hr (f5 z z z z z) ⟨mr,Y⟩ (w2 z z) ?_
  .intro av gx X hr
   obtain⟨j,d,c,k⟩:=gx
   obtain⟨l,u⟩:=X
   refine sr<|yy (ai' z z) z<|nx<|n'<|L' hr z (fun ag hr=>?_) (fun ag hr=>?_)
   .refine q'<|g'<|n'<|B'<|sr<|mv z z ?_
    obtain⟨x1,O,hr⟩:=hr
    refine yy (T' w' aT' (y.mono l) z z O) z ?_
    obtain⟨am,aq,aa,T⟩:=bq' (I' (ae' y O) l)
    refine yy (aA' _ bM' z z aa) z<|V' 7 z z110 z fun b2=>sg z z<|s' 7 z aT' z z z z z (List.all_eq_true.1 z)<|nx<|A'<|mv z z<|mv z z<|mv z z<|yy (o' 7 bM' z z z) z ?_
    obtain⟨o,U,hr⟩:=hr
    refine WL.callRO z z (di' E168 z z) (fB' U) z (T) (lc z ln) (fun i hi=>by simp only[List.map_cons,List.map_nil,List.mem_cons,List.not_mem_nil,or_false] at hi; subst hi; exact z) hz (fun ao Z s C=>?_)
    obtain⟨B,A,rfl,J⟩:=C
    obtain⟨x2,P,hr⟩:=hr
    refine yy (aP' w' aT' (u.mono s) z z P) z<|bx' (r:=b') (e:=110) (cs':=(v110' o.id B o.p A)) (i:=c) (z':=o) 4010 z aT' z (u.mono s) z z z z ⟨[i' o.id],[.slice B o.p.length A],z,z,⟨_,z,J⟩⟩ P fun ah W=>u'<|J'<|g'<|A'<|yy (X' z z) z<|mv z z<|u'<|Y' ⟨(j.set c.toNat o),ah,i64.wrap (c+1),Z⟩ hr ⟨(mt l s),W⟩ (f5 z z z z z) (w2 z z)
   refine ao'<|r'<|r'<|O'<|ap' ⟨j,d,k⟩ ⟨l,u,hr⟩ (f1 z) (w2 z z)
 rintro⟨m,g,q⟩ ⟨ak,V,hr⟩
 refine g'<|sr<|mv z z<|sx0 z z<|j' ?_
 obtain rfl:_=r:=hr
 refine WE.freezeT (r:=b') (e:=110) 4010 V z (by rw[Q]; rfl) fun au ac aj E al=>aK' (S':=St K D ac [(125603,bk0 t (vecG (Value.int .i64) 8 h) 119)]) (w1 z)<|k' z z ⟨z,⟨_,_,(cH' E),(cw' E)⟩⟩
theorem ep'{m l g e n o j k r}(hr:(ZbF m l).Ret r):Ctr prog 128 #[.agg ((v31' m g e n o j k)).toArray,.agg (vecG (Value.int .i64) 8 l).toArray] (fun G=>y31' G g e n o j k m) (w31' r):=by
 refine E' (args:=[_,_]) (N:=18) func128 z z z (fun V G0 P L=>?_)
 obtain⟨A,F,D⟩:=L
 have hz:V.L.zero:=by rw[P]; intro p W; simp at W
 refine sr<|af' 2 z z z fun b1=>af' 125603 z z z fun Q=>V' 4 z z31 z fun b3=>nr<|yy (bQ' z z) z<|sx0 z z<|n'<|ah' [ff,ff,ff,ff,ff,ff,ff,ff,ff] mix (by kernel_rfl) fun hb=>cn (fun _ c=>aY' z)<|cn (fun _ c=>f' 2 br' z z z)<|cn (fun _ c=>e' z) ?_
 obtain⟨y,M,hr⟩:=hr
 refine ez' (f:=145) (φ:=wl' b' y) (L1:=[(125603,bk0 Q (vecG (Value.int .i64) 8 l) 119)]) (fun _=>z) (fun v Y X c h=>?_) (lc z ln) (fun i I=>by simp only[List.map_cons,List.map_nil,List.mem_cons,List.not_mem_nil,or_false] at I; subst I; exact z) hz (fun u T c R=>?_) ?_
 .obtain⟨q,t,rfl,s⟩:=h
  exact⟨_,_,z,s.mono c⟩
 .exact⟨_,_,_,fun _=>t' E145 z,cx' M,z,(F.mono c)⟩
 refine cu (fun _ _ c=>ba' z)<|cu (fun _ _ c=>f' 2 br' z z z)<|cu (fun _ _ c=>e' z) ?_
 obtain⟨J,O,hr⟩:=hr
 refine ez' (f:=145) (φ:=wl' b' J) (L1:=[(125603,bk0 Q (vecG (Value.int .i64) 8 l) 119)]) (fun _=>z) (fun v Y X c h=>?_) (lc z ln) (fun i I=>by simp only[List.map_cons,List.map_nil,List.mem_cons,List.not_mem_nil,or_false] at I; subst I; exact z) hz (fun u T c R=>?_) ?_
 .obtain⟨E,H,rfl,x⟩:=h
  exact⟨_,_,z,x.mono c⟩
 .obtain⟨_,_⟩:=(show True/\True from R)
  exact⟨_,_,_,fun _=>t' E145 z,cx' O,z,(D.mono c)⟩
 refine cu (fun _ _ c=>aY' z)<|du' (d:=14) (post:=wl' b' J) (d':=10) (post':=wl' b' y) (fun U S Z K B C=>?_)
 obtain⟨E,H,rfl,x⟩:=B
 obtain⟨q,t,rfl,s⟩:=C
 refine aC' 2 ([.slice g m.vars.length e,.slice q y.length t,.slice j m.neqs.length k,i' m.next]).toArray z sz29 z z z (show 1<4 by decide) z z<|yy (ba' z) z<|aC' 2 ([.slice g m.vars.length e,.slice q y.length t,.slice E J.length H,i' m.next]).toArray z sz29 z z z (show 2<4 by decide) z z<|u'<|aq'<|g'<|sr<|yy (o' 2 at' z z z) z<|s' 4 z aV' z z z z z (List.all_eq_true.1 z)<|nx<|j' ?_
 obtain rfl:_=r:=hr
 exact k' z (aa' (i:=4) at' z z z) ⟨_,_,_,_,_,_,z,(A.mono K),s,x⟩
theorem co'{l c g r}(hr:(ZK l).Ret r):CtrL prog 130 #[.slice c l.length g] [] (fun G=>sl Rp.str G c g l) (fun G L v=>∃ u A k,L=[(7000,k)]/\v = .slice u r.length A/\RowR Rp.str 9 G (.slice u r.length A) r k):=by
 refine bg' (args:=[_]) (N:=8) func130 z z z (fun t d x m=>?_)
 have h:=m
 refine sr<|sx0 z z<|n'<|sr<|mv z z<|yy (Y0.eqlNil H' z z) z<|nx<|dD' (p:=c=none) z (fun f=>?_) (fun f=>?_)
 .replace hr:=hr.1 (SlR.Zje h f)
  refine sr<|sx0 z z<|j'<|a' ?_
  obtain rfl:_=r:=hr
  refine aK' (S':=St t d d [(7000,none)]) (wk (lw ln))<|k' z z ⟨_,_,_,z,z,(RowR.nil (r:=Rp.str) (e:=9))⟩
 replace hr:=hr.2
 refine q'<|g'<|sr<|WL.litT (e:=9) (r:=Rp.str) (vs:=#[]) (cs:=[]) ([]:List ByteArray) 4005 z z z z z (by decide) (fun _=>by kernel_rfl) (z) fun E B s=>mv z z ?_
 obtain⟨q,hr⟩:=hr
 refine ct' (r:=Rp.str) (e:=9) 4005 z z H' el9 z (by decide) z z s z h q fun D C n y=>sx0 z z<|j' ?_
 obtain rfl:_=r:=hr
 refine aK' (S':=St t d d [(7000,n)]) ?_ ?_
 .intro w o
  have o:=o.rekey (i:=4005) (j:=7000) z (by rw[x]; rfl)
  exact o.weaken (lc z ln)
 exact k' z z ⟨_,_,_,z,z,y⟩
theorem gt'{l c o q s t h k d g r}(hr:(ZfB l c).Ret r):Ctr prog 85 #[.agg ((v31' l o q s t h k)).toArray,.agg ((v48' c d g)).toArray] (fun G=>sl Rp.str G o q l.vars/\sl b' G s t l.eqs/\sl b' G h k l.neqs/\sl K' G d g c.p) (w31t' r):=by
 refine E' (args:=[_,_]) (N:=55) func85 z z z (fun w0 G0 F aO=>?_)
 obtain⟨D,R,L,ad⟩:=aO
 have hz:w0.L.zero:=by rw[F]; intro p hp; simp at hp
 refine sr<|af' 117002 z z z fun b1=>af' 117003 z z z fun b2=>V' 4 z z31 z fun b3=>sg z z<|nr<|yy (aH' z) z<|yy (f' 117002 bC' z z z) z<|yy (M' H' D z) z<|V' 117006 z z3 z fun b4=>aC' 117006 ([i' (l.vars.length:Int)]).toArray z sz3 z z z (by first|decide|simp) z z<|nx<|n'<|bG' 117006 z (by rw[F]; rfl) fun bS y av aU=>bG' 117003 z (by rw[F]; rfl) fun bP n ar a0=>bG' 117002 z (by rw[F]; rfl) fun bf A aP aK=>A'<|yy (bQ' z z) z ?_
 obtain⟨bd,aQ,hr⟩:=hr
 refine P' z z (t' E121 z) (by' aQ) z ((show FnRd prog fa0 foB bf (.func (.func 122) #[] #[pt0 b4]) () (fun _=>ZaC (l.vars.length:Int)) from (dr' E122 (fun x hx=>ds' (fl' _ _ x hx) (fun G' m=>(I' (ck' (r:=(Rp.int .i64)) (cs:=[i' (l.vars.length:Int)]) av z z) (mt (mt n A) m))))))) (fun bv a9 C an=>?_)
 obtain⟨bx,bB,rfl,ay⟩:=an
 refine yy (bQ' z z) z ?_
 obtain⟨bb,aZ,hr⟩:=hr
 refine P' z z (t' E121 z) (by' aZ) z ((show FnRd prog fa0 foB a9 (.func (.func 123) #[] #[pt0 b2,pt0 b4]) () (fun _=>Zal c (l.vars.length:Int)) from (dr' E123 (fun x hx=>ds' (fn' _ _ _ _ x hx) (fun G' m=>⟨(I' (ck' (r:=ab') (cs:=(v48' c d g)) ar z ⟨[i' c.kind],[.string c.name,i' c.at',i' c.to',i' c.id,.slice d c.p.length g,.bool c.neq],z,z,⟨[.string c.name],[i' c.at',i' c.to',i' c.id,.slice d c.p.length g,.bool c.neq],z,z,⟨[i' c.at'],[i' c.to',i' c.id,.slice d c.p.length g,.bool c.neq],z,z,⟨[i' c.to'],[i' c.id,.slice d c.p.length g,.bool c.neq],z,z,⟨[i' c.id],[.slice d c.p.length g,.bool c.neq],z,z,⟨[.slice d c.p.length g],[.bool c.neq],z,⟨_,z,(ad.mono (mt y n))⟩,z⟩⟩⟩⟩⟩⟩) (mt (mt A C) m)),(I' (ck' (r:=(Rp.int .i64)) (cs:=[i' (l.vars.length:Int)]) av z z) (mt (mt (mt n A) C) m))⟩))))) (fun bp ba I af=>?_)
 obtain⟨bM,bH,rfl,aD⟩:=af
 refine yy (bQ' z z) z ?_
 obtain⟨be,a1,hr⟩:=hr
 have N1:=mt (mt y n) A
 refine P' z z (t' E121 z) (by' a1) z ((show FnRd prog fa0 foB ba (.func (.func 124) #[] #[pt0 b2,pt0 b1]) () (fun _=>ZaD c l) from (dr' E124 (fun x hx=>ds' (fp' _ _ _ _ x hx) (fun G' m=>⟨(I' (ck' (r:=ab') (cs:=(v48' c d g)) ar z ⟨[i' c.kind],[.string c.name,i' c.at',i' c.to',i' c.id,.slice d c.p.length g,.bool c.neq],z,z,⟨[.string c.name],[i' c.at',i' c.to',i' c.id,.slice d c.p.length g,.bool c.neq],z,z,⟨[i' c.at'],[i' c.to',i' c.id,.slice d c.p.length g,.bool c.neq],z,z,⟨[i' c.to'],[i' c.id,.slice d c.p.length g,.bool c.neq],z,z,⟨[i' c.id],[.slice d c.p.length g,.bool c.neq],z,z,⟨[.slice d c.p.length g],[.bool c.neq],z,⟨_,z,(ad.mono (mt y n))⟩,z⟩⟩⟩⟩⟩⟩) (mt (mt (mt A C) I) m)),(I' (ck' (r:=aR') (cs:=(v31' l o q s t h k)) aP z ⟨[.slice o l.vars.length q],[.slice s l.eqs.length t,.slice h l.neqs.length k,i' l.next],z,⟨_,z,(D.mono N1)⟩,⟨[.slice s l.eqs.length t],[.slice h l.neqs.length k,i' l.next],z,⟨_,z,(R.mono N1)⟩,⟨[.slice h l.neqs.length k],[i' l.next],z,⟨_,z,(L.mono N1)⟩,z⟩⟩⟩) (mt (mt C I) m))⟩))))) (fun br bO O aq=>?_)
 obtain⟨bC,bK,rfl,aw⟩:=aq
 obtain⟨aA,V,rfl⟩:=ch' ay
 obtain⟨ae,M,rfl⟩:=ch' aD
 obtain⟨Q,J,rfl⟩:=ch' aw
 refine bd' (e:=178) (r:=(Rp.fn prog fa0 foI)) (vs:=#[(0,(.func (.func aA) #[] V)),(1,(.func (.func ae) #[] M)),(2,(.func (.func Q) #[] J))]) (cs:=[(.func (.func aA) #[] V)]++([(.func (.func ae) #[] M)]++([(.func (.func Q) #[] J)]++([])))) ([bd,bb,be]:List (Unit->Cq Int)) z z z z z (by decide) (fun _=>by kernel_rfl) ⟨[(.func (.func aA) #[] V)],[(.func (.func ae) #[] M)]++([(.func (.func Q) #[] J)]++([])),z,⟨_,z,(ay.mono (mt I O))⟩,⟨[(.func (.func ae) #[] M)],[(.func (.func Q) #[] J)]++([]),z,⟨_,z,(aD.mono O)⟩,⟨[(.func (.func Q) #[] J)],[],z,⟨_,z,aw⟩,z⟩⟩⟩ (key:=999) z (by rw[F]; rfl) (fun p1 bU aE a6=>?_)
 obtain⟨bV,aM,hr⟩:=hr
 refine F' z z (t' E120 z) (cT' aM) z (a6)<|sg z z<|dd' 117002 z aK (mt y n) (mt (mt (mt (mt A C) I) O) aE)<|dd' 117003 z a0 y n<|dd' 117006 z aU mr y<|nx<|n'<|sr<|mv z z<|yy (aw' z z) z<|nx<|L' hr z (fun bg hr=>?_) (fun bg hr=>?_)
 .refine sr<|yy (av' (vs:=#[]) (v:=.agg ([.slice none 0 0,.slice none 0 0,.slice none 0 0,i' 0]).toArray) z z (fun _=>by kernel_rfl)) z<|mv z z<|s' 4 z aV' z z z z z (List.all_eq_true.1 z)<|sx0 z z<|j'<|a' ?_
  obtain rfl:_=r:=hr
  exact aE' z (aa' (i:=4) at' z z z) z ⟨_,_,_,_,_,_,z,(W' Rp.str _),(W' b' _),(W' b' _)⟩
 refine q'<|g'<|sr ?_
 obtain⟨aC,aY,hr⟩:=hr
 refine F' z z (t' E127 z) (ee' aY) z (trivial)<|V' 8 z z119 z fun b5=>s' 8 z sz119 z z z (ac' _ _ _) (ac' _ _ _) (fun u hu=>Rp.one (dw' .i64 8) (G:=G0) (x:=aC) (cs:=vecG (Value.int .i64) 8 aC) z u (by first|simpa using hu|simpa [Value.cells] using hu))<|nx<|n'<|sr<|yy (aJ' z) z<|yy (f' 117003 sc3 z z z) z<|sx0 z z<|am' (fun (⟨E,U⟩:(Fin 8->Int)×Mem)=>[(2,pt0 b1),(3,pt0 b2),(4,pt0 b3),(6,pt0 b4),(8,pt0 b5)]) (fun ⟨E,U⟩=>Mem.le G0 U/\(Zdg l c E).Ret r) (fun ⟨E,U⟩=>St w0 G0 U [(117002,bk0 b1 (v31' l o q s t h k) 31),(117003,bk0 b2 (v48' c d g) 48),(4,bk0 b3 ([.slice none 0 0,.slice none 0 0,.slice none 0 0,i' 0]) 31),(117006,bk0 b4 ([i' (l.vars.length:Int)]) 3),(8,bk0 b5 (vecG (Value.int .i64) 8 E) 119)]) ?_ ?_
 .refine B' ?_
  let au:(Fin 8->Int)->Prop:=fun oo=>((fun ov=>match ov with|E=>Zdg l c E:(Fin 8->Int)->Cq (Za×Int)) oo).wp (fun a=>a=r)
  replace hr:(Cq.loop _ _).wp au:=hr
  refine an' (Φ:=au) (fun (⟨K,B,H⟩:Int×(Fin 8->Int)×Mem)=>((K,B):Int×(Fin 8->Int))) (fun ⟨K,B,H⟩=>[(2,pt0 b1),(3,pt0 b2),(4,pt0 b3),(6,pt0 b4),(8,pt0 b5),(9,i' K)]) (fun ⟨K,B,H⟩=>Mem.le G0 H) (fun ⟨K,B,H⟩=>St w0 G0 H [(117002,bk0 b1 (v31' l o q s t h k) 31),(117003,bk0 b2 (v48' c d g) 48),(4,bk0 b3 ([.slice none 0 0,.slice none 0 0,.slice none 0 0,i' 0]) 31),(117006,bk0 b4 ([i' (l.vars.length:Int)]) 3),(8,bk0 b5 (vecG (Value.int .i64) 8 B) 119)]) ⟨c.at',aC,G0⟩ hr (f6 z z z z z z) mr (w5 z z z z z) ?_
  .intro bR gx hx hr
   obtain⟨K,B,H⟩:=gx
   have ac:=hx
   refine n'<|sr<|mv z z<|yy (f' 117006 sc3 z z z) z<|yy (ai' z z) z<|nx<|L' hr z (fun bc hr=>?_) (fun bc hr=>?_)
   .refine q'<|g'<|n'<|B'<|A'<|mv z z<|mv z z<|yy (X' z z) z ?_
    obtain⟨bh,hr⟩:=hr
    refine yy (bi' be' sz3 z z bh) z<|aC' 8 (vecG (Value.int .i64) 8 (setF B K.toNat (i64.wrap (K+1)))).toArray z sz3 z z z (by first|(rw[ac']; omega)|(show _<(vecG _ _ _).toArray.size; rw[ac']; omega)) z (ci' _ _ _ _ _)<|u'<|J'<|g'<|A'<|mv z z<|yy (X' z z) z<|sg z z<|u'<|Y' ⟨i64.wrap (K+1),setF B K.toNat (i64.wrap (K+1)),H⟩ hr ac (f6 z z z z z z) (w5 z z z z z)
   refine ao'<|r'<|r'<|O'<|ap' ⟨B,H⟩ ⟨ac,hr⟩ (f5 z z z z z) (w5 z z z z z)
 rintro⟨E,U⟩ ⟨P,hr⟩
 refine g'<|sr<|yy (f' 117006 sc3 z z z) z<|yy (aJ' z) z<|yy (f' 117003 sc3 z z z) z ?_
 obtain⟨a7,hr⟩:=hr
 refine yy (bi' be' sz3 z z a7) z<|aC' 8 (vecG (Value.int .i64) 8 (setF E ((l.vars.length:Int).toNat) c.at')).toArray z sz3 z z z (by first|(rw[ac']; omega)|(show _<(vecG _ _ _).toArray.size; rw[ac']; omega)) z (ci' _ _ _ _ _)<|nr<|yy (o' 117002 at' z z z) z<|yy (o' 8 ag119 z z (ac' _ _ _)) z ?_
 obtain⟨az,a2,hr⟩:=hr
 refine P' z z (t' E128 z) (ep' a2) z (⟨(D.mono P),(R.mono P),(L.mono P)⟩) (fun bF bL bj am=>?_)
 obtain⟨aL,aV,ak,aj,Y,X,rfl,W,ai,Z⟩:=am
 refine s' 117002 z aV' z z z z z (List.all_eq_true.1 z)<|nx<|n'<|ah' [ff,ff,ff,ff,ff,ff,ff,ff] mix (by kernel_rfl) fun hb=>cn (fun _ m=>aH' z)<|cn (fun _ m=>f' 117002 bC' z z z) ?_
 obtain⟨a8,aX,hr⟩:=hr
 refine Chain.callOwn (f:=130) (r:=Rp.str) (e:=9) (xs:=a8) (fun _=>z) (fun u G' m hu=>?_) ?_
 .exact⟨_,_,_,fun _=>t' E130 z,co' aX,z,(W.mono m)⟩
 refine cu (fun _ _ m=>aJ' z)<|cu (fun _ _ m=>f' 117003 sc3 z z z)<|cu (fun _ _ m=>ca' z)<|cu (fun _ _ m=>f' 117003 sc9 z z z)<|eE' (r:=Rp.str) (e:=9) ([c.name]:List ByteArray) (fun _=>z) z (by decide) (fun u G' m hu=>?_) ?_
 .exact⟨#[(0,.string c.name)],[.string c.name]++([]),z,z,fun _=>by kernel_rfl,⟨[.string c.name],[],z,z,z⟩⟩
 refine eg' (fun bs bA X1 ax ag ap=>?_)
 obtain⟨p2,bT,rfl,bk⟩:=ag
 refine WL.adoptR ap (fun bo bN bn aW aT bJ=>?_)
 subst aW
 refine cf' (show WL _ _ _ _ _ _ (St w0 G0 X1.m _) from ?_)
 obtain⟨bi,aN,hr⟩:=hr
 refine bK' (fun w hs=>hs.rekey (i:=46) (j:=5000) z (by rw[F]; rfl))<|cN' z z (t' E129 z) (el' aN) z (⟨aT,bk⟩) (lc z ln) hz (fun bE bt bD S al=>?_)
 obtain⟨a3,a5,bm,rfl,rfl,aR⟩:=al
 refine bK' (fun w hs=>hs.rekey (i:=5000) (j:=4052) z (by rw[F]; rfl))<|bn' (r:=Rp.str) (e:=9) 4052 aR z (by rw[F]; rfl) fun bQ bw T aS bl=>yy (aH' z) z<|aC' 117002 ([.slice a3 bi.length a5,.slice ak az.eqs.length aj,.slice Y az.neqs.length X,i' az.next]).toArray z sz28 z z z (show 0<4 by decide) z z<|u'<|aq'<|g'<|sr<|yy (o' 117002 at' z z z) z<|s' 4 z aV' z z z z z (List.all_eq_true.1 z)<|sx0 z z<|j' ?_
 obtain rfl:_=r:=hr
 exact aE' z (aa' (i:=4) at' z z z) z ⟨_,_,_,_,_,_,z,aS,(ai.mono (mt (mt ax S) T)),(Z.mono (mt (mt ax S) T))⟩
theorem cC'{g o s r}(hr:(ZS g).Ret r):Ctr prog 132 #[.slice o g.length s] (fun G=>sl (Rp.sl b') G o s g) (wl' b' r):=by
 refine E' (args:=[_]) (N:=36) func132 z z z (fun P K L W=>?_)
 have q:=W
 have hz:P.L.zero:=by rw[L]; intro p hp; simp at hp
 refine sr<|sg z z<|nr<|sx0 z z<|n'<|sr<|mv z z<|yy (M' cl' q z) z<|mv z z<|nx<|am' (fun (⟨v,J⟩:Int×Mem)=>[(0,.slice o g.length s),(3,i' v)]) (fun ⟨v,J⟩=>Mem.le K J/\(ZC g v).Ret r) (fun ⟨v,J⟩=>St P K J []) ?_ ?_
 .refine B' ?_
  let R:Int->Prop:=fun oo=>((fun ov=>match ov with|v=>ZC g v:Int->Cq (List Zb)) oo).wp (fun a=>a=r)
  replace hr:(Cq.loop _ _).wp R:=hr
  refine an' (Φ:=R) (fun (⟨t,x,B⟩:Int×Int×Mem)=>((t,x):Int×Int)) (fun ⟨t,x,B⟩=>[(0,.slice o g.length s),(3,i' t),(9,.slice o g.length s),(10,i' (g.length:Int)),(11,i' x)]) (fun ⟨t,x,B⟩=>Mem.le K B) (fun ⟨t,x,B⟩=>St P K B []) ⟨0,0,K⟩ hr (f5 z z z z z) mr (wk ln) ?_
  .intro aI gx hx hr
   obtain⟨t,x,B⟩:=gx
   have C:=hx
   refine sr<|yy (ai' z z) z<|nx<|n'<|L' hr z (fun am hr=>?_) (fun am hr=>?_)
   .refine q'<|g'<|n'<|B'<|sr ?_
    obtain⟨x2,U,hr⟩:=hr
    refine yy (T' cl' sz29 (q.mono C) z z U) z ?_
    obtain⟨p3,aH,ak,ap⟩:=bF' (I' (ae' q U) C)
    refine yy (Z' br' z (ak)) z<|sg z z<|nr<|mv z z<|mv z z<|yy (M' w' ap z) z<|yy (X' z z) z<|sg z z<|nr<|mv z z<|yy (ai' z z) z<|nx<|L' hr z (fun aj hr=>?_) (fun aj hr=>?_)
    .exact (show False from hr).elim
    refine q'<|J'<|g'<|A'<|yy (X' z z) z<|mv z z<|u'<|Y' ⟨i64.wrap (t+(x2.length:Int)),i64.wrap (x+1),B⟩ hr C (f5 z z z z z) (wk ln)
   refine ao'<|r'<|r'<|O'<|ap' ⟨t,B⟩ ⟨C,hr⟩ (f2 z z) (wk ln)
 rintro⟨v,J⟩ ⟨I,hr⟩
 refine g'<|sr<|mv z z ?_
 obtain⟨an,ac,hr⟩:=hr
 refine cN' z z (t' E172 z) (dp' ac) z trivial ln hz (fun aA Q aC F M=>?_)
 obtain⟨Z,af,T,rfl,rfl,aa⟩:=M
 refine bK' (fun w S=>S.rekey (i:=7000) (j:=4024) z (by rw[L]; rfl))<|sx0 z z<|n'<|sr<|mv z z<|yy (M' cl' (q.mono (mt I F)) z) z<|mv z z<|nx<|am' (fun (⟨d,m,n,l,E⟩:(List Zb)×Option Addr×Nat×Option Ow×Mem)=>[(6,.slice m d.length n)]) (fun ⟨d,m,n,l,E⟩=>Mem.le Q E/\RowR b' 110 E (.slice m d.length n) d l/\(ZO d).Ret r) (fun ⟨d,m,n,l,E⟩=>St P K E [(4006,l)]) ?_ ?_
 .refine B' ?_
  let O:(List Zb)->Prop:=fun oo=>((fun ov=>match ov with|d=>ZO d:(List Zb)->Cq (List Zb)) oo).wp (fun a=>a=r)
  replace hr:(Cq.loop _ _).wp O:=hr
  refine an' (Φ:=O) (fun (⟨c,k,h,f,u,A⟩:(List Zb)×Option Addr×Nat×Option Ow×Int×Mem)=>((c,u):(List Zb)×Int)) (fun ⟨c,k,h,f,u,A⟩=>[(6,.slice k c.length h),(25,.slice o g.length s),(26,i' (g.length:Int)),(27,i' u)]) (fun ⟨c,k,h,f,u,A⟩=>Mem.le Q A/\RowR b' 110 A (.slice k c.length h) c f) (fun ⟨c,k,h,f,u,A⟩=>St P K A [(4006,f)]) ⟨an,Z,af,T,0,Q⟩ hr (f4 z z z z) ⟨mr,aa⟩ ?_ ?_
  .intro w S
   have S:=S.rekey (i:=4024) (j:=4006) z (by rw[L]; rfl)
   exact S.weaken (lc z ln)
  intro aG gx hx hr
  obtain⟨c,k,h,f,u,A⟩:=gx
  obtain⟨D,y⟩:=hx
  refine sr<|yy (ai' z z) z<|nx<|n'<|L' hr z (fun ao hr=>?_) (fun ao hr=>?_)
  .refine q'<|g'<|n'<|B'<|sr ?_
   obtain⟨x1,V,hr⟩:=hr
   refine yy (T' cl' sz29 (q.mono (mt (mt I F) D)) z z V) z ?_
   obtain⟨p1,aD,al,ai⟩:=bF' (I' (ae' q V) (mt (mt I F) D))
   refine yy (Z' br' z (al)) z<|sx0 z z<|A'<|mv z z<|mv z z ?_
   obtain⟨Y,hr⟩:=hr
   refine ct' (r:=b') (e:=110) 4006 z z w' el110 z (by decide) z z y z ai Y fun p2 aq X ar=>sg z z<|u'<|J'<|g'<|A'<|yy (X' z z) z<|mv z z<|u'<|Y' ⟨(c++x1),p2,aq,X,i64.wrap (u+1),A⟩ hr ⟨D,ar⟩ (f4 z z z z) (w1 z)
  refine ao'<|r'<|r'<|O'<|ap' ⟨c,k,h,f,A⟩ ⟨D,y,hr⟩ (f1 z) (w1 z)
 rintro⟨d,m,n,l,E⟩ ⟨au,H,hr⟩
 refine g'<|sr<|mv z z<|sx0 z z<|j' ?_
 obtain rfl:_=r:=hr
 refine WE.freezeT (r:=b') (e:=110) 4006 H z (by rw[L]; rfl) fun aF aE aw ae av=>k' z z ⟨_,_,z,ae⟩
theorem fi'(c:Za)(q:Zc)(M:Nat)(J:Nat)(r:Bool)(hr:(Zav c q).Ret r):Ctr prog 131 #[pt0 M,pt0 J] (fun G=>At aR' G M 0 c/\At ab' G J 0 q) (fun G v=>v = .bool r):=by
 refine E' (args:=[_,_]) (N:=25) func131 z z z (fun P V R E=>?_)
 obtain⟨l,t⟩:=E
 refine sr<|sx0 z z<|n'<|sr<|yy (aY' z) z ?_
 obtain⟨D,s,Q,L⟩:=bF' (aW' (ax' (ay' l)))
 refine yy (Z' br' z (Q)) z<|yy (ba' z) z ?_
 obtain⟨u,m,X,W⟩:=bF' (aW' (ax' (ax' (ay' l))))
 refine yy (Z' br' z (X)) z<|bd' (e:=29) (r:=(Rp.sl b')) (vs:=#[(0,.slice D c.eqs.length s),(1,.slice u c.neqs.length m)]) (cs:=[.slice D c.eqs.length s]++([.slice u c.neqs.length m]++([]))) ([c.eqs,c.neqs]:List (List Zb)) z z z z z (by decide) (fun _=>by kernel_rfl) ⟨[.slice D c.eqs.length s],[.slice u c.neqs.length m]++([]),z,⟨_,z,L⟩,⟨[.slice u c.neqs.length m],[],z,⟨_,z,W⟩,z⟩⟩ (key:=999) z (by rw[R]; rfl) (fun p3 ah y U=>?_)
 obtain⟨A,H,hr⟩:=hr
 refine P' z z (t' E132 z) (cC' H) z (U) (fun ab p x n=>?_)
 obtain⟨C,F,rfl,k⟩:=n
 refine yy (M' w' k z) z<|mv z z<|nx<|am' (fun (j:Mem)=>match j with|i=>[]) (fun (j:Mem)=>match j with|i=>Mem.le p i/\(Zbg).Ret r) (fun (j:Mem)=>match j with|i=>St P V i []) ?_ ?_
 .refine B' ?_
  let o:(Bool⊕Unit)->Prop:=fun oo=>((fun ov=>match ov with | .inl rv1=>Cq.ret rv1 | .inr ()=>Zbg:(Bool⊕Unit)->Cq Bool) oo).wp (fun a=>a=r)
  replace hr:(Cq.loop _ _).wp o:=hr
  refine an' (Φ:=o) (fun (⟨d,g⟩:Int×Mem)=>(d:Int)) (fun ⟨d,g⟩=>[(1,pt0 J),(10,.slice C A.length F),(11,i' (A.length:Int)),(12,i' d)]) (fun ⟨d,g⟩=>Mem.le p g) (fun ⟨d,g⟩=>St P V g []) ⟨0,p⟩ hr (f4 z z z z) mr (wk ln) ?_
  .intro ai j hx hr
   obtain⟨d,g⟩:=j
   have f:=hx
   refine sr<|yy (ai' z z) z<|nx<|n'<|L' hr z (fun T hr=>?_) (fun T hr=>?_)
   .refine q'<|g'<|n'<|B'<|sr ?_
    obtain⟨x1,B,hr⟩:=hr
    refine yy (T' w' aT' (k.mono f) z z B) z ?_
    obtain⟨aa,ae,O,I⟩:=bq' (I' (ae' k B) f)
    refine yy (aA' _ bM' z z O) z<|V' 4 z z110 z fun b3=>s' 4 z aT' z z z z z (List.all_eq_true.1 z)<|nx<|n'<|ah' [ff,ff,ff,ff,ff,ff] mix (by kernel_rfl) fun hb=>cn (fun _ h=>bX' z)<|cn (fun _ h=>f' 4 cF' z z z) ?_
    obtain⟨aj,K,hr⟩:=hr
    refine bD' z (fun _=>t' E78 z) (cZ' K) z (fun G' h=>(I.mono h))<|cn (fun _ h=>aJ' z)<|cn (fun _ h=>Z' sc3 z (aF' (I' (I' (aW' (ax' (ax' (ay' t)))) (mt (mt y x) f)) h))) ?_
    obtain⟨Y,hr⟩:=hr
    refine cn (fun _ h=>Y0.shl z z Y)<|R' hb<|yy (Y0.and z z) z<|yy (aw' z z) z<|u'<|aq'<|g'<|L' hr z (fun S hr=>?_) (fun S hr=>?_)
    .refine sr<|sx0 z z<|j'<|m'<|a'<|a'<|m'<|ag'<|a' (k0' hr z z)
    refine q'<|J'<|g'<|A'<|yy (X' z z) z<|mv z z<|u'<|Y' ⟨i64.wrap (d+1),g⟩ hr f (f4 z z z z) (wk ln)
   refine ao'<|r'<|r'<|O'<|ap' g ⟨f,hr⟩ fn (wk ln)
 rintro i ⟨Z,hr⟩
 refine g'<|sr<|sx0 z z<|j' (k0' hr z z)
theorem fC'(d:Int)(e:Za)(i:Nat)(j:Nat)(r:Bool)(hr:(ZX d e).Ret r):Ctr prog 173 #[pt0 i,pt0 j] (fun G=>At (Rp.int .i64) G i 0 d/\At aR' G j 0 e) (fun G v=>v = .bool r):=by
 refine E' (args:=[_,_]) (N:=12) func173 z z z (fun q o m g=>?_)
 obtain⟨c,f⟩:=g
 refine sr<|sg z z<|nr<|yy (Z' sc3 z (aF' c)) z<|ad' hr z (bN' z z) z (fun k hr=>?_) (fun k hr=>?_)
 .refine mv z z<|gy z z (Z' sc3 z (aF' c)) z<|gy z z (aH' z) z ?_
  obtain⟨p,n,l,h⟩:=bF' (aW' (ay' f))
  refine gy z z (Z' bC' z (l)) z<|gy z z (M' H' h z) z<|gy z z (ai' z z) z<|yy (h' z z) z<|sx0 z z<|j' (k0' hr z z)
 refine mv z z<|sn5 z<|yy (l' z z) z<|sx0 z z<|j' (k0' hr z z)
theorem eh'{i o h g e f c d r}(hr:(ZcL i o).Ret r):Ctr prog 133 #[.agg ((v31' i h g e f c d)).toArray,i' o] (fun G=>y31' G h g e f c d i) (fun G v=>∃ A E,v=A/\FnRd prog fa0 foB G A E r):=by
 refine E' (args:=[_,_]) (N:=6) func133 z z z (fun K L p u=>?_)
 obtain⟨l,n,m⟩:=u
 refine sr<|af' 126602 z z z fun B=>af' 126603 z z z fun D=>sx0 z z<|n'<|bG' 126603 z (by rw[p]; rfl) fun I k t C=>bG' 126602 z (by rw[p]; rfl) fun y j s H=>A'<|yy (bQ' z z) z<|sx0 z z<|j' ?_
 obtain rfl:_=r:=hr
 exact k' z z ⟨_,_,z,(show FnRd prog fa0 foB y (.func (.func 173) #[] #[pt0 D,pt0 B]) () (fun _=>ZX o i) from (dr' E173 (fun x F=>ds' (fC' _ _ _ _ x F) (fun J q=>⟨(I' (ck' (r:=(Rp.int .i64)) (cs:=[i' o]) t z z) (mt j q)),(I' (ck' (r:=aR') (cs:=(v31' i h g e f c d)) s z ⟨[.slice h i.vars.length g],[.slice e i.eqs.length f,.slice c i.neqs.length d,i' i.next],z,⟨_,z,(l.mono (mt k j))⟩,⟨[.slice e i.eqs.length f],[.slice c i.neqs.length d,i' i.next],z,⟨_,z,(n.mono (mt k j))⟩,⟨[.slice c i.neqs.length d],[i' i.next],z,⟨_,z,(m.mono (mt k j))⟩,z⟩⟩⟩) q)⟩))))⟩
theorem gi'{o c m n q s d g h k r}(hr:(ZeA o c).Ret r):Ctr prog 86 #[.agg ((v31' o m n q s d g)).toArray,.agg ((v48' c h k)).toArray] (fun G=>sl Rp.str G m n o.vars/\sl b' G q s o.eqs/\sl b' G d g o.neqs/\sl K' G h k c.p) (w31t' r):=by
 refine E' (args:=[_,_]) (N:=60) func86 z z z (fun w0 U I aE=>?_)
 obtain⟨y,F,C,aw⟩:=aE
 have hz:w0.L.zero:=by rw[I]; intro p hp; simp at hp
 refine sr<|af' 117202 z z z fun b1=>af' 117203 z z z fun b2=>V' 4 z z31 z fun b3=>sg z z<|nr<|yy (aH' z) z<|yy (f' 117202 bC' z z z) z<|yy (M' H' y z) z<|sx0 z z<|n'<|bG' 117202 z (by rw[I]; rfl) fun bJ l aA aM=>bG' 117203 z (by rw[I]; rfl) fun a5 A az aT=>A'<|yy (bQ' z z) z<|sg z z<|nr<|yy (o' 117202 at' z z z) z<|yy (aJ' z) z<|yy (f' 117203 sc3 z z z) z ?_
 obtain⟨bE,aI,hr⟩:=hr
 refine P' z z (t' E133 z) (eh' aI) z (⟨(y.mono (mt l A)),(F.mono (mt l A)),(C.mono (mt l A))⟩) (fun bj bI Y ah=>?_)
 obtain⟨bk,bn,rfl,aF⟩:=ah
 obtain⟨a2,aR,hr⟩:=hr
 refine P' z z (t' E121 z) (by' aR) z (aF) (fun bd bB Z ab=>?_)
 obtain⟨bz,bt,rfl,ar⟩:=ab
 refine mv z z ?_
 obtain⟨a4,aU,hr⟩:=hr
 refine P' z z (t' E121 z) (by' aU) z (((show FnRd prog fa0 foB a5 (.func (.func 131) #[] #[pt0 b1,pt0 b2]) () (fun _=>Zav o c) from (dr' E131 (fun x hx=>ds' (fi' _ _ _ _ x hx) (fun G' t=>⟨(I' (ck' (r:=aR') (cs:=(v31' o m n q s d g)) aA z ⟨[.slice m o.vars.length n],[.slice q o.eqs.length s,.slice d o.neqs.length g,i' o.next],z,⟨_,z,(y.mono l)⟩,⟨[.slice q o.eqs.length s],[.slice d o.neqs.length g,i' o.next],z,⟨_,z,(F.mono l)⟩,⟨[.slice d o.neqs.length g],[i' o.next],z,⟨_,z,(C.mono l)⟩,z⟩⟩⟩) (mt A t)),(I' (ck' (r:=ab') (cs:=(v48' c h k)) az z ⟨[i' c.kind],[.string c.name,i' c.at',i' c.to',i' c.id,.slice h c.p.length k,.bool c.neq],z,z,⟨[.string c.name],[i' c.at',i' c.to',i' c.id,.slice h c.p.length k,.bool c.neq],z,z,⟨[i' c.at'],[i' c.to',i' c.id,.slice h c.p.length k,.bool c.neq],z,z,⟨[i' c.to'],[i' c.id,.slice h c.p.length k,.bool c.neq],z,z,⟨[i' c.id],[.slice h c.p.length k,.bool c.neq],z,z,⟨[.slice h c.p.length k],[.bool c.neq],z,⟨_,z,(aw.mono (mt l A))⟩,z⟩⟩⟩⟩⟩⟩) t)⟩)))).mono (mt Y Z))) (fun bf bC V aj=>?_)
 obtain⟨bo,bw,rfl,al⟩:=aj
 obtain⟨ao,P,rfl⟩:=ch' ar
 obtain⟨X,J,rfl⟩:=ch' al
 refine bd' (e:=178) (r:=(Rp.fn prog fa0 foI)) (vs:=#[(0,(.func (.func ao) #[] P)),(1,(.func (.func X) #[] J))]) (cs:=[(.func (.func ao) #[] P)]++([(.func (.func X) #[] J)]++([]))) ([a2,a4]:List (Unit->Cq Int)) z z z z z (by decide) (fun _=>by kernel_rfl) ⟨[(.func (.func ao) #[] P)],[(.func (.func X) #[] J)]++([]),z,⟨_,z,(ar.mono V)⟩,⟨[(.func (.func X) #[] J)],[],z,⟨_,z,al⟩,z⟩⟩ (key:=999) z (by rw[I]; rfl) (fun p1 bD ax aY=>?_)
 obtain⟨bK,aC,hr⟩:=hr
 refine F' z z (t' E120 z) (cT' aC) z (aY)<|sg z z<|dd' 117203 z aT l (mt (mt (mt (mt A Y) Z) V) ax)<|dd' 117202 z aM mr l<|nx<|n'<|sr<|mv z z<|yy (aw' z z) z<|nx<|L' hr z (fun a6 hr=>?_) (fun a6 hr=>?_)
 .refine sr<|yy (av' (vs:=#[]) (v:=.agg ([.slice none 0 0,.slice none 0 0,.slice none 0 0,i' 0]).toArray) z z (fun _=>by kernel_rfl)) z<|mv z z<|s' 4 z aV' z z z z z (List.all_eq_true.1 z)<|sx0 z z<|j'<|a' ?_
  obtain rfl:_=r:=hr
  exact aE' z (aa' (i:=4) at' z z z) z ⟨_,_,_,_,_,_,z,(W' Rp.str _),(W' b' _),(W' b' _)⟩
 refine q'<|g'<|sr ?_
 obtain⟨aa,aQ,hr⟩:=hr
 refine F' z z (t' E127 z) (ee' aQ) z (trivial)<|V' 9 z z119 z fun b4=>s' 9 z sz119 z z z (ac' _ _ _) (ac' _ _ _) (fun u hu=>Rp.one (dw' .i64 8) (G:=U) (x:=aa) (cs:=vecG (Value.int .i64) 8 aa) z u (by first|simpa using hu|simpa [Value.cells] using hu))<|nr<|yy (aJ' z) z<|yy (f' 117203 sc3 z z z) z<|mv z z<|yy (bj' z z) z ?_
 obtain⟨aZ,hr⟩:=hr
 refine yy (bi' be' sz3 z z aZ) z<|aC' 9 (vecG (Value.int .i64) 8 (setF aa c.at'.toNat (i64.wrap ((o.vars.length:Int)-1)))).toArray z sz3 z z z (by first|(rw[ac']; omega)|(show _<(vecG _ _ _).toArray.size; rw[ac']; omega)) z (ci' _ _ _ _ _)<|nx<|n'<|sr<|yy (aJ' z) z<|yy (f' 117203 sc3 z z z) z<|yy (X' z z) z<|sx0 z z<|am' (fun (⟨E,O⟩:(Fin 8->Int)×Mem)=>[(2,pt0 b1),(3,pt0 b2),(4,pt0 b3),(9,pt0 b4)]) (fun ⟨E,O⟩=>Mem.le U O/\(ZcK o c E).Ret r) (fun ⟨E,O⟩=>St w0 U O [(117202,bk0 b1 (v31' o m n q s d g) 31),(117203,bk0 b2 (v48' c h k) 48),(4,bk0 b3 ([.slice none 0 0,.slice none 0 0,.slice none 0 0,i' 0]) 31),(9,bk0 b4 (vecG (Value.int .i64) 8 E) 119)]) ?_ ?_
 .refine B' ?_
  let ak:(Fin 8->Int)->Prop:=fun oo=>((fun ov=>match ov with|E=>ZcK o c E:(Fin 8->Int)->Cq (Za×Int)) oo).wp (fun a=>a=r)
  replace hr:(Cq.loop _ _).wp ak:=hr
  refine an' (Φ:=ak) (fun (⟨H,B,D⟩:Int×(Fin 8->Int)×Mem)=>((H,B):Int×(Fin 8->Int))) (fun ⟨H,B,D⟩=>[(2,pt0 b1),(3,pt0 b2),(4,pt0 b3),(6,i' (o.vars.length:Int)),(9,pt0 b4),(10,i' H)]) (fun ⟨H,B,D⟩=>Mem.le U D) (fun ⟨H,B,D⟩=>St w0 U D [(117202,bk0 b1 (v31' o m n q s d g) 31),(117203,bk0 b2 (v48' c h k) 48),(4,bk0 b3 ([.slice none 0 0,.slice none 0 0,.slice none 0 0,i' 0]) 31),(9,bk0 b4 (vecG (Value.int .i64) 8 B) 119)]) ⟨i64.wrap (c.at'+1),setF aa c.at'.toNat (i64.wrap ((o.vars.length:Int)-1)),U⟩ hr (f6 z z z z z z) mr (w4 z z z z) ?_
  .intro bG gx hx hr
   obtain⟨H,B,D⟩:=gx
   have W:=hx
   refine n'<|sr<|mv z z<|mv z z<|yy (ai' z z) z<|nx<|L' hr z (fun a3 hr=>?_) (fun a3 hr=>?_)
   .refine q'<|g'<|n'<|B'<|A'<|mv z z<|mv z z<|yy (bj' z z) z ?_
    obtain⟨a7,hr⟩:=hr
    refine yy (bi' be' sz3 z z a7) z<|aC' 9 (vecG (Value.int .i64) 8 (setF B H.toNat (i64.wrap (H-1)))).toArray z sz3 z z z (by first|(rw[ac']; omega)|(show _<(vecG _ _ _).toArray.size; rw[ac']; omega)) z (ci' _ _ _ _ _)<|u'<|J'<|g'<|A'<|mv z z<|yy (X' z z) z<|sg z z<|u'<|Y' ⟨i64.wrap (H+1),setF B H.toNat (i64.wrap (H-1)),D⟩ hr W (f6 z z z z z z) (w4 z z z z)
   refine ao'<|r'<|r'<|O'<|ap' ⟨B,D⟩ ⟨W,hr⟩ (f4 z z z z) (w4 z z z z)
 rintro⟨E,O⟩ ⟨K,hr⟩
 refine g'<|sr<|yy (o' 117202 at' z z z) z<|yy (o' 9 ag119 z z (ac' _ _ _)) z ?_
 obtain⟨an,aV,hr⟩:=hr
 refine P' z z (t' E128 z) (ep' aV) z (⟨(y.mono K),(F.mono K),(C.mono K)⟩) (fun bp bH ba ag=>?_)
 obtain⟨aB,aN,af,ae,S,R,rfl,Q,ad,T⟩:=ag
 refine s' 117202 z aV' z z z z z (List.all_eq_true.1 z)<|nx<|n'<|ah' [ff,ff,ff,ff,ff,ff,ff,ff] mix (by kernel_rfl) fun hb=>cn (fun _ t=>aH' z)<|cn (fun _ t=>f' 117202 bC' z z z) ?_
 obtain⟨a0,aP,hr⟩:=hr
 refine Chain.callOwn (f:=130) (r:=Rp.str) (e:=9) (xs:=a0) (fun _=>z) (fun u G' t hu=>?_) ?_
 .exact⟨_,_,_,fun _=>t' E130 z,co' aP,z,(Q.mono t)⟩
 refine cu (fun _ _ t=>aJ' z)<|cu (fun _ _ t=>f' 117203 sc3 z z z)<|cu (fun _ _ t=>aJ' z)<|cu (fun _ _ t=>f' 117203 sc3 z z z)<|cu (fun _ _ t=>X' z z)<|Chain.tailX1 fun bm X1 am ai=>WL.adoptR ai (fun bc bA bb aO aL bv=>?_)
 subst aO
 refine cf' (show WL _ _ _ _ _ _ (St w0 U X1.m _) from ?_)
 obtain⟨a1,aH,hr⟩:=hr
 refine bK' (fun w hs=>hs.rekey (i:=51) (j:=5000) z (by rw[I]; rfl))<|cN' z z (t' E134 z) (em' aH) z (aL) (lc z ln) hz (fun bg bx br M ac=>?_)
 obtain⟨aG,aW,a8,rfl,rfl,aD⟩:=ac
 refine bK' (fun w hs=>hs.rekey (i:=5000) (j:=4057) z (by rw[I]; rfl))<|bn' (r:=Rp.str) (e:=9) 4057 aD z (by rw[I]; rfl) fun bF bh L aK a9=>yy (aH' z) z<|aC' 117202 ([.slice aG a1.length aW,.slice af an.eqs.length ae,.slice S an.neqs.length R,i' an.next]).toArray z sz28 z z z (show 0<4 by decide) z z<|u'<|aq'<|g'<|sr<|yy (o' 117202 at' z z z) z<|s' 4 z aV' z z z z z (List.all_eq_true.1 z)<|sx0 z z<|j' ?_
 obtain rfl:_=r:=hr
 exact aE' z (aa' (i:=4) at' z z z) z ⟨_,_,_,_,_,_,z,aK,(ad.mono (mt (mt am M) L)),(T.mono (mt (mt am M) L))⟩
theorem fq'(e:Za)(d:Zc)(k:Nat)(n:Nat)(r:Bool)(hr:(ZaE e d).Ret r):Ctr prog 135 #[pt0 k,pt0 n] (fun G=>At aR' G k 0 e/\At ab' G n 0 d) (fun G v=>v = .bool r):=by
 refine E' (args:=[_,_]) (N:=22) func135 z z z (fun t x q g=>?_)
 obtain⟨f,c⟩:=g
 refine sr<|sg z z<|nr<|yy (aH' z) z ?_
 obtain⟨u,s,m,j⟩:=bF' (aW' (ay' f))
 refine yy (Z' bC' z (m)) z<|yy (ca' z) z<|yy (Z' sc9 z (cb' (aW' (ax' (ay' c))))) z ?_
 obtain⟨p,h,hr⟩:=hr
 refine F' z z (t' E136 z) (cL' h) z (j)<|sg z z<|nr<|yy (ca' z) z<|yy (Z' sc9 z (cb' (aW' (ax' (ay' c))))) z ?_
 obtain⟨o,i,hr⟩:=hr
 refine F' z z (t' E125 z) (dY' i) z (trivial) ?_
 cases o
 .refine mv z z<|sn3 z<|N' (x' z z) z<|N' (x' z z) z<|N' (x' z z) z<|N' (x' z z) z<|sk z z z<|yy (l' z z) z<|sx0 z z<|j' (k0' hr z z)
 refine mv z z<|gy z z (e' z) z<|ad' hr (v' z z) (ai' z z) z (fun l hr=>?_) (fun l hr=>?_)
 .refine gy z z (e' z) z<|sn4 z<|gy z z (h' z z) z<|yy (h' z z) z<|sx0 z z<|j' (k0' hr z z)
 refine gy z z (e' z) z<|gy z z (e' z) z<|gy z z (aJ' z) z<|gy z z (Z' sc3 z (aF' (aW' (ax' (ax' (ay' c)))))) z<|gy z z (au' z z) z<|gy z z (l' z z) z<|yy (h' z z) z<|sx0 z z<|j' (k0' hr z z)
theorem gu'{n c o s l m d f h k r}(hr:(ZfC n c).Ret r):Ctr prog 87 #[.agg ((v31' n o s l m d f)).toArray,.agg ((v48' c h k)).toArray] (fun G=>sl Rp.str G o s n.vars/\sl b' G l m n.eqs/\sl b' G d f n.neqs/\sl K' G h k c.p) (w31t' r):=by
 refine E' (args:=[_,_]) (N:=34) func87 z z z (fun w0 G0 A ab=>?_)
 obtain⟨t,y,u,U⟩:=ab
 have hz:w0.L.zero:=by rw[A]; intro p hp; simp at hp
 refine sr<|af' 117402 z z z fun b1=>af' 117403 z z z fun b2=>V' 4 z z31 z fun b3=>sx0 z z<|n'<|bG' 117402 z (by rw[A]; rfl) fun aW g Z af=>bG' 117403 z (by rw[A]; rfl) fun ap q Y ai=>A'<|yy (bQ' z z) z<|sg z z<|nr<|yy (o' 117402 at' z z z) z<|yy (aJ' z) z<|yy (f' 117403 sc3 z z z) z ?_
 obtain⟨aS,ad,hr⟩:=hr
 refine P' z z (t' E133 z) (eh' ad) z (⟨(t.mono (mt g q)),(y.mono (mt g q)),(u.mono (mt g q))⟩) (fun aA aV H L=>?_)
 obtain⟨aB,aC,rfl,ac⟩:=L
 obtain⟨an,ah,hr⟩:=hr
 refine P' z z (t' E121 z) (by' ah) z (ac) (fun aw aP J K=>?_)
 obtain⟨aM,aI,rfl,T⟩:=K
 refine mv z z ?_
 obtain⟨ao,aj,hr⟩:=hr
 refine P' z z (t' E121 z) (by' aj) z (((show FnRd prog fa0 foB ap (.func (.func 135) #[] #[pt0 b1,pt0 b2]) () (fun _=>ZaE n c) from (dr' E135 (fun x hx=>ds' (fq' _ _ _ _ x hx) (fun G' W=>⟨(I' (ck' (r:=aR') (cs:=(v31' n o s l m d f)) Z z ⟨[.slice o n.vars.length s],[.slice l n.eqs.length m,.slice d n.neqs.length f,i' n.next],z,⟨_,z,(t.mono g)⟩,⟨[.slice l n.eqs.length m],[.slice d n.neqs.length f,i' n.next],z,⟨_,z,(y.mono g)⟩,⟨[.slice d n.neqs.length f],[i' n.next],z,⟨_,z,(u.mono g)⟩,z⟩⟩⟩) (mt q W)),(I' (ck' (r:=ab') (cs:=(v48' c h k)) Y z ⟨[i' c.kind],[.string c.name,i' c.at',i' c.to',i' c.id,.slice h c.p.length k,.bool c.neq],z,z,⟨[.string c.name],[i' c.at',i' c.to',i' c.id,.slice h c.p.length k,.bool c.neq],z,z,⟨[i' c.at'],[i' c.to',i' c.id,.slice h c.p.length k,.bool c.neq],z,z,⟨[i' c.to'],[i' c.id,.slice h c.p.length k,.bool c.neq],z,z,⟨[i' c.id],[.slice h c.p.length k,.bool c.neq],z,z,⟨[.slice h c.p.length k],[.bool c.neq],z,⟨_,z,(U.mono (mt g q))⟩,z⟩⟩⟩⟩⟩⟩) W)⟩)))).mono (mt H J))) (fun ay aQ D O=>?_)
 obtain⟨aD,aJ,rfl,P⟩:=O
 obtain⟨S,C,rfl⟩:=ch' T
 obtain⟨F,B,rfl⟩:=ch' P
 refine bd' (e:=178) (r:=(Rp.fn prog fa0 foI)) (vs:=#[(0,(.func (.func S) #[] C)),(1,(.func (.func F) #[] B))]) (cs:=[(.func (.func S) #[] C)]++([(.func (.func F) #[] B)]++([]))) ([an,ao]:List (Unit->Cq Int)) z z z z z (by decide) (fun _=>by kernel_rfl) ⟨[(.func (.func S) #[] C)],[(.func (.func F) #[] B)]++([]),z,⟨_,z,(T.mono D)⟩,⟨[(.func (.func F) #[] B)],[],z,⟨_,z,P⟩,z⟩⟩ (key:=999) z (by rw[A]; rfl) (fun p1 aR V am=>?_)
 obtain⟨aX,aa,hr⟩:=hr
 refine F' z z (t' E120 z) (cT' aa) z (am)<|sg z z<|dd' 117403 z ai g (mt (mt (mt (mt q H) J) D) V)<|dd' 117402 z af mr g<|nx<|n'<|sr<|mv z z<|yy (aw' z z) z<|nx<|L' hr z (fun aq hr=>?_) (fun aq hr=>?_)
 .refine sr<|yy (av' (vs:=#[]) (v:=.agg ([.slice none 0 0,.slice none 0 0,.slice none 0 0,i' 0]).toArray) z z (fun _=>by kernel_rfl)) z<|mv z z<|s' 4 z aV' z z z z z (List.all_eq_true.1 z)<|sx0 z z<|j'<|a' ?_
  obtain rfl:_=r:=hr
  exact aE' z (aa' (i:=4) at' z z z) z ⟨_,_,_,_,_,_,z,(W' Rp.str _),(W' b' _),(W' b' _)⟩
 refine q'<|g'<|sr<|yy (aH' z) z<|yy (f' 117402 bC' z z z) z ?_
 obtain⟨ar,ag,hr⟩:=hr
 refine cN' z z (t' E130 z) (co' ag) z (t) ln hz (fun az aN aE E M=>?_)
 obtain⟨al,ak,av,rfl,rfl,R⟩:=M
 refine bK' (fun w hs=>hs.rekey (i:=7000) (j:=4024) z (by rw[A]; rfl))<|yy (aH' z) z<|aC' 117402 ([.slice al ar.length ak,.slice l n.eqs.length m,.slice d n.neqs.length f,i' n.next]).toArray z sz28 z z z (show 0<4 by decide) z z<|nr<|yy (aH' z) z<|yy (f' 117402 bC' z z z) z<|yy (aJ' z) z<|yy (f' 117403 sc3 z z z) z<|yy (ca' z) z<|yy (f' 117403 sc9 z z z) z ?_
 obtain⟨x1,X,hr⟩:=hr
 refine yy (aP' H' sz9 R z z X) z<|bx' (r:=Rp.str) (e:=9) (cs':=[.string c.name]) (i:=c.at') (z':=c.name) 4024 z sz9 z R z z z z z X fun aT ae=>nr<|bn' (r:=Rp.str) (e:=9) 4024 ae z (by rw[A]; rfl) fun aO aU I Q au=>yy (o' 117402 at' z z z) z<|s' 4 z aV' z z z z z (List.all_eq_true.1 z)<|sx0 z z<|j' ?_
 obtain rfl:_=r:=hr
 exact aE' z (aa' (i:=4) at' z z z) z ⟨_,_,_,_,_,_,(by rw[cH' Q]),(cw' Q),(y.mono (mt E I)),(u.mono (mt E I))⟩
theorem gH'{J g F C O K E D B A r}(hr:(Zha J g).Ret r):Ctr prog 88 #[.agg ((v31' J F C O K E D)).toArray,.agg ((v48' g B A)).toArray] (fun G=>sl Rp.str G F C J.vars/\sl b' G O K J.eqs/\sl b' G E D J.neqs/\sl K' G B A g.p) (w31t' r):=by
 refine E' (args:=[_,_]) (N:=65) func88 z z z (fun w0 G0 ac aF=>?_)
 obtain⟨o,y,m,a1⟩:=aF
 have hz:w0.L.zero:=by rw[ac]; intro p hp; simp at hp
 refine sr<|af' 2 z z z fun b1=>af' 3 z z z fun b2=>V' 4 z z31 z fun b3=>sx0 z z<|n'<|ah' [ff,ff,ff,ff,ff,ff,ff,ff] mix (by kernel_rfl) fun hb=>cn (fun _ c=>o' 2 at' z z z)<|cn (fun _ c=>aJ' z)<|cn (fun _ c=>f' 3 sc3 z z z) ?_
 obtain⟨ao,aJ,hr⟩:=hr
 refine aX' (post:=fun G v=>∃ k n,v=k/\FnRd prog fa0 foB G k n ao) (fun _=>z) (fun _ _=>t' E133 z) (eh' aJ) z (fun G' c=>⟨(o.mono c),(y.mono c),(m.mono c)⟩) (fun v G1 G2 c h=>?_) ?_
 .obtain⟨k,n,rfl,T⟩:=h
  exact⟨_,_,z,T.mono c⟩
 obtain⟨an,aN,hr⟩:=hr
 refine cD' (f:=121) (φ:=fun G v=>∃ t P,v=t/\FnRd prog fa0 foI G t P an) (fun _=>z) (fun v G1 G2 c h=>?_) (fun u G' c hu=>?_) ?_
 .obtain⟨t,P,rfl,W⟩:=h
  exact⟨_,_,z,W.mono c⟩
 .obtain⟨⟨k,n,aw,T⟩,_⟩:=(show (fun G v=>∃ k n,v=k/\FnRd prog fa0 foB G k n ao) G'.m (u 11)/\True from hu)
  exact⟨_,_,_,fun _=>t' E121 z,by' aN,(by simp only[aw] <;> rfl),T⟩
 refine cu (fun _ _ c=>o' 2 at' z z z)<|cu (fun _ _ c=>cy' z)<|cu (fun _ _ c=>f' 3 sc3 z z z)<|du' (d:=12) (post:=fun G v=>∃ t P,v=t/\FnRd prog fa0 foI G t P an) (d':=11) (post':=fun G v=>∃ k n,v=k/\FnRd prog fa0 foB G k n ao) (fun a5 ba bs s af aj=>?_)
 obtain⟨t,P,rfl,W⟩:=af
 obtain⟨k,n,rfl,T⟩:=aj
 obtain⟨bn,aO,hr⟩:=hr
 refine P' z z (t' E133 z) (eh' aO) z (⟨(o.mono s),(y.mono s),(m.mono s)⟩) (fun a8 bo H al=>?_)
 obtain⟨bc,bj,rfl,aG⟩:=al
 obtain⟨a0,aE,hr⟩:=hr
 refine P' z z (t' E121 z) (by' aE) z (aG) (fun bi br I ai=>?_)
 obtain⟨a7,bk,rfl,av⟩:=ai
 obtain⟨aq,X,rfl⟩:=ch' W
 obtain⟨ad,U,rfl⟩:=ch' av
 refine bd' (e:=178) (r:=(Rp.fn prog fa0 foI)) (vs:=#[(0,(.func (.func aq) #[] X)),(1,(.func (.func ad) #[] U))]) (cs:=[(.func (.func aq) #[] X)]++([(.func (.func ad) #[] U)]++([]))) ([an,a0]:List (Unit->Cq Int)) z z z z z (by decide) (fun _=>by kernel_rfl) ⟨[(.func (.func aq) #[] X)],[(.func (.func ad) #[] U)]++([]),z,⟨_,z,(W.mono (mt H I))⟩,⟨[(.func (.func ad) #[] U)],[],z,⟨_,z,av⟩,z⟩⟩ (key:=999) z (by rw[ac]; rfl) (fun p1 aV V aR=>?_)
 obtain⟨bu,aM,hr⟩:=hr
 refine F' z z (t' E120 z) (cT' aM) z (aR)<|sg z z<|u'<|aq'<|g'<|n'<|sr<|mv z z<|yy (aw' z z) z<|nx<|L' hr z (fun aW hr=>?_) (fun aW hr=>?_)
 .refine sr<|yy (av' (vs:=#[]) (v:=.agg ([.slice none 0 0,.slice none 0 0,.slice none 0 0,i' 0]).toArray) z z (fun _=>by kernel_rfl)) z<|mv z z<|s' 4 z aV' z z z z z (List.all_eq_true.1 z)<|sx0 z z<|j'<|a' ?_
  obtain rfl:_=r:=hr
  exact aE' z (aa' (i:=4) at' z z z) z ⟨_,_,_,_,_,_,z,(W' Rp.str _),(W' b' _),(W' b' _)⟩
 refine q'<|g'<|sr ?_
 obtain⟨aa,aP,hr⟩:=hr
 refine F' z z (t' E127 z) (ee' aP) z (trivial)<|V' 7 z z119 z fun b4=>s' 7 z sz119 z z z (ac' _ _ _) (ac' _ _ _) (fun u hu=>Rp.one (dw' .i64 8) (G:=aV) (x:=aa) (cs:=vecG (Value.int .i64) 8 aa) z u (by first|simpa using hu|simpa [Value.cells] using hu))<|nx<|n'<|WC.drawnB [(3,bk0 b2 (v48' g B A) 48)] (lc z ln) [ff,ff,tt,tt,ff,ff,tt,tt,ff] mix (by kernel_rfl) fun hb=>cn (fun _ c=>aJ' z)<|cn (fun _ c=>f' 3 sc3 z z z)<|cm' z (cy' z)<|cm' z (f' 3 sc3 z z z)<|cn (fun _ c=>cy' z)<|cn (fun _ c=>f' 3 sc3 z z z)<|cm' z (aJ' z)<|cm' z (f' 3 sc3 z z z) ?_
 obtain⟨aS,hr⟩:=hr
 refine cn (fun _ c=>bi' be' sz3 z z aS)<|Chain.tailB hb<|WLT.storeL (fun w q=>q.weaken (lc z ln)) 7 (vecG (Value.int .i64) 8 (setF aa g.at'.toNat g.to')).toArray z sz3 z z z (by first|(rw[ac']; omega)|(show _<(vecG _ _ _).toArray.size; rw[ac']; omega)) z (ci' _ _ _ _ _) ?_
 obtain⟨aX,hr⟩:=hr
 refine WLT.y0 (fun w q=>q.weaken (lc z ln)) z (bi' be' sz3 z z aX) z<|WLT.storeL (fun w q=>q.weaken (lc z ln)) 7 (vecG (Value.int .i64) 8 (setF (setF aa g.at'.toNat g.to') g.to'.toNat g.at')).toArray z sz3 z z z (by first|(rw[ac']; omega)|(show _<(vecG _ _ _).toArray.size; rw[ac']; omega)) z (ci' _ _ _ _ _)<|WLT.nil (fun w q=>q.weaken (lc z ln))<|aq'<|g'<|sr<|yy (o' 2 at' z z z) z<|yy (o' 7 ag119 z z (ac' _ _ _)) z ?_
 obtain⟨Q,aL,hr⟩:=hr
 have N1:=mt (mt (mt s H) I) V
 refine P' z z (t' E128 z) (ep' aL) z (⟨(o.mono N1),(y.mono N1),(m.mono N1)⟩) (fun bb bt a3 ak=>?_)
 obtain⟨aQ,aK,R,S,M,L,rfl,Y,ag,Z⟩:=ak
 refine s' 2 z aV' z z z z z (List.all_eq_true.1 z)<|nr<|yy (aH' z) z<|yy (f' 2 bC' z z z) z ?_
 obtain⟨aA,aI,hr⟩:=hr
 refine cN' z z (t' E130 z) (co' aI) z (Y) ln hz (fun a9 bl bf ab ah=>?_)
 obtain⟨am,au,a2,rfl,rfl,l⟩:=ah
 refine bK' (fun w q=>q.rekey (i:=7000) (j:=4040) z (by rw[ac]; rfl))<|yy (aH' z) z<|aC' 2 ([.slice am aA.length au,.slice R Q.eqs.length S,.slice M Q.neqs.length L,i' Q.next]).toArray z sz28 z z z (show 0<4 by decide) z z<|nx<|n'<|WC.drawnB [(2,bk0 b1 ([.slice am aA.length au,.slice R Q.eqs.length S,.slice M Q.neqs.length L,i' Q.next]) 31),(3,bk0 b2 (v48' g B A) 48)] (lc z (lc z ln)) [ff,ff,ff,ff,tt,tt,tt,tt,ff,ff,ff,ff,ff,ff,ff,ff,ff,ff,ff,ff,ff] mix (by kernel_rfl) fun hb=>cn (fun _ c=>aH' z)<|cn (fun _ c=>f' 2 bC' z z z)<|cn (fun _ c=>aJ' z)<|cn (fun _ c=>f' 3 sc3 z z z)<|cm' z (aH' z)<|cm' z (f' 2 bC' z z z)<|cm' z (cy' z)<|cm' z (f' 3 sc3 z z z)<|cn (fun _ c=>aH' z)<|cn (fun _ c=>f' 2 bC' z z z)<|cn (fun _ c=>cy' z)<|cn (fun _ c=>f' 3 sc3 z z z) ?_
 obtain⟨x1,aD,hr⟩:=hr
 refine cn (fun _ c=>aP' H' sz9 (l.mono c) z z aD)<|cn (fun _ c=>dj' sc9 (l.mono c) (key:=4040) z z (cb' (cz' l aD)))<|cn (fun _ c=>aH' z)<|cn (fun _ c=>f' 2 bC' z z z)<|cn (fun _ c=>aJ' z)<|cn (fun _ c=>f' 3 sc3 z z z) ?_
 obtain⟨x2,aC,hr⟩:=hr
 refine cn (fun _ c=>aP' H' sz9 (l.mono c) z z aC)<|cn (fun _ c=>dj' sc9 (l.mono c) (key:=4040) z z (cb' (cz' l aC))) ?_
 obtain⟨x3,aB,hr⟩:=hr
 refine cn (fun _ c=>aP' H' sz9 (l.mono c) z z aB)<|Chain.tailB hb<|WLT.one (fun w q=>q.weaken (lc z (lc z ln)))<|bx' (r:=Rp.str) (e:=9) (cs':=[.string x1]) (i:=g.at') (z':=x1) 4040 z sz9 z l z z z z z aB fun bp ap=>WLT.back ?_
 obtain⟨x4,az,hr⟩:=hr
 refine WLT.y0 (fun w q=>q.weaken (lc z (lc z ln))) z (aP' H' sz9 ap z z az) z<|WLT.one (fun w q=>q.weaken (lc z (lc z ln)))<|bx' (r:=Rp.str) (e:=9) (cs':=[.string x2]) (i:=g.to') (z':=x2) 4040 z sz9 z ap z z z z z az fun bm aH=>WLT.back<|WLT.nil (fun w q=>q.weaken (lc z (lc z ln)))<|aq'<|g'<|sr<|bn' (r:=Rp.str) (e:=9) 4040 aH z (by rw[ac]; rfl) fun bv bq ae ar a4=>yy (o' 2 at' z z z) z<|s' 4 z aV' z z z z z (List.all_eq_true.1 z)<|sx0 z z<|j' ?_
 obtain rfl:_=r:=hr
 exact aE' z (aa' (i:=4) at' z z z) z ⟨_,_,_,_,_,_,(by rw[cH' ar]),(cw' ar),(ag.mono (mt ab ae)),(Z.mono (mt ab ae))⟩
theorem dZ'{l L I H n o d f r}(hr:(Zb4 l L).Ret r):Ctr prog 66 #[.agg ((v31' l I H n o d f)).toArray,i' L] (fun G=>y31' G I H n o d f l) (fun G v=>∃ Q R,v = .tuple #[.agg ((v110' r.1.id Q r.1.p R)).toArray,.bool r.2.1,.bool r.2.2]/\sl K' G Q R r.1.p):=by
 refine E' (args:=[_,_]) (N:=38) func66 z z z (fun Z G0 ar ai=>?_)
 obtain⟨am,U,S⟩:=ai
 refine sr<|af' 2 z z z fun b1=>V' 4 z z110 z fun M=>sg z z<|sx0 z z<|n'<|sr<|yy (aY' z) z<|yy (f' 2 br' z z z) z<|yy (ba' z) z<|yy (f' 2 br' z z z) z<|bd' (e:=29) (r:=(Rp.sl b')) (vs:=#[(0,.slice n l.eqs.length o),(1,.slice d l.neqs.length f)]) (cs:=[.slice n l.eqs.length o]++([.slice d l.neqs.length f]++([]))) ([l.eqs,l.neqs]:List (List Zb)) z z z z z (by decide) (fun _=>by kernel_rfl) ⟨[.slice n l.eqs.length o],[.slice d l.neqs.length f]++([]),z,⟨_,z,U⟩,⟨[.slice d l.neqs.length f],[],z,⟨_,z,S⟩,z⟩⟩ (key:=999) z (by rw[ar]; rfl) fun p1 V ax T=>yy (M' cl' T z) z<|mv z z<|nx<|am' (fun (⟨E,y,A,J⟩:Zb×Option Addr×Nat×Mem)=>[(4,pt0 M)]) (fun ⟨E,y,A,J⟩=>Mem.le V J/\sl K' J y A E.p/\(Zdo).Ret r) (fun ⟨E,y,A,J⟩=>St Z G0 J [(4,bk0 M (v110' E.id y E.p A) 110)]) ?_ ?_
 .refine B' ?_
  let K:((Zb×Bool×Bool)⊕Zb)->Prop:=fun oo=>((fun ov=>match ov with | .inl rv1=>Cq.ret rv1 | .inr E=>Zdo:((Zb×Bool×Bool)⊕Zb)->Cq (Zb×Bool×Bool)) oo).wp (fun a=>a=r)
  replace hr:(Cq.loop _ _).wp K:=hr
  refine an' (Φ:=K) (fun (⟨c,t,h,k,p⟩:Int×Zb×Option Addr×Nat×Mem)=>((c,t):Int×Zb)) (fun ⟨c,t,h,k,p⟩=>[(1,i' L),(4,pt0 M),(15,.slice p1 2 2),(16,i' ([l.eqs,l.neqs].length:Int)),(17,i' c)]) (fun ⟨c,t,h,k,p⟩=>Mem.le V p/\sl K' p h k t.p) (fun ⟨c,t,h,k,p⟩=>St Z G0 p [(4,bk0 M (v110' t.id h t.p k) 110)]) ⟨0,(Zb.mk 0 []),none,0,V⟩ hr (f5 z z z z z) ⟨mr,(W' _ _)⟩ (w1 z) ?_
  .intro ae gx hx hr
   obtain⟨c,t,h,k,p⟩:=gx
   obtain⟨D,O⟩:=hx
   refine sr<|yy (ai' z z) z<|nx<|n'<|L' hr z (fun au hr=>?_) (fun au hr=>?_)
   .refine q'<|g'<|n'<|B'<|sr<|mv z z ?_
    obtain⟨x1,ac,hr⟩:=hr
    refine yy (T' cl' sz29 (T.mono D) z z ac) z ?_
    obtain⟨p2,aq,aw,X⟩:=bF' (I' (ae' T ac) D)
    refine yy (Z' br' z (aw)) z<|sg z z<|sg z z<|nr<|mv z z<|yy (M' w' X z) z<|mv z z<|nx<|am' (fun (⟨u,s,q,F⟩:Zb×Option Addr×Nat×Mem)=>[(1,i' L),(4,pt0 M),(15,.slice p1 2 2),(16,i' ([l.eqs,l.neqs].length:Int)),(17,i' c)]) (fun ⟨u,s,q,F⟩=>Mem.le p F/\sl K' F s q u.p/\(Zdp c u).wp (Out ae K)) (fun ⟨u,s,q,F⟩=>St Z G0 F [(4,bk0 M (v110' u.id s u.p q) 110)]) ?_ ?_
    .refine B' ?_
     let W:((Zb×Bool×Bool)⊕Zb)->Prop:=fun oo=>((fun ov=>match ov with | .inl rv2=>Cq.ret (.inr (.inl rv2)) | .inr u=>Zdp c u:((Zb×Bool×Bool)⊕Zb)->Cq ((Int×Zb)⊕((Zb×Bool×Bool)⊕Zb))) oo).wp (Out ae K)
     replace hr:(Cq.loop _ _).wp W:=hr
     refine an' (Φ:=W) (fun (⟨m,x,j,g,B⟩:Int×Zb×Option Addr×Nat×Mem)=>((m,x):Int×Zb)) (fun ⟨m,x,j,g,B⟩=>[(1,i' L),(4,pt0 M),(7,i' c),(15,.slice p1 2 2),(16,i' ([l.eqs,l.neqs].length:Int)),(17,i' c),(22,.slice p2 x1.length aq),(23,i' (x1.length:Int)),(24,i' m)]) (fun ⟨m,x,j,g,B⟩=>Mem.le p B/\sl K' B j g x.p) (fun ⟨m,x,j,g,B⟩=>St Z G0 B [(4,bk0 M (v110' x.id j x.p g) 110)]) ⟨0,t,h,k,p⟩ hr (f9 z z z z z z z z z) ⟨mr,O⟩ (w1 z) ?_
     .intro aD gx hx hr
      obtain⟨m,x,j,g,B⟩:=gx
      obtain⟨C,P⟩:=hx
      refine sr<|yy (ai' z z) z<|nx<|n'<|L' hr z (fun an hr=>?_) (fun an hr=>?_)
      .refine q'<|g'<|n'<|B'<|sr ?_
       obtain⟨x2,ad,hr⟩:=hr
       refine yy (T' w' aT' (X.mono C) z z ad) z ?_
       obtain⟨aA,aC,ao,ak⟩:=bq' (I' (ae' X ad) C)
       refine yy (aA' _ bM' z z ao) z<|V' 10 z z110 z fun b3=>s' 10 z aT' z z z z z (List.all_eq_true.1 z)<|nr<|yy (bo' z) z<|yy (f' 10 sc3 z z z) z<|mv z z<|yy (au' z z) z<|nx<|L' hr z (fun ap hr=>?_) (fun ap hr=>?_)
       .refine sr<|yy (o' 10 bM' z z z) z<|mv z z<|yy (au' z z) z<|s' 4 z aT' z z z z z (List.all_eq_true.1 z)<|sg z z<|sx0 z z<|j'<|m'<|a'<|a'<|m'<|ag'<|m'<|a'<|a'<|m'<|ag'<|a' ?_
        obtain rfl:_=r:=hr
        exact cW' z (aa' (i:=4) bM' z z z) z z ⟨_,_,z,ak⟩
       refine q'<|J'<|g'<|A'<|yy (X' z z) z<|mv z z<|u'<|Y' ⟨i64.wrap (m+1),x,j,g,B⟩ hr ⟨C,P⟩ (f9 z z z z z z z z z) (w1 z)
      refine ao'<|r'<|r'<|O'<|ap' ⟨x,j,g,B⟩ ⟨C,P,hr⟩ (f5 z z z z z) (w1 z)
    rintro⟨u,s,q,F⟩ ⟨Y,ab,hr⟩
    refine J'<|g'<|A'<|yy (X' z z) z<|mv z z<|u'<|Y' ⟨i64.wrap (c+1),u,s,q,F⟩ hr ⟨(mt D Y),ab⟩ (f5 z z z z z) (w1 z)
   refine ao'<|r'<|r'<|O'<|ap' ⟨t,h,k,p⟩ ⟨D,O,hr⟩ (f1 z) (w1 z)
 rintro⟨E,y,A,J⟩ ⟨ay,az,hr⟩
 refine g'<|sr<|yy (av' (vs:=#[]) (v:=.agg ([i' 0,.slice none 0 0]).toArray) z z (fun _=>by kernel_rfl)) z<|s' 4 z aT' z z z z z (List.all_eq_true.1 z)<|sg z z<|sx0 z z<|j' ?_
 obtain rfl:_=r:=hr
 exact cW' z (aa' (i:=4) bM' z z z) z z ⟨_,_,z,(W' K' _)⟩
theorem fj'(g:Za)(f:Int)(x:Nat)(B:Nat)(r:Bool)(hr:(ZU g f).Ret r):Ctr prog 174 #[pt0 x,pt0 B] (fun G=>At aR' G x 0 g/\At (Rp.int .i64) G B 0 f) (fun G v=>v = .bool r):=by
 refine E' (args:=[_,_]) (N:=14) func174 z z z (fun I K H k=>?_)
 obtain⟨i,j⟩:=k
 refine sr<|sg z z<|nr ?_
 obtain⟨o,n,A,y,t,s,u,c,h,d⟩:=cY' i
 refine yy (aA' _ at' z z u) z<|yy (Z' sc3 z (aF' j)) z ?_
 obtain⟨E,l,hr⟩:=hr
 refine P' z z (t' E66 z) (dZ' l) z (⟨c,h,d⟩) (fun D F C e=>?_)
 obtain⟨p,m,rfl,q⟩:=e
 refine mv z z<|yy (y' z z) z<|yy (y' z z) z<|yy (y' z z) z<|V' 3 z z110 z fun J=>s' 3 z aT' z z z z z (List.all_eq_true.1 z)<|sg z z<|sg z z<|nr<|mv z z<|sx0 z z<|j' (k0' hr z z)
theorem dx'{i k h g e f c d r}(hr:(ZbE i k).Ret r):Ctr prog 138 #[.agg ((v31' i h g e f c d)).toArray,i' k] (fun G=>y31' G h g e f c d i) (fun G v=>∃ A E,v=A/\FnRd prog fa0 foB G A E r):=by
 refine E' (args:=[_,_]) (N:=6) func138 z z z (fun K L p u=>?_)
 obtain⟨l,n,m⟩:=u
 refine sr<|af' 127602 z z z fun B=>af' 127603 z z z fun D=>sx0 z z<|n'<|bG' 127602 z (by rw[p]; rfl) fun I j t C=>bG' 127603 z (by rw[p]; rfl) fun y o s H=>A'<|yy (bQ' z z) z<|sx0 z z<|j' ?_
 obtain rfl:_=r:=hr
 exact k' z z ⟨_,_,z,(show FnRd prog fa0 foB y (.func (.func 174) #[] #[pt0 B,pt0 D]) () (fun _=>ZU i k) from (dr' E174 (fun x F=>ds' (fj' _ _ _ _ x F) (fun J q=>⟨(I' (ck' (r:=aR') (cs:=(v31' i h g e f c d)) t z ⟨[.slice h i.vars.length g],[.slice e i.eqs.length f,.slice c i.neqs.length d,i' i.next],z,⟨_,z,(l.mono j)⟩,⟨[.slice e i.eqs.length f],[.slice c i.neqs.length d,i' i.next],z,⟨_,z,(n.mono j)⟩,⟨[.slice c i.neqs.length d],[i' i.next],z,⟨_,z,(m.mono j)⟩,z⟩⟩⟩) (mt o q)),(I' (ck' (r:=(Rp.int .i64)) (cs:=[i' k]) s z z) q)⟩))))⟩
theorem fZ'(i:Zc)(h:Za)(u:Nat)(D:Nat)(r:Bool)(hr:(Zau i h).Ret r):Ctr prog 137 #[pt0 u,pt0 D] (fun G=>At ab' G u 0 i/\At aR' G D 0 h) (fun G v=>v = .bool r):=by
 refine E' (args:=[_,_]) (N:=19) func137 z z z (fun R S P m=>?_)
 obtain⟨c,k⟩:=m
 refine sr<|sg z z<|nr<|yy (aS' z) z<|yy (Z' sc3 z (aF' (aW' (ax' (ax' (ax' (ax' (ay' c)))))))) z<|ad' hr z (bN' z z) z (fun B hr=>?_) (fun B hr=>?_)
 .refine mv z z<|gy z z (aS' z) z<|gy z z (Z' sc3 z (aF' (aW' (ax' (ax' (ax' (ax' (ay' c)))))))) z<|ad' hr (v' z z) (ai' z z) z (fun y hr=>?_) (fun y hr=>?_)
  .refine yy (h' z z) z<|mv z z ?_
   obtain⟨q,p,C,A,t,s,x,e,j,f⟩:=cY' k
   refine gy z z (aA' _ at' z z x) z<|gy z z (aS' z) z<|gy z z (Z' sc3 z (aF' (aW' (ax' (ax' (ax' (ax' (ay' c)))))))) z ?_
   obtain⟨L,n,hr⟩:=hr
   refine P' (v' z z) z (t' E138 z) (dx' n) z (⟨e,j,f⟩) (fun H O F g=>?_)
   obtain⟨I,K,rfl,l⟩:=g
   obtain⟨Q,o,hr⟩:=hr
   refine WL.callFn (vs:=[]) (a:=()) (v' z z) z l z z z o (fun J M E d=>?_)
   subst d
   refine gy z z (al' z) z<|yy (h' z z) z<|sx0 z z<|j' (k0' hr z z)
  refine yy (h' z z) z<|mv z z<|sn6 z<|yy (l' z z) z<|sx0 z z<|j' (k0' hr z z)
 refine mv z z<|sn3 z<|yy (l' z z) z<|mv z z<|sn6 z<|yy (l' z z) z<|sx0 z z<|j' (k0' hr z z)
theorem dW'{j k d c h g e f r}(hr:(Zcs j k).Ret r):Ctr prog 140 #[.agg ((v31' j d c h g e f)).toArray,.bool k] (fun G=>y31' G d c h g e f j) (wl' b' r):=by
 refine E' (args:=[_,_]) (N:=10) func140 z z z (fun s t p m=>?_)
 obtain⟨n,l,i⟩:=m
 refine sr<|af' 2 z z z fun q=>sx0 z z<|n'<|sr<|mv z z<|nx<|aL' hr z (fun o hr=>?_) (fun o hr=>?_)
 .refine sr<|yy (ba' z) z<|yy (f' 2 br' z z z) z<|sx0 z z<|j'<|a' ?_
  obtain rfl:_=r:=hr
  exact k' z z ⟨_,_,z,i⟩
 refine q'<|g'<|sr<|yy (aY' z) z<|yy (f' 2 br' z z z) z<|sx0 z z<|j' ?_
 obtain rfl:_=r:=hr
 exact k' z z ⟨_,_,z,l⟩
theorem ga'(j:Za)(i:Zc)(t:Nat)(C:Nat)(r:Bool)(hr:(ZaJ j i).Ret r):Ctr prog 139 #[pt0 t,pt0 C] (fun G=>At aR' G t 0 j/\At ab' G C 0 i) (fun G v=>v = .bool r):=by
 refine E' (args:=[_,_]) (N:=20) func139 z z z (fun K L J m=>?_)
 obtain⟨c,d⟩:=m
 refine sr<|sg z z<|nr ?_
 obtain⟨p,o,B,y,s,q,u,f,k,g⟩:=cY' c
 refine yy (aA' _ at' z z u) z<|yy (dC' z) z<|yy (Z' sc4 z (AtK.bool (ax' (ax' (ax' (ax' (ax' (ax' (ay' d))))))))) z ?_
 obtain⟨H,n,hr⟩:=hr
 refine P' z z (t' E140 z) (dW' n) z (⟨f,k,g⟩) (fun E I e h=>?_)
 obtain⟨D,F,rfl,l⟩:=h
 refine yy (M' w' l z) z<|ad' hr z (ai' z z) z (fun A hr=>?_) (fun A hr=>?_)
 .refine mv z z<|gy z z (aS' z) z<|gy z z (Z' sc3 z (aF' (I' (aW' (ax' (ax' (ax' (ax' (ay' d)))))) e))) z<|ad' hr (v' z z) (au' z z) z (fun x hr=>?_) (fun x hr=>?_)
  .refine gy z z (e' z) z<|gy z z (bw' z) z<|gy z z (Z' sc3 z (aF' (I' (ax' (ax' (ax' (ay' c)))) e))) z<|gy z z (bf' z z) z<|gy z z (h' z z) z<|gy z z (Y0.notD z) z<|yy (h' z z) z<|sx0 z z<|j' (k0' hr z z)
  refine gy z z (e' z) z<|sn3 z<|gy z z (l' z z) z<|gy z z (al' z) z<|yy (h' z z) z<|sx0 z z<|j' (k0' hr z z)
 refine mv z z<|sn4 z<|N' (x' z z) z<|N' (x' z z) z<|N' (x' z z) z<|sn2 z<|yy (l' z z) z<|sx0 z z<|j' (k0' hr z z)
theorem fT'(f:(List Ze))(e:Za)(n:Nat)(s:Nat)(r:Bool)(hr:(Zam f e).Ret r):Ctr prog 175 #[pt0 n,pt0 s] (fun G=>At (Rp.sl K') G n 0 f/\At aR' G s 0 e) (fun G v=>v = .bool r):=by
 refine E' (args:=[_,_]) (N:=20) func175 z z z (fun M S J i=>?_)
 obtain⟨d,g⟩:=i
 refine sr<|sx0 z z<|n'<|ah' [ff,ff,ff,ff,ff,ff,ff,ff,ff] mix (by kernel_rfl) (fun o=>?_)
 obtain⟨R,K,q,l⟩:=bF' d
 refine cn (fun _ c=>Z' cF' z (c _ _ _ q)) ?_
 obtain⟨m,j,hr⟩:=hr
 refine bD' z (fun _=>t' E77 z) (dO' j) z (fun D c=>(l.mono c)) ?_
 cases m
 .refine cn (fun _ c=>e' z)<|ct z z<|ct z z<|ct z z<|ct z z<|ct z z<|ct z z<|R' o<|sn2 z<|yy (l' z z) z<|mv z z<|sn3 z<|yy (l' z z) z<|sg z z<|u'<|aq'<|g'<|j' (k0' hr z z)
 refine cn (fun _ c=>e' z) ?_
 obtain⟨Q,I,B,y⟩:=bF' d
 refine cy z z (fun _ c=>Z' cF' z (c _ _ _ B)) ?_
 obtain⟨E,k,hr⟩:=hr
 refine bD' (v' z z) (fun _=>t' E78 z) (cZ' k) z (fun D c=>(y.mono c))<|cy z z (fun _ c=>aN' aQ' aB' z)<|cy z z (fun _ c=>aH' z) ?_
 obtain⟨O,L,t,u⟩:=bF' (aW' (ay' g))
 refine cy z z (fun _ c=>Z' bC' z (c _ _ _ t))<|cy z z (fun _ c=>M' H' (u.mono c) z)<|R' o ?_
 obtain⟨C,hr⟩:=hr
 refine gy z z (Y0.shr z z C) z<|ad' hr (v' z z) (au' z z) z (fun p hr=>?_) (fun p hr=>?_)
 .refine yy (h' z z) z<|mv z z ?_
  obtain⟨P,H,x,A⟩:=bF' d
  refine gy z z (Z' cF' z (x)) z ?_
  obtain⟨F,h,hr⟩:=hr
  refine F' (v' z z) z (t' E79 z) (dL' h) z (A)<|gy z z (bN' z z) z<|yy (h' z z) z<|sg z z<|u'<|aq'<|g'<|j' (k0' hr z z)
 refine yy (h' z z) z<|mv z z<|sn3 z<|yy (l' z z) z<|sg z z<|u'<|aq'<|g'<|j' (k0' hr z z)
theorem fF'{i o h g e f c d q p r}(hr:(Zg8 i o).Ret r):Ctr prog 141 #[.agg ((v31' i h g e f c d)).toArray,.slice q o.length p] (fun G=>sl Rp.str G h g i.vars/\sl b' G e f i.eqs/\sl b' G c d i.neqs/\sl K' G q p o) (fun G v=>∃ D I,v=D/\FnRd prog fa0 foB G D I r):=by
 refine E' (args:=[_,_]) (N:=6) func141 z z z (fun O P s A=>?_)
 obtain⟨l,n,m,B⟩:=A
 refine sr<|af' 128202 z z z fun E=>af' 128203 z z z fun H=>sx0 z z<|n'<|bG' 128203 z (by rw[s]; rfl) fun L k y F=>bG' 128202 z (by rw[s]; rfl) fun C j u K=>A'<|yy (bQ' z z) z<|sx0 z z<|j' ?_
 obtain rfl:_=r:=hr
 exact k' z z ⟨_,_,z,(show FnRd prog fa0 foB C (.func (.func 175) #[] #[pt0 H,pt0 E]) () (fun _=>Zam o i) from (dr' E175 (fun x J=>ds' (fT' _ _ _ _ x J) (fun M t=>⟨(I' (ck' (r:=(Rp.sl K')) (cs:=[.slice q o.length p]) y z ⟨_,z,(B.mono k)⟩) (mt j t)),(I' (ck' (r:=aR') (cs:=(v31' i h g e f c d)) u z ⟨[.slice h i.vars.length g],[.slice e i.eqs.length f,.slice c i.neqs.length d,i' i.next],z,⟨_,z,(l.mono (mt k j))⟩,⟨[.slice e i.eqs.length f],[.slice c i.neqs.length d,i' i.next],z,⟨_,z,(n.mono (mt k j))⟩,⟨[.slice c i.neqs.length d],[i' i.next],z,⟨_,z,(m.mono (mt k j))⟩,z⟩⟩⟩) t)⟩))))⟩
theorem fd'{l k d c g h e f j i r}(hr:(Zb3 l k).Ret r):Ctr prog 65 #[.agg ((v31' l d c g h e f)).toArray,.agg ((v48' k j i)).toArray] (fun G=>sl Rp.str G d c l.vars/\sl b' G g h l.eqs/\sl b' G e f l.neqs/\sl K' G j i k.p) (fun G v=>v=i' r):=by
 refine E' (args:=[_,_]) (N:=12) func65 z z z (fun x A t m=>?_)
 obtain⟨n,p,o,s⟩:=m
 refine sr<|af' 2 z z z fun u=>af' 3 z z z fun y=>sx0 z z<|n'<|sr<|yy (aS' z) z<|yy (f' 3 sc3 z z z) z<|yy (au' z z) z<|nx<|L' hr z (fun q hr=>?_) (fun q hr=>?_)
 .refine sr<|yy (bw' z) z<|yy (f' 2 sc3 z z z) z<|sx0 z z<|j'<|a' (k0' hr z z)
 refine q'<|g'<|sr<|yy (aS' z) z<|yy (f' 3 sc3 z z z) z<|sx0 z z<|j' (k0' hr z z)
theorem cc'{l c g r}(hr:(ZA l).Ret r):CtrL prog 176 #[.slice c l.length g] [] (fun G=>sl b' G c g l) (fun G L v=>∃ u A k,L=[(7000,k)]/\v = .slice u r.length A/\RowR b' 110 G (.slice u r.length A) r k):=by
 refine bg' (args:=[_]) (N:=8) func176 z z z (fun t d x m=>?_)
 have h:=m
 refine sr<|sx0 z z<|n'<|sr<|mv z z<|yy (Y0.eqlNil w' z z) z<|nx<|dD' (p:=c=none) z (fun f=>?_) (fun f=>?_)
 .replace hr:=hr.1 (SlR.Zje h f)
  refine sr<|sx0 z z<|j'<|a' ?_
  obtain rfl:_=r:=hr
  refine aK' (S':=St t d d [(7000,none)]) (wk (lw ln))<|k' z z ⟨_,_,_,z,z,(RowR.nil (r:=b') (e:=110))⟩
 replace hr:=hr.2
 refine q'<|g'<|sr<|WL.litT (e:=110) (r:=b') (vs:=#[]) (cs:=[]) ([]:List Zb) 4005 z z z z z (by decide) (fun _=>by kernel_rfl) (z) fun E B s=>mv z z ?_
 obtain⟨q,hr⟩:=hr
 refine ct' (r:=b') (e:=110) 4005 z z w' el110 z (by decide) z z s z h q fun D C n y=>sx0 z z<|j' ?_
 obtain rfl:_=r:=hr
 refine aK' (S':=St t d d [(7000,n)]) ?_ ?_
 .intro w o
  have o:=o.rekey (i:=4005) (j:=7000) z (by rw[x]; rfl)
  exact o.weaken (lc z ln)
 exact k' z z ⟨_,_,_,z,z,y⟩
theorem eN'{c r}(hr:(cmp_isNaN_int c).Ret r):Ctr prog 197 #[i' c] (fun G=>True) (fun G v=>v = .bool r):=by
 refine E' (args:=[_]) (N:=6) func197 z z z fun f g e d=>sr<|sg z z<|nr<|mv z z<|mv z z<|yy (aw' z z) z<|sx0 z z<|j' (k0' hr z z)
theorem fD'{j c r}(hr:(ZcI j c).Ret r):Ctr prog 179 #[i' j,i' c] (fun G=>True) (fun G v=>v=i' r):=by
 refine E' (args:=[_,_]) (N:=20) func179 z z z fun o p m k=>sr<|sg z z<|nr<|mv z z ?_
 obtain⟨l,d,hr⟩:=hr
 refine F' z z (t' E197 z) (eN' d) z (trivial)<|sg z z<|nr<|mv z z ?_
 obtain⟨n,e,hr⟩:=hr
 refine F' z z (t' E197 z) (eN' e) z (trivial)<|sx0 z z<|n'<|sr<|mv z z<|nx<|aL' hr z (fun g hr=>?_) (fun g hr=>?_)
 .exact (show False from hr).elim
 refine q'<|g'<|n'<|sr<|mv z z<|nx<|aL' hr z (fun f hr=>?_) (fun f hr=>?_)
 .exact (show False from hr).elim
 refine q'<|g'<|n'<|sr<|mv z z<|mv z z<|yy (ai' z z) z<|nx<|L' hr z (fun i hr=>?_) (fun i hr=>?_)
 .refine sr<|sx0 z z<|j'<|a' (k0' hr z z)
 refine q'<|g'<|n'<|sr<|mv z z<|mv z z<|yy (bh' z z) z<|nx<|L' hr z (fun h hr=>?_) (fun h hr=>?_)
 .refine sr<|sx0 z z<|j'<|a' (k0' hr z z)
 refine q'<|g'<|sr<|sx0 z z<|j' (k0' hr z z)
theorem eI'{e f d c r}(hr:(ZbP e f).Ret r):Ctr prog 178 #[.agg ((v110' e.id d e.p c)).toArray,i' f] (fun G=>sl K' G d c e.p) (fun G v=>v=i' r):=by
 refine E' (args:=[_,_]) (N:=9) func178 z z z (fun m n k g=>?_)
 have i:=g
 refine sr<|af' 2 z z z fun l=>sg z z<|nr<|yy (bo' z) z<|yy (f' 2 sc3 z z z) z<|mv z z ?_
 obtain⟨j,h,hr⟩:=hr
 refine F' z z (t' E179 z) (fD' h) z (trivial)<|sx0 z z<|j' (k0' hr z z)
theorem cp'{g c m l r}(hr:(Zn g c).Ret r):Ctr prog 177 #[.slice m g.length l,i' c,.func (.func 178) #[] #[]] (fun G=>sl b' G m l g) (fun G v=>v = .tuple #[i' r.1,.bool r.2]):=by
 refine E' (args:=[_,_,_]) (N:=49) func177 z z z (fun D p T u=>?_)
 have i:=u
 refine sr<|sg z z<|sg z z<|nr<|mv z z<|yy (M' w' i z) z<|sg z z<|nr<|mv z z<|sg z z<|sx0 z z<|n'<|am' (fun (⟨k,j⟩:Int×Mem)=>[(0,.slice m g.length l),(1,i' c),(2,.func (.func 178) #[] #[]),(8,i' (g.length:Int)),(9,i' k)]) (fun ⟨k,j⟩=>Mem.le p j/\(Zp g c k).Ret r) (fun ⟨k,j⟩=>St D p j []) ?_ ?_
 .refine B' ?_
  let o:Int->Prop:=fun M=>((fun K=>match K with|k=>Zp g c k:Int->Cq (Int×Bool)) M).wp (fun a=>a=r)
  replace hr:(Cq.loop _ _).wp o:=hr
  refine an' (Φ:=o) (fun (⟨f,h,e⟩:Int×Int×Mem)=>((f,h):Int×Int)) (fun ⟨f,h,e⟩=>[(0,.slice m g.length l),(1,i' c),(2,.func (.func 178) #[] #[]),(8,i' (g.length:Int)),(9,i' f),(10,i' h)]) (fun ⟨f,h,e⟩=>Mem.le p e) (fun ⟨f,h,e⟩=>St D p e []) ⟨0,(g.length:Int),p⟩ hr (f6 z z z z z z) mr (wk ln) ?_
  .intro S J P hr
   obtain⟨f,h,e⟩:=J
   have d:=P
   refine n'<|sr<|mv z z<|mv z z<|yy (ai' z z) z<|nx<|L' hr z (fun H hr=>?_) (fun H hr=>?_)
   .refine q'<|g'<|B'<|sr<|mv z z<|mv z z<|yy (X' z z) z<|yy (aN' aB' dQ' z) z<|yy (Y0.shr z z (by decide)) z<|yy (aN' dQ' aB' z) z<|sg z z<|nr<|mv z z<|mv z z<|mv z z ?_
    obtain⟨W,q,hr⟩:=hr
    refine yy (T' w' aT' (i.mono d) z z q) z ?_
    obtain⟨Q,O,E,t⟩:=bq' (I' (ae' i q) d)
    refine yy (aA' _ bM' z z E) z<|mv z z ?_
    obtain⟨U,A,hr⟩:=hr
    refine F' z z (di' E178 z z) (eI' A) z (t)<|yy (ai' z z) z<|nx<|L' hr z (fun B hr=>?_) (fun B hr=>?_)
    .refine A'<|mv z z<|yy (X' z z) z<|sg z z<|u'<|J'<|Y' ⟨i64.wrap ((i64.wrap (Int.fdiv (u64.wrap (i64.wrap (f+h))) (2 ^ (min (1:Int).toNat u64.bits))))+1),h,e⟩ hr d (f6 z z z z z z) (wk ln)
    refine A'<|mv z z<|sg z z<|u'<|J'<|Y' ⟨f,i64.wrap (Int.fdiv (u64.wrap (i64.wrap (f+h))) (2 ^ (min (1:Int).toNat u64.bits))),e⟩ hr d (f6 z z z z z z) (wk ln)
   refine ao'<|r'<|r'<|O'<|ap' ⟨f,e⟩ ⟨d,hr⟩ (f5 z z z z z) (wk ln)
 rintro⟨k,j⟩ ⟨n,hr⟩
 refine g'<|sr<|mv z z<|mv z z<|mv z z<|ad' hr z (ai' z z) z (fun F hr=>?_) (fun F hr=>?_)
 .refine mv z z<|gy z z (e' z) z<|gy z z (e' z) z<|gy z z (e' z) z ?_
  obtain⟨V,s,hr⟩:=hr
  refine gy z z (T' w' aT' (i.mono n) z z s) z ?_
  obtain⟨I,L,C,y⟩:=bq' (I' (ae' i s) n)
  refine gy z z (aA' _ bM' z z C) z<|gy z z (e' z) z ?_
  obtain⟨R,x,hr⟩:=hr
  refine F' (v' z z) z (di' E178 z z) (eI' x) z (y)<|gy z z (au' z z) z<|yy (h' z z) z<|sg z z<|sx0 z z<|j' ?_
  obtain rfl:_=r:=hr
  exact aE' z z z z
 refine mv z z<|sn8 z<|yy (l' z z) z<|sg z z<|sx0 z z<|j' ?_
 obtain rfl:_=r:=hr
 exact aE' z z z z
theorem fe'{t m H c d u v o q k n r}(hr:(Zdt t m H).Ret r):Ctr prog 142 #[.agg ((v31' t c d u v o q)).toArray,.agg ((v110' m.id k m.p n)).toArray,.bool H] (fun G=>sl Rp.str G c d t.vars/\sl b' G u v t.eqs/\sl b' G o q t.neqs/\sl K' G k n m.p) (w31' r):=by
 refine E' (args:=[_,_,_]) (N:=32) func142 z z z (fun w0 G0 x Q=>?_)
 obtain⟨l,A,y,V⟩:=Q
 have hz:w0.L.zero:=by rw[x]; intro p hp; simp at hp
 refine sr<|af' 3 z z z fun b1=>af' 4 z z z fun b2=>V' 6 z z31 z fun b3=>nr<|yy (o' 3 at' z z z) z<|mv z z ?_
 obtain⟨az,T,hr⟩:=hr
 refine P' z z (t' E140 z) (dW' T) z (⟨l,A,y⟩) (fun aj aE g F=>?_)
 obtain⟨ai,al,rfl,S⟩:=F
 obtain⟨ay,W,hr⟩:=hr
 refine cN' z z (t' E176 z) (cc' W) z (S) ln hz (fun af aB am f D=>?_)
 obtain⟨ap,an,ae,rfl,rfl,K⟩:=D
 refine bK' (fun w J=>J.rekey (i:=7000) (j:=4013) z (by rw[x]; rfl))<|sg z z<|nr<|mv z z<|yy (bo' z) z<|yy (f' 4 sc3 z z z) z ?_
 obtain⟨aA,X,hr⟩:=hr
 refine WL.peekROZ (L1:=[]) (r:=b') (e:=110) 4013 K z hz z z (fun _=>t' E177 z) (Ctr.ro (cp' X)) z (fun G' ax Z=>Z) ln (fun i hi=>by simp at hi) hz<|mv z z<|yy (y' z z) z<|yy (y' z z) z<|sg z z<|sg z z<|nr<|mv z z<|mv z z<|yy (o' 4 bM' z z z) z<|bd' (e:=110) (r:=b') (vs:=#[(0,.agg ((v110' m.id k m.p n)).toArray)]) (cs:=(v110' m.id k m.p n)++([])) ([m]:List Zb) z z z z z (by decide) (fun _=>by kernel_rfl) ⟨(v110' m.id k m.p n),[],z,⟨[i' m.id],[.slice k m.p.length n],z,z,⟨_,z,(V.mono (mt g f))⟩⟩,z⟩ (key:=999) z (by rw[x]; rfl) (fun p1 aD h Y=>?_)
 obtain⟨O,P,hr⟩:=hr
 refine bK' (fun w J=>J.rekey (i:=4013) (j:=5000) z (by rw[x]; rfl))<|cN' z z (t' E180 z) (dA' P) z (⟨(K.mono h),Y⟩) (lc z ln) hz (fun aq au ag s E=>?_)
 obtain⟨I,L,ab,rfl,rfl,M⟩:=E
 refine bK' (fun w J=>J.rekey (i:=5000) (j:=4025) z (by rw[x]; rfl))<|sx0 z z<|n'<|sr<|mv z z<|nx<|aL' hr z (fun aa hr=>?_) (fun aa hr=>?_)
 .refine A'<|mv z z<|yy (ba' z) z<|aC' 3 ([.slice c t.vars.length d,.slice u t.eqs.length v,.slice I O.length L,i' t.next]).toArray z sz29 z z z (show 2<4 by decide) z z<|nr<|bn' (r:=b') (e:=110) 4025 M z (by rw[x]; rfl) fun aC av B U ac=>yy (o' 3 at' z z z) z<|s' 6 z aV' z z z z z (List.all_eq_true.1 z)<|nx<|j' ?_
  obtain rfl:_=r:=hr
  have N1:=mt (mt (mt (mt g f) h) s) B
  exact k' z (aa' (i:=6) at' z z z) ⟨_,_,_,_,_,_,z,(l.mono N1),(A.mono N1),U⟩
 refine A'<|mv z z<|yy (aY' z) z<|aC' 3 ([.slice c t.vars.length d,.slice I O.length L,.slice o t.neqs.length q,i' t.next]).toArray z sz29 z z z (show 1<4 by decide) z z<|nr<|bn' (r:=b') (e:=110) 4025 M z (by rw[x]; rfl) fun ar aw C R ad=>yy (o' 3 at' z z z) z<|s' 6 z aV' z z z z z (List.all_eq_true.1 z)<|nx<|j' ?_
 obtain rfl:_=r:=hr
 have N2:=mt (mt (mt (mt g f) h) s) C
 exact k' z (aa' (i:=6) at' z z z) ⟨_,_,_,_,_,_,z,(l.mono N2),R,(y.mono N2)⟩
theorem gR'{o c s t p q j k f g r}(hr:(Ziu o c).Ret r):Ctr prog 89 #[.agg ((v31' o s t p q j k)).toArray,.agg ((v48' c f g)).toArray] (fun G=>sl Rp.str G s t o.vars/\sl b' G p q o.eqs/\sl b' G j k o.neqs/\sl K' G f g c.p) (w31t' r):=by
 refine E' (args:=[_,_]) (N:=41) func89 z z z (fun w0 G0 an au=>?_)
 obtain⟨u,A,y,D⟩:=au
 refine sr<|af' 117802 z z z fun b1=>af' 117803 z z z fun b2=>V' 4 z z31 z fun b3=>sx0 z z<|n'<|bG' 117803 z (by rw[an]; rfl) fun a3 l aj ax=>bG' 117802 z (by rw[an]; rfl) fun aq m ai aC=>ah' [ff,ff,ff,ff,ff,ff,ff] mix (by kernel_rfl) fun hb=>cn (fun _ n=>bQ' z z) ?_
 obtain⟨al,aw,hr⟩:=hr
 refine aX' (post:=fun G v=>∃ B F,v=B/\FnRd prog fa0 foI G B F al) (fun _=>z) (fun _ _=>t' E121 z) (by' aw) z (fun G' n=>((show FnRd prog fa0 foB aq (.func (.func 137) #[] #[pt0 b2,pt0 b1]) () (fun _=>Zau c o) from (dr' E137 (fun x hx=>ds' (fZ' _ _ _ _ x hx) (fun G' n=>⟨(I' (ck' (r:=ab') (cs:=(v48' c f g)) aj z ⟨[i' c.kind],[.string c.name,i' c.at',i' c.to',i' c.id,.slice f c.p.length g,.bool c.neq],z,z,⟨[.string c.name],[i' c.at',i' c.to',i' c.id,.slice f c.p.length g,.bool c.neq],z,z,⟨[i' c.at'],[i' c.to',i' c.id,.slice f c.p.length g,.bool c.neq],z,z,⟨[i' c.to'],[i' c.id,.slice f c.p.length g,.bool c.neq],z,z,⟨[i' c.id],[.slice f c.p.length g,.bool c.neq],z,z,⟨[.slice f c.p.length g],[.bool c.neq],z,⟨_,z,(D.mono l)⟩,z⟩⟩⟩⟩⟩⟩) (mt m n)),(I' (ck' (r:=aR') (cs:=(v31' o s t p q j k)) ai z ⟨[.slice s o.vars.length t],[.slice p o.eqs.length q,.slice j o.neqs.length k,i' o.next],z,⟨_,z,(u.mono (mt l m))⟩,⟨[.slice p o.eqs.length q],[.slice j o.neqs.length k,i' o.next],z,⟨_,z,(A.mono (mt l m))⟩,⟨[.slice j o.neqs.length k],[i' o.next],z,⟨_,z,(y.mono (mt l m))⟩,z⟩⟩⟩) n)⟩)))).mono n)) (fun v G1 G2 n h=>?_) ?_
 .obtain⟨B,F,rfl,K⟩:=h
  exact⟨_,_,z,K.mono n⟩
 refine cu (fun _ _ n=>bQ' z z) ?_
 obtain⟨ak,aA,hr⟩:=hr
 refine aX' (post:=fun G v=>∃ C I,v=C/\FnRd prog fa0 foI G C I ak) (fun _=>z) (fun _ _=>t' E121 z) (by' aA) z (fun G' n=>((show FnRd prog fa0 foB aq (.func (.func 139) #[] #[pt0 b1,pt0 b2]) () (fun _=>ZaJ o c) from (dr' E139 (fun x hx=>ds' (ga' _ _ _ _ x hx) (fun G' n=>⟨(I' (ck' (r:=aR') (cs:=(v31' o s t p q j k)) ai z ⟨[.slice s o.vars.length t],[.slice p o.eqs.length q,.slice j o.neqs.length k,i' o.next],z,⟨_,z,(u.mono (mt l m))⟩,⟨[.slice p o.eqs.length q],[.slice j o.neqs.length k,i' o.next],z,⟨_,z,(A.mono (mt l m))⟩,⟨[.slice j o.neqs.length k],[i' o.next],z,⟨_,z,(y.mono (mt l m))⟩,z⟩⟩⟩) n),(I' (ck' (r:=ab') (cs:=(v48' c f g)) aj z ⟨[i' c.kind],[.string c.name,i' c.at',i' c.to',i' c.id,.slice f c.p.length g,.bool c.neq],z,z,⟨[.string c.name],[i' c.at',i' c.to',i' c.id,.slice f c.p.length g,.bool c.neq],z,z,⟨[i' c.at'],[i' c.to',i' c.id,.slice f c.p.length g,.bool c.neq],z,z,⟨[i' c.to'],[i' c.id,.slice f c.p.length g,.bool c.neq],z,z,⟨[i' c.id],[.slice f c.p.length g,.bool c.neq],z,z,⟨[.slice f c.p.length g],[.bool c.neq],z,⟨_,z,(D.mono l)⟩,z⟩⟩⟩⟩⟩⟩) (mt m n))⟩)))).mono n)) (fun v G1 G2 n h=>?_) ?_
 .obtain⟨C,I,rfl,O⟩:=h
  exact⟨_,_,z,O.mono n⟩
 refine cu (fun _ _ n=>o' 117802 at' z z z)<|cu (fun _ _ n=>dm' z)<|cu (fun _ _ n=>f' 117803 cF' z z z)<|du' (d:=11) (post:=fun G v=>∃ C I,v=C/\FnRd prog fa0 foI G C I ak) (d':=9) (post':=fun G v=>∃ B F,v=B/\FnRd prog fa0 foI G B F al) (fun aM aP a2 E aa af=>?_)
 obtain⟨C,I,rfl,O⟩:=aa
 obtain⟨B,F,rfl,K⟩:=af
 obtain⟨a0,aE,hr⟩:=hr
 have N1:=mt (mt l m) E
 refine P' z z (t' E141 z) (fF' aE) z (⟨(u.mono N1),(A.mono N1),(y.mono N1),(D.mono N1)⟩) (fun aO aX M ah=>?_)
 obtain⟨aR,aV,rfl,av⟩:=ah
 obtain⟨aK,ar,hr⟩:=hr
 refine P' z z (t' E121 z) (by' ar) z (av) (fun aU aY J ac=>?_)
 obtain⟨aN,aW,rfl,ao⟩:=ac
 obtain⟨am,R,rfl⟩:=ch' K
 obtain⟨Z,L,rfl⟩:=ch' O
 obtain⟨P,H,rfl⟩:=ch' ao
 refine bd' (e:=178) (r:=(Rp.fn prog fa0 foI)) (vs:=#[(0,(.func (.func am) #[] R)),(1,(.func (.func Z) #[] L)),(2,(.func (.func P) #[] H))]) (cs:=[(.func (.func am) #[] R)]++([(.func (.func Z) #[] L)]++([(.func (.func P) #[] H)]++([])))) ([al,ak,aK]:List (Unit->Cq Int)) z z z z z (by decide) (fun _=>by kernel_rfl) ⟨[(.func (.func am) #[] R)],[(.func (.func Z) #[] L)]++([(.func (.func P) #[] H)]++([])),z,⟨_,z,(K.mono (mt M J))⟩,⟨[(.func (.func Z) #[] L)],[(.func (.func P) #[] H)]++([]),z,⟨_,z,(O.mono (mt M J))⟩,⟨[(.func (.func P) #[] H)],[],z,⟨_,z,ao⟩,z⟩⟩⟩ (key:=999) z (by rw[an]; rfl) (fun p1 aZ ap aG=>?_)
 obtain⟨a4,az,hr⟩:=hr
 refine F' z z (t' E120 z) (cT' az) z (aG)<|sg z z<|dd' 117802 z aC l (mt (mt (mt (mt m E) M) J) ap)<|dd' 117803 z ax mr l<|u'<|aq'<|g'<|n'<|sr<|mv z z<|yy (aw' z z) z<|nx<|L' hr z (fun aH hr=>?_) (fun aH hr=>?_)
 .refine sr<|yy (av' (vs:=#[]) (v:=.agg ([.slice none 0 0,.slice none 0 0,.slice none 0 0,i' 0]).toArray) z z (fun _=>by kernel_rfl)) z<|mv z z<|s' 4 z aV' z z z z z (List.all_eq_true.1 z)<|sx0 z z<|j'<|a' ?_
  obtain rfl:_=r:=hr
  exact aE' z (aa' (i:=4) at' z z z) z ⟨_,_,_,_,_,_,z,(W' Rp.str _),(W' b' _),(W' b' _)⟩
 refine q'<|g'<|sr<|yy (o' 117802 at' z z z) z<|yy (o' 117803 bO' z z z) z ?_
 obtain⟨Y,aF,hr⟩:=hr
 refine F' z z (t' E65 z) (fd' aF) z (⟨u,A,y,D⟩)<|sg z z<|nr<|yy (o' 117802 at' z z z) z<|mv z z<|yy (dm' z) z<|yy (f' 117803 cF' z z z) z<|yy (av' (vs:=#[(0,i' Y),(1,.slice f c.p.length g)]) (v:=.agg ([i' Y,.slice f c.p.length g]).toArray) z z (fun _=>by kernel_rfl)) z<|yy (dC' z) z<|yy (f' 117803 sc4 z z z) z ?_
 obtain⟨Q,ay,hr⟩:=hr
 refine P' z z (t' E142 z) (fe' ay) z (⟨u,A,y,D⟩) (fun aQ a1 aL ag=>?_)
 obtain⟨X,S,ad,ae,U,T,rfl,V,ab,W⟩:=ag
 refine s' 117802 z aV' z z z z z (List.all_eq_true.1 z)<|nr<|yy (bw' z) z<|yy (f' 117802 sc3 z z z) z<|mv z z<|yy (X' z z) z<|yy (en' z z) z<|yy (bw' z) z<|aC' 117802 ([.slice X Q.vars.length S,.slice ad Q.eqs.length ae,.slice U Q.neqs.length T,i' (if Q.next<(i64.wrap (Y+1)) then (i64.wrap (Y+1)) else Q.next)]).toArray z sz3 z z z (show 3<4 by decide) z z<|nr<|yy (o' 117802 at' z z z) z<|s' 4 z aV' z z z z z (List.all_eq_true.1 z)<|sx0 z z<|j' ?_
 obtain rfl:_=r:=hr
 exact aE' z (aa' (i:=4) at' z z z) z ⟨_,_,_,_,_,_,z,V,ab,W⟩
theorem eB'{g c d e f r}(hr:(ZcN g c).Ret r):CtrL prog 181 #[.agg ((v110' g.id d g.p e)).toArray,pt0 f] [(128603,bk0 f ([i' c]) 3)] (fun G=>sl K' G d e g.p) (fun G L v=>L=[(128603,bk0 f ([i' c]) 3)]/\v = .bool r):=by
 refine bg' (args:=[_,_]) (N:=8) func181 z z z (fun k i l h=>?_)
 have j:=h
 refine sr<|af' 2 z z z fun m=>sg z z<|nr<|yy (bo' z) z<|yy (f' 2 sc3 z z z) z<|yy (f' 128603 sc3 z z z) z<|yy (au' z z) z<|sx0 z z<|j' ?_
 obtain rfl:_=r:=hr
 refine aK' (S':=St k i i [(128603,bk0 f ([i' c]) 3)]) (w1 z)<|k' z z ⟨z,z⟩
theorem cG'{q c m s h r}(hr:(Zy q c).Ret r):CtrL prog 200 #[.slice m q.length s,.func (.func 181) #[] #[pt0 h]] [(128603,bk0 h ([i' c]) 3)] (fun G=>sl b' G m s q) (fun G L v=>L=[(128603,bk0 h ([i' c]) 3)]/\v=i' r):=by
 refine bg' (args:=[_,_]) (N:=19) func200 z z z (fun o k J B=>?_)
 have t:=B
 have hz:o.L.zero:=by
  rw[J]; intro p I x E
  simp only[List.mem_cons,List.not_mem_nil,or_false] at I
  subst I; cases E; rfl
 refine sr<|sx0 z z<|n'<|sr<|mv z z<|yy (M' w' t z) z<|mv z z<|nx<|am' (fun (j:Mem)=>match j with|g=>[]) (fun (j:Mem)=>match j with|g=>Mem.le k g/\(Zx).Ret r) (fun (j:Mem)=>match j with|g=>St o k g [(128603,bk0 h ([i' c]) 3)]) ?_ ?_
 .refine B' ?_
  let n:(Int⊕Unit)->Prop:=fun T=>((fun R=>match R with | .inl rv1=>Cq.ret rv1 | .inr ()=>Zx:(Int⊕Unit)->Cq Int) T).wp (fun a=>a=r)
  replace hr:(Cq.loop _ _).wp n:=hr
  refine an' (Φ:=n) (fun (⟨d,f⟩:Int×Mem)=>(d:Int)) (fun ⟨d,f⟩=>[(0,.slice m q.length s),(1,.func (.func 181) #[] #[pt0 h]),(7,i' (q.length:Int)),(8,i' d)]) (fun ⟨d,f⟩=>Mem.le k f) (fun ⟨d,f⟩=>St o k f [(128603,bk0 h ([i' c]) 3)]) ⟨0,k⟩ hr (f4 z z z z) mr (w1 z) ?_
  .intro V j E hr
   obtain⟨d,f⟩:=j
   have e:=E
   refine sr<|yy (ai' z z) z<|nx<|n'<|L' hr z (fun M hr=>?_) (fun M hr=>?_)
   .refine q'<|g'<|n'<|B'<|sr<|mv z z<|sg z z<|nr<|mv z z<|mv z z<|mv z z ?_
    obtain⟨W,y,hr⟩:=hr
    refine yy (T' w' aT' (t.mono e) z z y) z ?_
    obtain⟨P,S,H,D⟩:=bq' (I' (ae' t y) e)
    refine yy (aA' _ bM' z z H) z ?_
    obtain⟨U,C,hr⟩:=hr
    refine WL.callRO z z (di' E181 z z) (eB' C) z (D) (lc z ln) (fun i K=>by simp only[List.map_cons,List.map_nil,List.mem_cons,List.not_mem_nil,or_false] at K; subst K; exact z) hz (fun Q A u l=>?_)
    subst l
    refine nx<|aL' hr z (fun F hr=>?_) (fun F hr=>?_)
    .refine sr<|mv z z<|sx0 z z<|j'<|m'<|a'<|a'<|m'<|ag'<|a' ?_
     obtain rfl:_=r:=hr
     refine aK' (S':=St o k A [(128603,bk0 h ([i' c]) 3)]) (w1 z)<|k' z z ⟨z,z⟩
    refine q'<|J'<|g'<|A'<|yy (X' z z) z<|mv z z<|u'<|Y' ⟨i64.wrap (d+1),A⟩ hr (mt e u) (f4 z z z z) (w1 z)
   refine ao'<|r'<|r'<|O'<|ap' f ⟨e,hr⟩ fn (w1 z)
 rintro g ⟨O,hr⟩
 refine g'<|sr<|sx0 z z<|j' ?_
 obtain rfl:_=r:=hr
 refine aK' (S':=St o k g [(128603,bk0 h ([i' c]) 3)]) (w1 z)<|k' z z ⟨z,z⟩
theorem bP'{W f m o n t A r}(hr:(Zw W f).Ret r):CtrL prog 182 #[.slice m n o,.func (.func 181) #[] #[pt0 A]] [(5000,t),(128603,bk0 A ([i' f]) 3)] (fun G=>RowR b' 110 G (.slice m n o) W t) (fun G L v=>∃ zp zc U,L=[(5000,U),(128603,bk0 A ([i' f]) 3)]/\v = .slice zp r.length zc/\RowR b' 110 G (.slice zp r.length zc) r U):=by
 refine bg' (args:=[_,_]) (N:=42) func182 z z z (fun J C aj X=>?_)
 have q:=X
 have hz:J.L.zero:=by
  rw[aj]; intro p hp x O
  simp only[List.mem_cons,List.not_mem_nil,or_false] at hp
  rcases hp with rfl|rfl
  .exact RowR.zero q O
  cases O; rfl
 refine sr<|sg z z<|nr<|mv z z<|mv z z ?_
 obtain⟨P,Y,hr⟩:=hr
 refine WL.peekROZ (r:=b') (e:=110) 5000 q z hz z z (fun _=>t' E200 z) (cG' Y) (by rw[RowR.eqv q]) (fun G' ay am=>(cw' am)) (lc z ln) (fun i hi=>by simp only[List.map_cons,List.map_nil,List.mem_cons,List.not_mem_nil,or_false] at hi; subst hi; exact⟨z,by decide⟩) hz<|sx0 z z<|n'<|sr<|mv z z<|yy (au' z z) z<|nx<|L' hr z (fun ak hr=>?_) (fun ak hr=>?_)
 .refine sr<|mv z z<|sx0 z z<|j'<|a' ?_
  obtain rfl:_=r:=hr
  refine aK' (S':=St J C C [(5000,t),(128603,bk0 A ([i' f]) 3)]) (w2 z z)<|k' z z ⟨_,_,_,z,(RowR.eqv q),(RowR.std q)⟩
 refine q'<|g'<|n'<|sr<|mv z z<|yy (X' z z) z<|sx0 z z<|am' (fun (⟨D,k,s,l⟩:(List Zb)×Option Ow×Int×Mem)=>[(0,.slice m n o),(5,i' s)]) (fun ⟨D,k,s,l⟩=>Mem.le C l/\RowR b' 110 l (.slice m n o) D k/\(Zt D s).Ret r) (fun ⟨D,k,s,l⟩=>St J C l [(128603,bk0 A ([i' f]) 3),(5000,k)]) ?_ ?_
 .refine B' ?_
  let I:(((List Zb)×Int))->Prop:=fun oo=>((fun ov=>match ov with|(D,s)=>Zt D s:(((List Zb)×Int))->Cq (List Zb)) oo).wp (fun a=>a=r)
  replace hr:(Cq.loop _ _).wp I:=hr
  refine an' (Φ:=I) (fun (⟨u,c,j,B,h⟩:(List Zb)×Option Ow×Int×Int×Mem)=>((u,j,B):(List Zb)×Int×Int)) (fun ⟨u,c,j,B,h⟩=>[(0,.slice m n o),(1,.func (.func 181) #[] #[pt0 A]),(5,i' j),(6,i' B)]) (fun ⟨u,c,j,B,h⟩=>Mem.le C h/\RowR b' 110 h (.slice m n o) u c) (fun ⟨u,c,j,B,h⟩=>St J C h [(128603,bk0 A ([i' f]) 3),(5000,c)]) ⟨W,t,P,i64.wrap (P+1),C⟩ hr (f4 z z z z) ⟨mr,q⟩ (w2 z z) ?_
  .intro ax gx O hr
   obtain⟨u,c,j,B,h⟩:=gx
   obtain⟨y,g⟩:=O
   refine n'<|sr<|mv z z<|mv z z<|yy (dB' w' g z) z<|yy (ai' z z) z<|nx<|L' hr z (fun ab hr=>?_) (fun ab hr=>?_)
   .refine q'<|g'<|n'<|B'<|sr<|mv z z<|mv z z ?_
    obtain⟨F,Q,hr⟩:=hr
    refine yy (aP' w' aT' g z z Q) z ?_
    obtain⟨H,K,ad,M⟩:=bq' (cz' g Q)
    refine yy (ew' _ bM' g (key:=5000) z z z (by decide) ad) z<|V' 7 z z110 z fun b2=>s' 7 z aT' z z z z z (List.all_eq_true.1 z)<|nr<|mv z z<|yy (o' 7 bM' z z z) z ?_
    obtain⟨az,Z,hr⟩:=hr
    refine WL.callRO z z (di' E181 z z) (eB' Z) z (M) (lc z ln) (fun i hi=>by simp only[List.map_cons,List.map_nil,List.mem_cons,List.not_mem_nil,or_false] at hi; subst hi; exact z) hz (fun ar S d E=>?_)
    subst E
    refine yy (al' z) z<|nx<|aL' hr z (fun ae hr=>?_) (fun ae hr=>?_)
    .refine sr<|mv z z<|mv z z<|yy (o' 7 bM' z z z) z ?_
     obtain⟨x2,R,hr⟩:=hr
     refine yy (aP' w' aT' (g.mono d) z z R) z<|bx' (r:=b') (e:=110) (cs':=(v110' F.id H F.p K)) (i:=j) (z':=F) 5000 z aT' z (g.mono d) z z z z ⟨[i' F.id],[.slice H F.p.length K],z,z,⟨_,z,(M.mono d)⟩⟩ R fun al aa=>nx<|A'<|mv z z<|yy (X' z z) z<|sg z z<|u'<|J'<|g'<|A'<|mv z z<|yy (X' z z) z<|sg z z<|u'<|Y' ⟨(u.set j.toNat F),al,i64.wrap (j+1),i64.wrap (B+1),S⟩ hr ⟨(mt y d),aa⟩ (f4 z z z z) (w2 z z)
    refine q'<|J'<|g'<|A'<|mv z z<|yy (X' z z) z<|sg z z<|u'<|Y' ⟨u,c,j,i64.wrap (B+1),S⟩ hr ⟨(mt y d),(g.mono d)⟩ (f4 z z z z) (w2 z z)
   refine ao'<|r'<|r'<|O'<|ap' ⟨u,c,j,h⟩ ⟨y,g,hr⟩ (f2 z z) (w2 z z)
 rintro⟨D,k,s,l⟩ ⟨ap,ao,hr⟩
 refine g'<|sr<|mv z z<|mv z z ?_
 obtain⟨an,hr⟩:=hr
 refine WL.clearTail (r:=b') (e:=110) (lo:=s) (zx:=(Zb.mk 0 [])) 5000 z w' el110 z z (List.all_eq_true.1 z) (by decide) ⟨[i' 0],[.slice none 0 0],z,z,⟨_,z,(W' _ _)⟩⟩ ao z z z an fun aw ag V=>nr<|mv z z<|mv z z ?_
 obtain⟨ac,hr⟩:=hr
 refine WL.takeRow (r:=b') (e:=110) (hi:=s) z z w' aT' z V z z ac fun T=>sx0 z z<|j' ?_
 obtain rfl:_=r:=hr
 refine aK' (S':=St J C l [(5000,ag),(128603,bk0 A ([i' f]) 3)]) (w2 z z)<|k' z z ⟨_,_,_,z,(RowR.eqv T),(RowR.std T)⟩
theorem eR'{l I d c m n g h r}(hr:(ZcM l I).Ret r):Ctr prog 143 #[.agg ((v31' l d c m n g h)).toArray,i' I] (fun G=>y31' G d c m n g h l) (w31' r):=by
 refine E' (args:=[_,_]) (N:=20) func143 z z z (fun w0 G0 f Q=>?_)
 obtain⟨x,F,D⟩:=Q
 have hz:w0.L.zero:=by rw[f]; intro p hp; simp at hp
 refine sr<|af' 2 z z z fun b1=>af' 128603 z z z fun b2=>V' 4 z z31 z fun b3=>nr<|yy (bQ' z z) z<|sg z z<|nr<|yy (aY' z) z<|yy (f' 2 br' z z z) z ?_
 obtain⟨av,R,hr⟩:=hr
 refine cN' z z (t' E176 z) (cc' R) z (F) ln hz (fun ag ay ao t A=>?_)
 obtain⟨af,aq,ad,rfl,rfl,O⟩:=A
 refine bK' (fun w k=>k.rekey (i:=7000) (j:=4009) z (by rw[f]; rfl))<|mv z z ?_
 obtain⟨J,S,hr⟩:=hr
 refine bK' (fun w k=>k.rekey (i:=4009) (j:=5000) z (by rw[f]; rfl))<|cN' z z (t' E182 z) (bP' S) z (O) (lc z (lc z ln)) hz (fun ah ax ar s y=>?_)
 obtain⟨E,H,ae,rfl,rfl,V⟩:=y
 refine bK' (fun w k=>k.rekey (i:=5000) (j:=4011) z (by rw[f]; rfl))<|bn' (r:=b') (e:=110) 4011 V z (by rw[f]; rfl) fun az aB v K ab=>yy (aY' z) z<|aC' 2 ([.slice d l.vars.length c,.slice E J.length H,.slice g l.neqs.length h,i' l.next]).toArray z sz29 z z z (show 1<4 by decide) z z<|nr<|yy (ba' z) z<|yy (f' 2 br' z z z) z ?_
 obtain⟨aw,P,hr⟩:=hr
 refine cN' z z (t' E176 z) (cc' P) z ((D.mono (mt (mt t s) v))) ln hz (fun au aA ak u C=>?_)
 obtain⟨an,am,aa,rfl,rfl,T⟩:=C
 refine bK' (fun w k=>k.rekey (i:=7000) (j:=4015) z (by rw[f]; rfl))<|mv z z ?_
 obtain⟨Y,L,hr⟩:=hr
 refine bK' (fun w k=>k.rekey (i:=4015) (j:=5000) z (by rw[f]; rfl))<|cN' z z (t' E182 z) (bP' L) z (T) (lc z (lc z ln)) hz (fun ap aC ai o B=>?_)
 obtain⟨M,W,Z,rfl,rfl,X⟩:=B
 refine bK' (fun w k=>k.rekey (i:=5000) (j:=4017) z (by rw[f]; rfl))<|bn' (r:=b') (e:=110) 4017 X z (by rw[f]; rfl) fun aD aE q U ac=>yy (ba' z) z<|aC' 2 ([.slice d l.vars.length c,.slice E J.length H,.slice M Y.length W,i' l.next]).toArray z sz29 z z z (show 2<4 by decide) z z<|nr<|yy (o' 2 at' z z z) z<|s' 4 z aV' z z z z z (List.all_eq_true.1 z)<|nx<|j' ?_
 obtain rfl:_=r:=hr
 exact k' z (aa' (i:=4) at' z z z) ⟨_,_,_,_,_,_,z,(x.mono (mt (mt (mt (mt (mt t s) v) u) o) q)),(K.mono (mt (mt u o) q)),U⟩
theorem gI'{F E f d o p g h x u r}(hr:(Zg7 F E).Ret r):Ctr prog 90 #[.agg ((v31' F f d o p g h)).toArray,.agg ((v48' E x u)).toArray] (fun G=>sl Rp.str G f d F.vars/\sl b' G o p F.eqs/\sl b' G g h F.neqs/\sl K' G x u E.p) (w31t' r):=by
 refine E' (args:=[_,_]) (N:=22) func90 z z z (fun w0 G0 W O=>?_)
 obtain⟨c,n,j,aa⟩:=O
 refine sr<|af' 2 z z z fun b1=>af' 3 z z z fun b2=>V' 4 z z31 z fun b3=>sx0 z z<|n'<|sr<|yy (o' 2 at' z z z) z<|yy (aS' z) z<|yy (f' 3 sc3 z z z) z ?_
 obtain⟨ai,P,hr⟩:=hr
 refine P' z z (t' E138 z) (dx' P) z (⟨c,n,j⟩) (fun ab al l A=>?_)
 obtain⟨ac,ag,rfl,J⟩:=A
 obtain⟨Y,Q,hr⟩:=hr
 refine P' z z (t' E121 z) (by' Q) z (J) (fun ad ak k y=>?_)
 obtain⟨ah,ae,rfl,H⟩:=y
 obtain⟨D,q,rfl⟩:=ch' H
 refine bd' (e:=178) (r:=(Rp.fn prog fa0 foI)) (vs:=#[(0,(.func (.func D) #[] q))]) (cs:=[(.func (.func D) #[] q)]++([])) ([Y]:List (Unit->Cq Int)) z z z z z (by decide) (fun _=>by kernel_rfl) ⟨[(.func (.func D) #[] q)],[],z,⟨_,z,H⟩,z⟩ (key:=999) z (by rw[W]; rfl) (fun p1 am m V=>?_)
 obtain⟨aj,K,hr⟩:=hr
 refine F' z z (t' E120 z) (cT' K) z (V)<|sg z z<|nr<|mv z z<|yy (aw' z z) z<|nx<|L' hr z (fun X hr=>?_) (fun X hr=>?_)
 .refine sr<|yy (av' (vs:=#[]) (v:=.agg ([.slice none 0 0,.slice none 0 0,.slice none 0 0,i' 0]).toArray) z z (fun _=>by kernel_rfl)) z<|mv z z<|s' 4 z aV' z z z z z (List.all_eq_true.1 z)<|sx0 z z<|j'<|a' ?_
  obtain rfl:_=r:=hr
  exact aE' z (aa' (i:=4) at' z z z) z ⟨_,_,_,_,_,_,z,(W' Rp.str _),(W' b' _),(W' b' _)⟩
 refine q'<|g'<|sr<|yy (o' 2 at' z z z) z<|yy (aS' z) z<|yy (f' 3 sc3 z z z) z ?_
 obtain⟨ao,I,hr⟩:=hr
 have N1:=mt (mt l k) m
 refine P' z z (t' E143 z) (eR' I) z (⟨(c.mono N1),(n.mono N1),(j.mono N1)⟩) (fun af an Z B=>?_)
 obtain⟨L,M,T,U,S,R,rfl,s,C,t⟩:=B
 refine s' 4 z aV' z z z z z (List.all_eq_true.1 z)<|sx0 z z<|j' ?_
 obtain rfl:_=r:=hr
 exact aE' z (aa' (i:=4) at' z z z) z ⟨_,_,_,_,_,_,z,s,C,t⟩
theorem gv'{g e f h c d m r}(hr:(ZfD g e).Ret r):CtrL prog 144 #[.agg ((v110' g.id f g.p h)).toArray,pt0 m] [(118203,bk0 m (v48' e c d) 48)] (fun G=>sl K' G f h g.p/\sl K' G c d e.p) (fun G L v=>L=[(118203,bk0 m (v48' e c d) 48)]/\(∃ l k,v = .agg ((v110' r.id l r.p k)).toArray/\sl K' G l k r.p)):=by
 refine bg' (args:=[_,_]) (N:=13) func144 z z z (fun s x q n=>?_)
 obtain⟨o,j⟩:=n
 refine sr<|af' 2 z z z fun u=>V' 3 z z110 z fun t=>nx<|n'<|sr<|yy (bo' z) z<|yy (f' 2 sc3 z z z) z<|yy (aS' z) z<|yy (f' 118203 sc3 z z z) z<|yy (au' z z) z<|nx<|L' hr z (fun p hr=>?_) (fun p hr=>?_)
 .refine A'<|yy (dm' z) z<|yy (f' 118203 cF' z z z) z<|yy (bX' z) z<|aC' 2 ([i' g.id,.slice c e.p.length d]).toArray z sz46 z z z (show 1<2 by decide) z z<|nr<|yy (o' 2 bM' z z z) z<|s' 3 z aT' z z z z z (List.all_eq_true.1 z)<|nx<|j' ?_
  obtain rfl:_=r:=hr
  exact WE.retW1 z (aa' (i:=3) bM' z z z) (lc z ln) ⟨z,⟨_,_,z,j⟩⟩
 refine q'<|g'<|sr<|yy (o' 2 bM' z z z) z<|s' 3 z aT' z z z z z (List.all_eq_true.1 z)<|nx<|j' ?_
 obtain rfl:_=r:=hr
 exact WE.retW1 z (aa' (i:=3) bM' z z z) (lc z ln) ⟨z,⟨_,_,z,o⟩⟩
theorem cK'{h j J M d f y r}(hr:(ZL h j).Ret r):CtrL prog 145 #[.slice J h.length M,.func (.func 144) #[] #[pt0 y]] [(118203,bk0 y (v48' j d f) 48)] (fun G=>sl b' G J M h/\sl K' G d f j.p) (fun G L v=>L=[(118203,bk0 y (v48' j d f) 48)]/\(∃ zp zc,v = .slice zp r.length zc/\sl b' G zp zc r)):=by
 refine bg' (args:=[_,_]) (N:=26) func145 z z z (fun P F T U=>?_)
 obtain⟨B,K⟩:=U
 have hz:P.L.zero:=by
  rw[T]; intro p hp x hx
  simp only[List.mem_cons,List.not_mem_nil,or_false] at hp
  subst hp; cases hx; rfl
 refine sr<|sg z z<|nr<|mv z z<|yy (M' w' B z) z ?_
 obtain⟨ag,hr⟩:=hr
 refine dS' (r:=b') (e:=110) (n:=(h.length:Int)) (zx:=(Zb.mk 0 [])) 4010 z z w' el110 z (by decide) (by decide) ⟨[i' 0],[.slice none 0 0],z,z,⟨_,z,(W' _ _)⟩⟩ z z ag fun Q V ab=>sx0 z z<|n'<|sr<|mv z z<|yy (M' w' B z) z<|mv z z<|nx<|am' (fun (⟨q,k,t⟩:(List Zb)×Option Ow×Mem)=>[(5,.slice Q (h.length:Int).toNat ((h.length:Int).toNat))]) (fun ⟨q,k,t⟩=>Mem.le F t/\RowR b' 110 t (.slice Q (h.length:Int).toNat ((h.length:Int).toNat)) q k/\(ZR q).Ret r) (fun ⟨q,k,t⟩=>St P F t [(118203,bk0 y (v48' j d f) 48),(4010,k)]) ?_ ?_
 .refine B' ?_
  let I:(List Zb)->Prop:=fun oo=>((fun ov=>match ov with|q=>ZR q:(List Zb)->Cq (List Zb)) oo).wp (fun a=>a=r)
  replace hr:(Cq.loop _ _).wp I:=hr
  refine an' (Φ:=I) (fun (⟨m,g,c,o⟩:(List Zb)×Option Ow×Int×Mem)=>((m,c):(List Zb)×Int)) (fun ⟨m,g,c,o⟩=>[(1,.func (.func 144) #[] #[pt0 y]),(5,.slice Q (h.length:Int).toNat ((h.length:Int).toNat)),(11,.slice J h.length M),(12,i' (h.length:Int)),(13,i' c)]) (fun ⟨m,g,c,o⟩=>Mem.le F o/\RowR b' 110 o (.slice Q (h.length:Int).toNat ((h.length:Int).toNat)) m g) (fun ⟨m,g,c,o⟩=>St P F o [(118203,bk0 y (v48' j d f) 48),(4010,g)]) ⟨(List.replicate (h.length:Int).toNat (Zb.mk 0 [])),V,0,F⟩ hr (f5 z z z z z) ⟨mr,ab⟩ (w2 z z) ?_
  .intro ay gx hx hr
   obtain⟨m,g,c,o⟩:=gx
   obtain⟨l,A⟩:=hx
   refine sr<|yy (ai' z z) z<|nx<|n'<|L' hr z (fun aj hr=>?_) (fun aj hr=>?_)
   .refine q'<|g'<|n'<|B'<|sr<|mv z z ?_
    obtain⟨x1,R,hr⟩:=hr
    refine yy (T' w' aT' (B.mono l) z z R) z ?_
    obtain⟨ap,av,ad,W⟩:=bq' (I' (ae' B R) l)
    refine yy (aA' _ bM' z z ad) z<|V' 7 z z110 z fun b2=>sg z z<|s' 7 z aT' z z z z z (List.all_eq_true.1 z)<|nx<|A'<|mv z z<|mv z z<|mv z z<|yy (o' 7 bM' z z z) z ?_
    obtain⟨s,X,hr⟩:=hr
    refine WL.callRO z z (di' E144 z z) (gv' X) z (⟨W,(K.mono l)⟩) (lc z ln) (fun i hi=>by simp only[List.map_cons,List.map_nil,List.mem_cons,List.not_mem_nil,or_false] at hi; subst hi; exact z) hz (fun ar ac u E=>?_)
    obtain⟨D,C,rfl,O⟩:=E
    obtain⟨x2,S,hr⟩:=hr
    refine yy (aP' w' aT' (A.mono u) z z S) z<|bx' (r:=b') (e:=110) (cs':=(v110' s.id D s.p C)) (i:=c) (z':=s) 4010 z aT' z (A.mono u) z z z z ⟨[i' s.id],[.slice D s.p.length C],z,z,⟨_,z,O⟩⟩ S fun ak Z=>u'<|J'<|g'<|A'<|yy (X' z z) z<|mv z z<|u'<|Y' ⟨(m.set c.toNat s),ak,i64.wrap (c+1),ac⟩ hr ⟨(mt l u),Z⟩ (f5 z z z z z) (w2 z z)
   refine ao'<|r'<|r'<|O'<|ap' ⟨m,g,o⟩ ⟨l,A,hr⟩ (f1 z) (w2 z z)
 rintro⟨q,k,t⟩ ⟨an,Y,hr⟩
 refine g'<|sr<|mv z z<|sx0 z z<|j' ?_
 obtain rfl:_=r:=hr
 refine WE.freezeT (r:=b') (e:=110) 4010 Y z (by rw[T]; rfl) fun ax af am H ao=>aK' (S':=St P F af [(118203,bk0 y (v48' j d f) 48)]) (w1 z)<|k' z z ⟨z,⟨_,_,(cH' H),(cw' H)⟩⟩
theorem gS'{F L l o M O x y B C r}(hr:(Ziw F L).Ret r):Ctr prog 91 #[.agg ((v31' F l o M O x y)).toArray,.agg ((v48' L B C)).toArray] (fun G=>sl Rp.str G l o F.vars/\sl b' G M O F.eqs/\sl b' G x y F.neqs/\sl K' G B C L.p) (w31t' r):=by
 refine E' (args:=[_,_]) (N:=36) func91 z z z (fun w0 G0 ao aq=>?_)
 obtain⟨t,D,A,J⟩:=aq
 have hz:w0.L.zero:=by rw[ao]; intro p hp; simp at hp
 refine sr<|af' 2 z z z fun b1=>af' 118203 z z z fun b2=>V' 4 z z31 z fun b3=>sx0 z z<|n'<|ah' [ff,ff,ff,ff,ff,ff,ff,ff] mix (by kernel_rfl) fun hb=>cn (fun _ c=>o' 2 at' z z z)<|cn (fun _ c=>aS' z)<|cn (fun _ c=>f' 118203 sc3 z z z) ?_
 obtain⟨af,au,hr⟩:=hr
 refine aX' (post:=fun G v=>∃ j k,v=j/\FnRd prog fa0 foB G j k af) (fun _=>z) (fun _ _=>t' E138 z) (dx' au) z (fun G' c=>⟨(t.mono c),(D.mono c),(A.mono c)⟩) (fun v G1 G2 c h=>?_) ?_
 .obtain⟨j,k,rfl,H⟩:=h
  exact⟨_,_,z,H.mono c⟩
 obtain⟨ae,ay,hr⟩:=hr
 refine cD' (f:=121) (φ:=fun G v=>∃ q E,v=q/\FnRd prog fa0 foI G q E ae) (fun _=>z) (fun v G1 G2 c h=>?_) (fun u G' c hu=>?_) ?_
 .obtain⟨q,E,rfl,K⟩:=h
  exact⟨_,_,z,K.mono c⟩
 .obtain⟨⟨j,k,ak,H⟩,_⟩:=(show (fun G v=>∃ j k,v=j/\FnRd prog fa0 foB G j k af) G'.m (u 11)/\True from hu)
  exact⟨_,_,_,fun _=>t' E121 z,by' ay,(by simp only[ak] <;> rfl),H⟩
 refine cu (fun _ _ c=>o' 2 at' z z z)<|cu (fun _ _ c=>dm' z)<|cu (fun _ _ c=>f' 118203 cF' z z z)<|du' (d:=12) (post:=fun G v=>∃ q E,v=q/\FnRd prog fa0 foI G q E ae) (d':=11) (post':=fun G v=>∃ j k,v=j/\FnRd prog fa0 foB G j k af) (fun aG aK aY g W Z=>?_)
 obtain⟨q,E,rfl,K⟩:=W
 obtain⟨j,k,rfl,H⟩:=Z
 obtain⟨aV,aA,hr⟩:=hr
 refine P' z z (t' E141 z) (fF' aA) z (⟨(t.mono g),(D.mono g),(A.mono g),(J.mono g)⟩) (fun aJ aW m ab=>?_)
 obtain⟨aM,aR,rfl,ar⟩:=ab
 obtain⟨aF,ap,hr⟩:=hr
 refine P' z z (t' E121 z) (by' ap) z (ar) (fun aQ aX n X=>?_)
 obtain⟨aI,aS,rfl,aj⟩:=X
 obtain⟨ag,P,rfl⟩:=ch' K
 obtain⟨V,I,rfl⟩:=ch' aj
 refine bd' (e:=178) (r:=(Rp.fn prog fa0 foI)) (vs:=#[(0,(.func (.func ag) #[] P)),(1,(.func (.func V) #[] I))]) (cs:=[(.func (.func ag) #[] P)]++([(.func (.func V) #[] I)]++([]))) ([ae,aF]:List (Unit->Cq Int)) z z z z z (by decide) (fun _=>by kernel_rfl) ⟨[(.func (.func ag) #[] P)],[(.func (.func V) #[] I)]++([]),z,⟨_,z,(K.mono (mt m n))⟩,⟨[(.func (.func V) #[] I)],[],z,⟨_,z,aj⟩,z⟩⟩ (key:=999) z (by rw[ao]; rfl) (fun p1 aT s aC=>?_)
 obtain⟨aZ,ax,hr⟩:=hr
 refine F' z z (t' E120 z) (cT' ax) z (aC)<|sg z z<|u'<|aq'<|g'<|n'<|sr<|mv z z<|yy (aw' z z) z<|nx<|L' hr z (fun aD hr=>?_) (fun aD hr=>?_)
 .refine sr<|yy (av' (vs:=#[]) (v:=.agg ([.slice none 0 0,.slice none 0 0,.slice none 0 0,i' 0]).toArray) z z (fun _=>by kernel_rfl)) z<|mv z z<|s' 4 z aV' z z z z z (List.all_eq_true.1 z)<|sx0 z z<|j'<|a' ?_
  obtain rfl:_=r:=hr
  exact aE' z (aa' (i:=4) at' z z z) z ⟨_,_,_,_,_,_,z,(W' Rp.str _),(W' b' _),(W' b' _)⟩
 refine q'<|g'<|sr<|yy (bQ' z z) z<|sx0 z z<|n'<|ah' [ff,ff,ff,ff,ff,ff,ff,ff,ff] mix (by kernel_rfl) fun hb=>cn (fun _ c=>aY' z)<|cn (fun _ c=>f' 2 br' z z z)<|cn (fun _ c=>e' z) ?_
 obtain⟨U,aB,hr⟩:=hr
 refine ez' (f:=145) (φ:=wl' b' U) (L1:=[(118203,bk0 b2 (v48' L B C) 48)]) (fun _=>z) (fun v G1 G2 c h=>?_) (lc z ln) (fun i hi=>by simp only[List.map_cons,List.map_nil,List.mem_cons,List.not_mem_nil,or_false] at hi; subst hi; exact z) hz (fun u G' c hu=>?_) ?_
 .obtain⟨Q,S,rfl,T⟩:=h
  exact⟨_,_,z,T.mono c⟩
 .have N1:=mt (mt (mt g m) n) s
  exact⟨_,_,_,fun _=>t' E145 z,cK' aB,z,⟨((D.mono N1).mono c),((J.mono N1).mono c)⟩⟩
 refine cu (fun _ _ c=>ba' z)<|cu (fun _ _ c=>f' 2 br' z z z)<|cu (fun _ _ c=>e' z) ?_
 obtain⟨ad,aw,hr⟩:=hr
 refine ez' (f:=145) (φ:=wl' b' ad) (L1:=[(118203,bk0 b2 (v48' L B C) 48)]) (fun _=>z) (fun v G1 G2 c h=>?_) (lc z ln) (fun i hi=>by simp only[List.map_cons,List.map_nil,List.mem_cons,List.not_mem_nil,or_false] at hi; subst hi; exact z) hz (fun u G' c hu=>?_) ?_
 .obtain⟨ac,ai,rfl,R⟩:=h
  exact⟨_,_,z,R.mono c⟩
 .obtain⟨_,_⟩:=(show True/\True from hu)
  have N2:=mt (mt (mt g m) n) s
  exact⟨_,_,_,fun _=>t' E145 z,cK' aw,z,⟨((A.mono N2).mono c),((J.mono N2).mono c)⟩⟩
 refine cu (fun _ _ c=>aY' z)<|du' (d:=32) (post:=wl' b' ad) (d':=28) (post':=wl' b' U) (fun aL aN aU am aa Y=>?_)
 obtain⟨ac,ai,rfl,R⟩:=aa
 obtain⟨Q,S,rfl,T⟩:=Y
 refine aC' 2 ([.slice l F.vars.length o,.slice Q U.length S,.slice x F.neqs.length y,i' F.next]).toArray z sz29 z z z (show 1<4 by decide) z z<|yy (ba' z) z<|aC' 2 ([.slice l F.vars.length o,.slice Q U.length S,.slice ac ad.length ai,i' F.next]).toArray z sz29 z z z (show 2<4 by decide) z z<|u'<|aq'<|g'<|sr<|yy (o' 2 at' z z z) z<|s' 4 z aV' z z z z z (List.all_eq_true.1 z)<|sx0 z z<|j' ?_
 obtain rfl:_=r:=hr
 exact aE' z (aa' (i:=4) at' z z z) z ⟨_,_,_,_,_,_,z,(t.mono (mt (mt (mt (mt g m) n) s) am)),T,R⟩
theorem fU'(g:Za)(f:Bool)(s:Nat)(y:Nat)(r:Bool)(hr:(Zay g f).Ret r):Ctr prog 146 #[pt0 s,pt0 y] (fun G=>At aR' G s 0 g/\At Rp.bool G y 0 f) (fun G v=>v = .bool r):=by
 refine E' (args:=[_,_]) (N:=9) func146 z z z (fun I J H l=>?_)
 obtain⟨i,j⟩:=l
 refine sr<|sg z z<|nr ?_
 obtain⟨o,n,x,u,q,p,t,c,h,d⟩:=cY' i
 refine yy (aA' _ at' z z t) z<|yy (Z' sc4 z (AtK.bool j)) z<|yy (al' z) z ?_
 obtain⟨E,m,hr⟩:=hr
 refine P' z z (t' E140 z) (dW' m) z (⟨c,h,d⟩) (fun C F A e=>?_)
 obtain⟨B,D,rfl,k⟩:=e
 refine yy (M' w' k z) z<|yy (ai' z z) z<|sx0 z z<|j' (k0' hr z z)
theorem gJ'{s ac o p l m g j Q R r}(hr:(Zg9 s ac).Ret r):Ctr prog 92 #[.agg ((v31' s o p l m g j)).toArray,.agg ((v48' ac Q R)).toArray] (fun G=>sl Rp.str G o p s.vars/\sl b' G l m s.eqs/\sl b' G g j s.neqs/\sl K' G Q R ac.p) (w31t' r):=by
 refine E' (args:=[_,_]) (N:=39) func92 z z z (fun w0 G0 ag ao=>?_)
 obtain⟨n,y,q,aO⟩:=ao
 refine sr<|af' 118402 z z z fun b1=>af' 3 z z z fun b2=>V' 4 z z31 z fun b3=>sg z z<|nr<|yy (o' 118402 at' z z z) z<|yy (aS' z) z<|yy (f' 3 sc3 z z z) z ?_
 obtain⟨ae,aq,hr⟩:=hr
 refine P' z z (t' E66 z) (dZ' aq) z (⟨n,y,q⟩) (fun aS bd c Z=>?_)
 obtain⟨aH,aE,rfl,V⟩:=Z
 refine mv z z<|yy (y' z z) z<|yy (y' z z) z<|yy (y' z z) z<|V' 6 z z110 z fun b4=>V' 118407 z z4 z fun b5=>s' 6 z aT' z z z z z (List.all_eq_true.1 z)<|aC' 118407 ([.bool ae.2.1]).toArray z sz4 z z z (by first|decide|simp) z z<|sx0 z z<|n'<|bG' 118402 z (by rw[ag]; rfl) fun ba k al az=>bG' 118407 z (by rw[ag]; rfl) fun bc A ap am=>A'<|yy (o' 118402 at' z z z) z<|yy (aS' z) z<|yy (f' 3 sc3 z z z) z ?_
 obtain⟨a9,ay,hr⟩:=hr
 have N1:=mt (mt c k) A
 refine P' z z (t' E138 z) (dx' ay) z (⟨(n.mono N1),(y.mono N1),(q.mono N1)⟩) (fun aP a7 E S=>?_)
 obtain⟨a5,a0,rfl,aD⟩:=S
 obtain⟨aK,aA,hr⟩:=hr
 refine P' z z (t' E121 z) (by' aA) z (aD) (fun aR aJ C ab=>?_)
 obtain⟨aV,a2,rfl,ad⟩:=ab
 refine yy (bQ' z z) z ?_
 obtain⟨aN,an,hr⟩:=hr
 refine P' z z (t' E121 z) (by' an) z ((show FnRd prog fa0 foB aJ (.func (.func 146) #[] #[pt0 b1,pt0 b5]) () (fun _=>Zay s ae.2.1) from (dr' E146 (fun x hx=>ds' (fU' _ _ _ _ x hx) (fun G' f=>⟨(I' (ck' (r:=aR') (cs:=(v31' s o p l m g j)) al z ⟨[.slice o s.vars.length p],[.slice l s.eqs.length m,.slice g s.neqs.length j,i' s.next],z,⟨_,z,(n.mono (mt c k))⟩,⟨[.slice l s.eqs.length m],[.slice g s.neqs.length j,i' s.next],z,⟨_,z,(y.mono (mt c k))⟩,⟨[.slice g s.neqs.length j],[i' s.next],z,⟨_,z,(q.mono (mt c k))⟩,z⟩⟩⟩) (mt (mt (mt A E) C) f)),(I' (ck' (r:=Rp.bool) (cs:=[.bool ae.2.1]) ap z z) (mt (mt E C) f))⟩))))) (fun a1 a8 O U=>?_)
 obtain⟨aQ,a3,rfl,ah⟩:=U
 obtain⟨af,F,rfl⟩:=ch' ad
 obtain⟨P,D,rfl⟩:=ch' ah
 refine bd' (e:=178) (r:=(Rp.fn prog fa0 foI)) (vs:=#[(0,(.func (.func af) #[] F)),(1,(.func (.func P) #[] D))]) (cs:=[(.func (.func af) #[] F)]++([(.func (.func P) #[] D)]++([]))) ([aK,aN]:List (Unit->Cq Int)) z z z z z (by decide) (fun _=>by kernel_rfl) ⟨[(.func (.func af) #[] F)],[(.func (.func P) #[] D)]++([]),z,⟨_,z,(ad.mono O)⟩,⟨[(.func (.func P) #[] D)],[],z,⟨_,z,ah⟩,z⟩⟩ (key:=999) z (by rw[ag]; rfl) (fun p1 be ai aI=>?_)
 obtain⟨bf,ax,hr⟩:=hr
 refine F' z z (t' E120 z) (cT' ax) z (aI)<|sg z z<|dd' 118407 z am (mt c k) (mt (mt (mt (mt A E) C) O) ai)<|dd' 118402 z az c k<|nx<|n'<|sr<|mv z z<|yy (aw' z z) z<|nx<|L' hr z (fun aL hr=>?_) (fun aL hr=>?_)
 .refine sr<|yy (av' (vs:=#[]) (v:=.agg ([.slice none 0 0,.slice none 0 0,.slice none 0 0,i' 0]).toArray) z z (fun _=>by kernel_rfl)) z<|mv z z<|s' 4 z aV' z z z z z (List.all_eq_true.1 z)<|sx0 z z<|j'<|a' ?_
  obtain rfl:_=r:=hr
  exact aE' z (aa' (i:=4) at' z z z) z ⟨_,_,_,_,_,_,z,(W' Rp.str _),(W' b' _),(W' b' _)⟩
 refine q'<|g'<|n'<|ah' [ff,ff,ff,ff,ff,ff,ff] mix (by kernel_rfl) fun hb=>cn (fun _ f=>o' 118402 at' z z z)<|cn (fun _ f=>aS' z)<|cn (fun _ f=>f' 3 sc3 z z z) ?_
 obtain⟨ak,aB,hr⟩:=hr
 refine aX' (post:=w31' ak) (fun _=>z) (fun _ _=>t' E143 z) (eR' aB) z (fun G' f=>⟨((n.mono c).mono f),((y.mono c).mono f),((q.mono c).mono f)⟩) (fun v G1 G2 f h=>?_) ?_
 .obtain⟨H,J,X,W,K,I,rfl,t,B,u⟩:=h
  exact⟨_,_,_,_,_,_,z,t.mono f,B.mono f,u.mono f⟩
 refine cu (fun _ _ f=>o' 6 bM' z z z)<|cu (fun _ _ f=>f' 118407 sc4 z z z)<|cu (fun _ _ f=>al' z)<|cU' (d:=34) (post:=w31' ak) (fun aW bb aj Y=>?_)
 obtain⟨H,J,X,W,K,I,rfl,t,B,u⟩:=Y
 obtain⟨a6,av,hr⟩:=hr
 refine P' z z (t' E142 z) (fe' av) z (⟨t,B,u,(V.mono aj)⟩) (fun aU a4 aM aa=>?_)
 obtain⟨aC,ar,aF,aG,aw,au,rfl,L,T,M⟩:=aa
 refine s' 4 z aV' z z z z z (List.all_eq_true.1 z)<|sg z z<|u'<|aq'<|g'<|j' ?_
 obtain rfl:_=r:=hr
 exact aE' z (aa' (i:=4) at' z z z) z ⟨_,_,_,_,_,_,z,L,T,M⟩
theorem eJ'{s1 e l n L R m o X Y r}(hr:(ZcJ s1 e).Ret r):Ctr prog 50 #[.agg ((v31' s1 l n L R m o)).toArray,.agg ((v48' e X Y)).toArray] (fun G=>sl Rp.str G l n s1.vars/\sl b' G L R s1.eqs/\sl b' G m o s1.neqs/\sl K' G X Y e.p) (w31t' r):=by
 refine E' (args:=[_,_]) (N:=24) func50 z z z (fun w0 G0 bX a8=>?_)
 obtain⟨d,j,g,k⟩:=a8
 refine sr<|af' 2 z z z fun b1=>af' 3 z z z fun b2=>V' 4 z z31 z fun b3=>sx0 z z<|n'<|ah' [ff,ff,ff,ff,ff,ff,tt] mix (by kernel_rfl) fun hb=>Chain.callMap (f:=67) (ky:=ky3) (Rv:=RvF) Zv (fun _=>z) (fun u G' S hu=>⟨_,_,_,fun _=>t' E67 z,gC',z,trivial⟩)<|cu (fun _ _ S=>cA' z)<|cu (fun _ _ S=>f' 3 sc3 z z z) ?_
 obtain⟨bo,hr⟩:=hr
 refine Chain.lookF (ky:=ky3) (dm:=9) Zv e.kind (fun _=>z) bZ' zv104 bo (fun u G' S hu=>?_) ?_
 .obtain⟨h,_⟩:=(show MapX ky3 RvF 9 Zv (u 9) G'/\True from hu)
  exact⟨u 9,h,z,z⟩
 refine cu (fun _ _ S=>e' z)<|cu (fun _ _ S=>y' z z)<|Chain.floatU (fun _=>z) (fun _=>y' z z)<|Chain.tailX1 fun bG X1 c bn=>cf' (show WL _ _ _ _ _ _ (St w0 G0 X1.m _) from ?_)
 refine sg z z<|sg z z<|u'<|aq'<|g'<|n'<|sr<|mv z z<|yy (al' z) z<|nx<|aL' hr z (fun bq hr=>?_) (fun bq hr=>?_)
 .refine sr<|yy (av' (vs:=#[]) (v:=.agg ([.slice none 0 0,.slice none 0 0,.slice none 0 0,i' 0]).toArray) z z (fun _=>by kernel_rfl)) z<|s' 4 z aV' z z z z z (List.all_eq_true.1 z)<|sx0 z z<|j'<|a' ?_
  obtain rfl:_=r:=hr
  exact aE' z (aa' (i:=4) at' z z z) z ⟨_,_,_,_,_,_,z,(W' Rp.str _),(W' b' _),(W' b' _)⟩
 refine q'<|g'<|sr<|mv z z<|yy (o' 2 at' z z z) z<|yy (o' 3 bO' z z z) z ?_
 by_cases hf1:(1:Int)=e.kind
 .replace hr:=hr.pos hf1
  have bd:selV Value.nilFunc (mget Zv e.kind) = .func (.func 85) #[] #[]:=by simp only[Zv,mget,selV,if_pos hf1]
  rw[bd]
  obtain⟨bU,bk,hr⟩:=hr
  refine P' z z (di' E85 z z) (gt' bk) z (⟨(d.mono c),(j.mono c),(g.mono c),(k.mono c)⟩) (fun bB bZ bx Z=>?_)
  obtain⟨aH,aq,aR,aX,ak,aj,rfl,J,U,s⟩:=Z
  refine yy (y' z z) z<|yy (y' z z) z<|s' 4 z aV' z z z z z (List.all_eq_true.1 z)<|sx0 z z<|j' ?_
  obtain rfl:_=r:=hr
  exact aE' z (aa' (i:=4) at' z z z) z ⟨_,_,_,_,_,_,z,J,U,s⟩
 replace hr:=hr.neg hf1
 by_cases hf2:(2:Int)=e.kind
 .replace hr:=hr.pos hf2
  have bc:selV Value.nilFunc (mget Zv e.kind) = .func (.func 86) #[] #[]:=by simp only[Zv,mget,selV,if_pos hf2,if_neg hf1]
  rw[bc]
  obtain⟨bV,bl,hr⟩:=hr
  refine P' z z (di' E86 z z) (gi' bl) z (⟨(d.mono c),(j.mono c),(g.mono c),(k.mono c)⟩) (fun bC bW bw ag=>?_)
  obtain⟨aG,am,a2,aW,aO,ap,rfl,p,W,H⟩:=ag
  refine yy (y' z z) z<|yy (y' z z) z<|s' 4 z aV' z z z z z (List.all_eq_true.1 z)<|sx0 z z<|j' ?_
  obtain rfl:_=r:=hr
  exact aE' z (aa' (i:=4) at' z z z) z ⟨_,_,_,_,_,_,z,p,W,H⟩
 replace hr:=hr.neg hf2
 by_cases hf3:(3:Int)=e.kind
 .replace hr:=hr.pos hf3
  have a7:selV Value.nilFunc (mget Zv e.kind) = .func (.func 87) #[] #[]:=by simp only[Zv,mget,selV,if_pos hf3,if_neg hf1,if_neg hf2]
  rw[a7]
  obtain⟨b5,a6,hr⟩:=hr
  refine P' z z (di' E87 z z) (gu' a6) z (⟨(d.mono c),(j.mono c),(g.mono c),(k.mono c)⟩) (fun bM bY bz ab=>?_)
  obtain⟨ai,aP,aS,a5,au,aI,rfl,q,O,t⟩:=ab
  refine yy (y' z z) z<|yy (y' z z) z<|s' 4 z aV' z z z z z (List.all_eq_true.1 z)<|sx0 z z<|j' ?_
  obtain rfl:_=r:=hr
  exact aE' z (aa' (i:=4) at' z z z) z ⟨_,_,_,_,_,_,z,q,O,t⟩
 replace hr:=hr.neg hf3
 by_cases hf4:(4:Int)=e.kind
 .replace hr:=hr.pos hf4
  have ba:selV Value.nilFunc (mget Zv e.kind) = .func (.func 88) #[] #[]:=by simp only[Zv,mget,selV,if_pos hf4,if_neg hf1,if_neg hf2,if_neg hf3]
  rw[ba]
  obtain⟨b6,bh,hr⟩:=hr
  refine P' z z (di' E88 z z) (gH' bh) z (⟨(d.mono c),(j.mono c),(g.mono c),(k.mono c)⟩) (fun bE bQ bA ae=>?_)
  obtain⟨aC,aw,a1,a4,aM,ax,rfl,y,M,B⟩:=ae
  refine yy (y' z z) z<|yy (y' z z) z<|s' 4 z aV' z z z z z (List.all_eq_true.1 z)<|sx0 z z<|j' ?_
  obtain rfl:_=r:=hr
  exact aE' z (aa' (i:=4) at' z z z) z ⟨_,_,_,_,_,_,z,y,M,B⟩
 replace hr:=hr.neg hf4
 by_cases hf5:(5:Int)=e.kind
 .replace hr:=hr.pos hf5
  have bf:selV Value.nilFunc (mget Zv e.kind) = .func (.func 89) #[] #[]:=by simp only[Zv,mget,selV,if_pos hf5,if_neg hf1,if_neg hf2,if_neg hf3,if_neg hf4]
  rw[bf]
  obtain⟨bP,bm,hr⟩:=hr
  refine P' z z (di' E89 z z) (gR' bm) z (⟨(d.mono c),(j.mono c),(g.mono c),(k.mono c)⟩) (fun bJ bR bs ad=>?_)
  obtain⟨aB,an,a3,aU,aD,az,rfl,E,P,D⟩:=ad
  refine yy (y' z z) z<|yy (y' z z) z<|s' 4 z aV' z z z z z (List.all_eq_true.1 z)<|sx0 z z<|j' ?_
  obtain rfl:_=r:=hr
  exact aE' z (aa' (i:=4) at' z z z) z ⟨_,_,_,_,_,_,z,E,P,D⟩
 replace hr:=hr.neg hf5
 by_cases hf6:(6:Int)=e.kind
 .replace hr:=hr.pos hf6
  have bi:selV Value.nilFunc (mget Zv e.kind) = .func (.func 90) #[] #[]:=by simp only[Zv,mget,selV,if_pos hf6,if_neg hf1,if_neg hf2,if_neg hf3,if_neg hf4,if_neg hf5]
  rw[bi]
  obtain⟨bN,bg,hr⟩:=hr
  refine P' z z (di' E90 z z) (gI' bg) z (⟨(d.mono c),(j.mono c),(g.mono c),(k.mono c)⟩) (fun bH bS bv af=>?_)
  obtain⟨aK,ao,aT,aZ,aL,aE,rfl,I,Q,F⟩:=af
  refine yy (y' z z) z<|yy (y' z z) z<|s' 4 z aV' z z z z z (List.all_eq_true.1 z)<|sx0 z z<|j' ?_
  obtain rfl:_=r:=hr
  exact aE' z (aa' (i:=4) at' z z z) z ⟨_,_,_,_,_,_,z,I,Q,F⟩
 replace hr:=hr.neg hf6
 by_cases hf7:(7:Int)=e.kind
 .replace hr:=hr.pos hf7
  have bb:selV Value.nilFunc (mget Zv e.kind) = .func (.func 91) #[] #[]:=by simp only[Zv,mget,selV,if_pos hf7,if_neg hf1,if_neg hf2,if_neg hf3,if_neg hf4,if_neg hf5,if_neg hf6]
  rw[bb]
  obtain⟨bT,be,hr⟩:=hr
  refine P' z z (di' E91 z z) (gS' be) z (⟨(d.mono c),(j.mono c),(g.mono c),(k.mono c)⟩) (fun bD b4 bt aa=>?_)
  obtain⟨aA,aJ,aQ,aY,av,ar,rfl,K,T,C⟩:=aa
  refine yy (y' z z) z<|yy (y' z z) z<|s' 4 z aV' z z z z z (List.all_eq_true.1 z)<|sx0 z z<|j' ?_
  obtain rfl:_=r:=hr
  exact aE' z (aa' (i:=4) at' z z z) z ⟨_,_,_,_,_,_,z,K,T,C⟩
 replace hr:=hr.neg hf7
 by_cases hf8:(8:Int)=e.kind
 .replace hr:=hr.pos hf8
  have bj:selV Value.nilFunc (mget Zv e.kind) = .func (.func 92) #[] #[]:=by simp only[Zv,mget,selV,if_pos hf8,if_neg hf1,if_neg hf2,if_neg hf3,if_neg hf4,if_neg hf5,if_neg hf6,if_neg hf7]
  rw[bj]
  obtain⟨b0,a9,hr⟩:=hr
  refine P' z z (di' E92 z z) (gJ' a9) z (⟨(d.mono c),(j.mono c),(g.mono c),(k.mono c)⟩) (fun bI bO bu ac=>?_)
  obtain⟨aN,al,aV,a0,ay,aF,rfl,x,V,A⟩:=ac
  refine yy (y' z z) z<|yy (y' z z) z<|s' 4 z aV' z z z z z (List.all_eq_true.1 z)<|sx0 z z<|j' ?_
  obtain rfl:_=r:=hr
  exact aE' z (aa' (i:=4) at' z z z) z ⟨_,_,_,_,_,_,z,x,V,A⟩
 replace hr:=hr.neg hf8
 exact (show False from hr).elim
theorem eV'{s1 l1 M P V X O Q ak al r}(hr:(Zey s1 l1).Ret r):Ctr prog 39 #[.agg ((v31' s1 M P V X O Q)).toArray,.slice ak l1.length al] (fun G=>sl Rp.str G M P s1.vars/\sl b' G V X s1.eqs/\sl b' G O Q s1.neqs/\sl ab' G ak al l1) (w31u' r):=by
 refine E' (args:=[_,_]) (N:=34) func39 z z z (fun w0 G0 aZ aG=>?_)
 obtain⟨ar,az,ax,aq⟩:=aG
 refine sr<|af' 2 z z z fun b1=>V' 4 z z31 z fun b2=>sg z z<|sx0 z z<|n'<|sr<|mv z z<|yy (M' as' aq z) z<|mv z z<|nx<|am' (fun (⟨K,y,q,E,C,x,p,R,A,s,D,B,t,u,J⟩:Za×Option Addr×Nat×Option Addr×Nat×Option Addr×Nat×Za×Option Addr×Nat×Option Addr×Nat×Option Addr×Nat×Mem)=>[(1,.slice ak l1.length al),(2,pt0 b1),(4,pt0 b2)]) (fun ⟨K,y,q,E,C,x,p,R,A,s,D,B,t,u,J⟩=>Mem.le G0 J/\sl Rp.str J y q K.vars/\sl b' J E C K.eqs/\sl b' J x p K.neqs/\sl Rp.str J A s R.vars/\sl b' J D B R.eqs/\sl b' J t u R.neqs/\(ZfA l1 K).Ret r) (fun ⟨K,y,q,E,C,x,p,R,A,s,D,B,t,u,J⟩=>St w0 G0 J [(2,bk0 b1 (v31' K y q E C x p) 31),(4,bk0 b2 (v31' R A s D B t u) 31)]) ?_ ?_
 .refine B' ?_
  let ay:((Za×Int×Int)⊕(Za×Za))->Prop:=fun oo=>((fun ov=>match ov with | .inl rv1=>Cq.ret rv1 | .inr (K,R)=>ZfA l1 K:((Za×Int×Int)⊕(Za×Za))->Cq (Za×Int×Int)) oo).wp (fun a=>a=r)
  replace hr:(Cq.loop _ _).wp ay:=hr
  refine an' (Φ:=ay) (fun (⟨H,L,k,j,n,o,g,h,I,c,e,l,m,f,d,F⟩:Int×Za×Option Addr×Nat×Option Addr×Nat×Option Addr×Nat×Za×Option Addr×Nat×Option Addr×Nat×Option Addr×Nat×Mem)=>((H,L,I):Int×Za×Za)) (fun ⟨H,L,k,j,n,o,g,h,I,c,e,l,m,f,d,F⟩=>[(1,.slice ak l1.length al),(2,pt0 b1),(4,pt0 b2),(11,.slice ak l1.length al),(12,i' (l1.length:Int)),(13,i' H)]) (fun ⟨H,L,k,j,n,o,g,h,I,c,e,l,m,f,d,F⟩=>Mem.le G0 F/\sl Rp.str F k j L.vars/\sl b' F n o L.eqs/\sl b' F g h L.neqs/\y31' F c e l m f d I) (fun ⟨H,L,k,j,n,o,g,h,I,c,e,l,m,f,d,F⟩=>St w0 G0 F [(2,bk0 b1 (v31' L k j n o g h) 31),(4,bk0 b2 (v31' I c e l m f d) 31)]) ⟨0,s1,M,P,V,X,O,Q,(Za.mk [] [] [] 0),none,0,none,0,none,0,G0⟩ hr (f6 z z z z z z) ⟨mr,ar,az,ax,(W' _ _),(W' _ _),(W' _ _)⟩ (w2 z z) ?_
  .intro aY gx hx hr
   obtain⟨H,L,k,j,n,o,g,h,I,c,e,l,m,f,d,F⟩:=gx
   obtain⟨S,Z,aa,U,Y,ab,W⟩:=hx
   refine sr<|yy (ai' z z) z<|nx<|n'<|L' hr z (fun aP hr=>?_) (fun aP hr=>?_)
   .refine q'<|g'<|n'<|B'<|sr<|mv z z ?_
    obtain⟨x1,aE,hr⟩:=hr
    refine yy (T' as' cd' (aq.mono S) z z aE) z ?_
    obtain⟨aR,aV,aL,aJ⟩:=de' (I' (ae' aq aE) S)
    refine yy (aA' _ bO' z z aL) z<|V' 8 z z48 z fun b3=>sg z z<|s' 8 z cd' z z z z z (List.all_eq_true.1 z)<|nr<|yy (o' 2 at' z z z) z<|yy (o' 8 bO' z z z) z ?_
    obtain⟨aN,aH,hr⟩:=hr
    refine P' z z (t' E50 z) (eJ' aH) z (⟨Z,aa,U,aJ⟩) (fun aS aQ T aw=>?_)
    obtain⟨ai,ae,aj,am,ah,ag,rfl,ad,an,af⟩:=aw
    refine mv z z<|yy (y' z z) z<|yy (y' z z) z<|V' 9 z z31 z fun b4=>s' 9 z aV' z z z z z (List.all_eq_true.1 z)<|sx0 z z<|n'<|sr<|mv z z<|yy (aw' z z) z<|nx<|L' hr z (fun aM hr=>?_) (fun aM hr=>?_)
    .refine sr<|yy (av' (vs:=#[]) (v:=.agg ([.slice none 0 0,.slice none 0 0,.slice none 0 0,i' 0]).toArray) z z (fun _=>by kernel_rfl)) z<|mv z z<|mv z z<|s' 4 z aV' z z z z z (List.all_eq_true.1 z)<|sg z z<|sx0 z z<|j'<|a'<|m'<|a'<|a'<|m'<|ag'<|a' ?_
     obtain rfl:_=r:=hr
     exact cW' z (aa' (i:=4) at' z z z) z z ⟨_,_,_,_,_,_,z,(W' Rp.str _),(W' b' _),(W' b' _)⟩
    refine q'<|g'<|A'<|yy (o' 9 at' z z z) z<|s' 2 z aV' z z z z z (List.all_eq_true.1 z)<|u'<|J'<|g'<|A'<|yy (X' z z) z<|mv z z<|u'<|Y' ⟨i64.wrap (H+1),aN.1,ai,ae,aj,am,ah,ag,I,c,e,l,m,f,d,aQ⟩ hr ⟨(mt S T),ad,an,af,(Y.mono T),(ab.mono T),(W.mono T)⟩ (f6 z z z z z z) (w2 z z)
   refine ao'<|r'<|r'<|O'<|ap' ⟨L,k,j,n,o,g,h,I,c,e,l,m,f,d,F⟩ ⟨S,Z,aa,U,Y,ab,W,hr⟩ (f3 z z z) (w2 z z)
 rintro⟨K,y,q,E,C,x,p,R,A,s,D,B,t,u,J⟩ ⟨aD,ap,av,ao,aF,aK,aI,hr⟩
 refine g'<|sr<|yy (o' 2 at' z z z) z<|mv z z<|yy (M' as' (aq.mono aD) z) z<|s' 4 z aV' z z z z z (List.all_eq_true.1 z)<|sg z z<|sx0 z z<|j' ?_
 obtain rfl:_=r:=hr
 exact cW' z (aa' (i:=4) at' z z z) z z ⟨_,_,_,_,_,_,z,ap,av,ao⟩
theorem gb'(Y:Zf)(b1 b2:Nat):∀ (k:Nat) (v1:Int) (r:Za),(Zca Y k v1).Ret r->Ctr prog 38 #[i' v1,pt0 b1,pt0 b2] (fun G=>At Za5 G b1 0 Y/\G b2 0=some (.func (.func 38) #[] #[pt0 b1,pt0 b2])) (w31' r):=by
 intro k
 induction k
 .intro _ _ hr
  exact False.elim hr
 rename_i k ih
 intro v1 r hr
 refine E' (args:=[_,_,_]) (N:=32) func38 z z z (fun w0 G0 a0 ap=>?_)
 obtain⟨B,ag⟩:=ap
 refine sr<|V' 4 z z31 z fun b3=>nx<|n'<|sr<|mv z z<|yy (au' z z) z<|nx<|L' hr z (fun aJ hr=>?_) (fun aJ hr=>?_)
 .refine sr<|yy (cJ' z) z ?_
  obtain⟨ay,aA,aI,aG,az,aB,aF,U,ac,V⟩:=cY' (aW' (ay' B))
  refine yy (aA' _ at' z z aF) z<|s' 4 z aV' z z z z z (List.all_eq_true.1 z)<|nx<|j'<|a' ?_
  obtain rfl:_=r:=hr
  exact k' z (aa' (i:=4) at' z z z) ⟨_,_,_,_,_,_,z,U,ac,V⟩
 refine q'<|g'<|n'<|ah' [ff,ff,ff,ff,ff,ff,ff,ff,ff,ff,ff,ff,ff,ff,ff,ff,ff,tt,tt,ff] mix (by kernel_rfl) fun hb=>cn (fun _ d=>Z' sc87 z (d _ _ _ ag))<|cn (fun _ d=>aj' z) ?_
 obtain⟨p1,aZ,aH,ak⟩:=bF' (ax' (ay' B))
 refine cn (fun _ d=>Z' bc' z (d _ _ _ aH))<|cn (fun _ d=>e' z) ?_
 obtain⟨x1,an,hr⟩:=hr
 refine cn (fun _ d=>T' D' bR' (ak.mono d) z z an)<|cn (fun _ d=>bT' z)<|cn (fun _ d=>Z' sc3 z (aF' (I' (aW' (ay' (ae' ak an))) d))) ?_
 obtain⟨al,au,hr⟩:=hr
 refine aX' (post:=w31' al) (fun _=>z) (fun _ _=>di' E38 z z) (ih _ _ au) z (fun H d=>⟨(I' B d),(d _ _ _ ag)⟩) (fun v G1 G2 d h=>?_) ?_
 .obtain⟨F,E,L,I,C,D,rfl,l,x,p⟩:=h
  exact⟨_,_,_,_,_,_,z,l.mono d,x.mono d,p.mono d⟩
 refine cu (fun _ _ d=>aj' z) ?_
 obtain⟨p2,a2,aM,ao⟩:=bF' (ax' (ay' B))
 refine cu (fun _ _ d=>Z' bc' z (d _ _ _ aM))<|cu (fun _ _ d=>e' z) ?_
 obtain⟨x2,am,hr⟩:=hr
 refine cu (fun _ _ d=>T' D' bR' (ao.mono d) z z am)<|cu (fun _ _ d=>bI' z) ?_
 obtain⟨p3,a1,aD,aK⟩:=bF' (ax' (ax' (ay' (ae' ao am))))
 refine cu (fun _ _ d=>Z' sc44 z (d _ _ _ aD)) ?_
 obtain⟨y,aw,hr⟩:=hr
 refine cD' (f:=39) (φ:=w31u' y) (fun _=>z) (fun v G1 G2 d h=>?_) (fun u H d O=>?_) ?_
 .obtain⟨q,o,s,t,n,m,rfl,g,j,e⟩:=h
  exact⟨_,_,_,_,_,_,z,g.mono d,j.mono d,e.mono d⟩
 .obtain⟨⟨F,E,L,I,C,D,ai,l,x,p⟩,_⟩:=(show (w31' al) H.m (u 20)/\True from O)
  exact⟨_,_,_,fun _=>t' E39 z,eV' aw,(by simp only[ai] <;> rfl),⟨l,x,p,(aK.mono d)⟩⟩
 refine bm' (φ:=w31u' y) (fun _=>z) (fun v G1 G2 d h=>?_) (fun u H d O=>?_) ?_
 .obtain⟨p4,P,p5,R,p6,Q,rfl,M,J,K⟩:=h
  exact⟨_,_,_,_,_,_,z,M.mono d,J.mono d,K.mono d⟩
 .obtain⟨⟨q,o,s,t,n,m,aj,g,j,e⟩,_,_⟩:=(show (w31u' y) H.m (u 27)/\True/\True from O)
  simp only[undFr,aj]
  exact⟨_,e' z,q,o,s,t,n,m,z,g,j,e⟩
 refine bm' (φ:=w31' y.1) (fun _=>z) (fun v G1 G2 d h=>?_) (fun u H d O=>?_) ?_
 .obtain⟨p7,aE,p8,aC,p9,aL,rfl,ab,ah,af⟩:=h
  exact⟨_,_,_,_,_,_,z,ab.mono d,ah.mono d,af.mono d⟩
 .obtain⟨⟨p4,P,p5,R,p6,Q,A,M,J,K⟩,_,_,_⟩:=(show (w31u' y) H.m (u 12)/\True/\True/\True from O)
  simp only[undFr,A]
  exact⟨_,y' z z,p4,P,p5,R,p6,Q,z,M,J,K⟩
 refine bv' (c:=i' y.2.1) (fun _=>z) (fun u H d O=>?_) ?_
 .obtain⟨_,⟨p4,P,p5,R,p6,Q,A,M,J,K⟩,_,_,_⟩:=(show True/\(w31u' y) H.m (u 12)/\True/\True/\True from O)
  simp only[undFr,A]
  exact y' z z
 refine bv' (c:=i' y.2.2) (fun _=>z) (fun u H d O=>?_) ?_
 .obtain⟨_,⟨p4,P,p5,R,p6,Q,A,M,J,K⟩,_,_,_⟩:=(show True/\(w31u' y) H.m (u 12)/\True/\True/\True from O)
  simp only[undFr,A]
  exact y' z z
 refine bE' (fun _=>z) z31<|ei' (fun aY aX aP aO aU X1 aT Z T X S W=>?_)
 obtain⟨b4,rfl,aq⟩:=Z
 obtain⟨p7,aE,p8,aC,p9,aL,rfl,ab,ah,af⟩:=T
 obtain⟨p4,P,p5,R,p6,Q,rfl,M,J,K⟩:=X
 obtain⟨q,o,s,t,n,m,rfl,g,j,e⟩:=S
 obtain⟨F,E,L,I,C,D,rfl,l,x,p⟩:=W
 refine cu' aq (cf' (show WL _ _ _ _ _ _ (St w0 G0 X1.m _) from ?_))
 refine s' 5 z aV' z z z z z (List.all_eq_true.1 z)<|sg z z<|sg z z<|u'<|aq'<|g'<|sr<|yy (o' 5 at' z z z) z<|s' 4 z aV' z z z z z (List.all_eq_true.1 z)<|nx<|j' ?_
 obtain rfl:_=r:=hr
 exact k' z (aa' (i:=4) at' z z z) ⟨_,_,_,_,_,_,z,ab,ah,af⟩
theorem Zbn(i:Zf)(s:Int)(e:Option Addr)(f:Nat)(g:Option Addr)(h:Nat)(c:Option Addr)(d:Nat)(j:Option Addr)(k:Nat)(r:Bool)(hr:(Zaf i s).Ret r):Ctr prog 37 #[.agg ((v34' i e f g h c d j k)).toArray,i' s] (fun G=>y34' G e f g h c d j k i) (fun G v=>v = .bool r):=by
 refine E' (args:=[_,_]) (N:=14) func37 z z z (fun x y t p=>?_)
 obtain⟨m,n,l,o⟩:=p
 refine sr<|af' 2 z z z fun u=>sg z z<|nr<|mv z z<|ad' hr z (bf' z z) z (fun q hr=>?_) (fun q hr=>?_)
 .refine mv z z<|gy z z (e' z) z<|gy z z (aj' z) z<|gy z z (f' 2 bc' z z z) z<|gy z z (M' D' o z) z<|gy z z (ai' z z) z<|yy (h' z z) z<|sx0 z z<|j' (k0' hr z z)
 refine mv z z<|sn5 z<|yy (l' z z) z<|sx0 z z<|j' (k0' hr z z)
theorem Zjt{P:Program}{N l:Nat}{c c2:Code}{Q:Post}{fr:Fr}{S:Asrt}(e:c=c2)(h:WCI P N l c2 Q fr S):WCI P N l c Q fr S:=by rw[e]; exact h
def mark1(A:List Bool)(c:Int):List Bool:=if 0<=c then A.set c.toNat true else A
theorem Zhk(A:List Bool)(c:Int):(mark1 A c).length=A.length:=by unfold mark1; split <;> simp
theorem ZnF{stop:Int->Bool}{x:Int}{l:List Int}:(x::l).find? stop=if stop x=true then some x else l.find? stop:=by
 rw[List.find?_cons]
 cases stop x <;> rfl
def DownV(h:Zf)(v:Nat):Prop:=v+1<=1000000/\∀ k,k<=v->∃ x,h.v[k]? = some x/\x.parent<=(v:Int)/\x.other<=(v:Int)
theorem anc1(h:Zf)(v bv bh l:Nat)(Lc:Lo)(d:Int->Bool)(Lx:Int->Lo)(M:Mem->Prop)(hm:∀ G o,Mem.le G o->M G->M o)(hc:∀ i,9000<=i->Lc.get i=none)(hx:∀ x i,9000<=i->(Lx x).get i=none)(aK:DownV h v)
  (hY:∀ k:Nat,k<=v->YCtr prog l (i' (k:Int)) Lc M (fun _ L b=>(b=true/\d k=false/\L=Lc)\/(b=false/\d k=true/\L=Lx k))) :
  CtrL prog 57 #[.func (.yield l) #[] #[],pt0 bv,pt0 bh] Lc (fun G=>G bv 0=some (i' (v:Int))/\At Za5 G bh 0 h/\M G)
   (fun _ L u=>L=(match (ancU (parV h) (othV h) v).find? d with|none=>Lc|some x=>Lx x)/\u = .tuple #[]):=by
 obtain⟨hv,ag⟩:=aK
 refine bg' (args:=[_,_,_]) (N:=52) func57 z z z (fun w0 K au J=>?_)
 obtain⟨ac,aD,J⟩:=J
 obtain⟨q,qc,qe,qh⟩:=bF' (ax' (ay' aD))
 have al:∀ B,Lo.sub Lc ((9000,B)::Lc):=fun B i z hz=>by
  rw[Lo.Zi,if_neg (fun e=>by rw[<- e,hc 9000 (Nat.le_refl _)] at hz; cases hz)]; exact hz
 have O:∀ (a:Option Ow) (R:Lo),Lo.sub ((9000,a)::Lc) ((9000,a)::((9000,R.get 9000)::Lc)):=fun a R i z hz=>by
  rw[Lo.Zi] at hz ⊢
  split at hz
  .rename_i e; rw[if_pos e]; exact hz
  rename_i e; rw[if_neg e,Lo.Zi,if_neg e]; exact hz
 have aL:i64.wrap ((v:Int)+1)=((v+1:Nat):Int):=by rw[IntKind.wrap_i64]; omega
 refine n'<|A'<|yy (Z' sc3 z ac) z<|yy (X' z z) z ?_
 rw[aL]
 refine dS' (r:=Rp.bool) (e:=4) (n:=((v+1:Nat):Int)) (zx:=false) 9000 Zk z db' el4 z (by decide) (by decide) z z z (by omega) (fun p1 aR h0=>?_)
 rw[Int.toNat_natCast] at h0
 rw[Int.toNat_natCast]
 refine yy (Y0.assign z) z<|u'<|g'<|n'<|A'<|mv z z<|yy (Z' sc3 z ac) z ?_
 have aq:0<=(v:Int)/\(List.replicate (v+1) false)[(v:Int).toNat]? = some false:=⟨by omega,by rw[Int.toNat_natCast,List.getElem?_replicate,if_pos (by omega)]⟩
 refine yy (aP' db' sz4 h0 z z aq) z<|bx' (r:=Rp.bool) (e:=4) (cs':=[.bool true]) (i:=(v:Int)) (z':=true) 9000 Zk sz4 z h0 z z z z z aq (fun ar h1=>?_)
 rw[Int.toNat_natCast] at h1
 refine u'<|g'<|n'<|A'<|yy (Z' sc3 z ac) z<|yy (Y0.assign z) z<|u'<|g'<|B'<|WC.loopH (X:=Nat×Int×List Bool×Option Ow×Mem) (fun s=>match s with|⟨_,a,_,_,_⟩=>[(0,.func (.yield l) #[] #[]),(1,pt0 bv),(2,pt0 bh),(4,.slice p1 (v+1) (v+1)),(5,i' a)])
  (fun s=>match s with|⟨k,a,A,B,G⟩=>a=(k:Int)-1/\Mem.le K G/\RowR Rp.bool 4 G (.slice p1 (v+1) (v+1)) A B/\k<=v+1/\A.length=v+1/\(ancL (parV h) (othV h) k A).find? d=(ancU (parV h) (othV h) v).find? d)
  (fun s=>match s with|⟨_,_,_,B,G⟩=>St w0 K G ((9000,B)::Lc)) (fun s=>s.1) ⟨v+1,(v:Int),(List.replicate (v+1) false).set v true,ar,K⟩ (fc z (fc z (fc z (fc z (fc z (Fr.Zr _)))))) ⟨by omega,Mem.le_refl _,h1,Nat.le_refl _,by simp,z⟩ ?_ ?_
 .intro w t
  exact t.weaken (au ▸ O ar [(9000,aR)])
 rintro⟨k,a,A,B,G⟩ ⟨a4,Y,Z,hk,af,F⟩
 refine n'<|n'<|A'<|mv z z<|yy (bf' z z) z<|u'<|g'<|dD' (p:=0<=a) z (fun aM=>?_) (fun aM=>?_)
 .obtain⟨k,rfl⟩:∃ j,k=j+1:=⟨k-1,by omega⟩
  have ek:a=(k:Int):=by omega
  subst ek
  have aw:i64.wrap ((k:Int)-1)=(k:Int)-1:=by rw[IntKind.wrap_i64]; omega
  obtain⟨x,ab,aQ,aO⟩:=ag k (by omega)
  have aH:parV h k=x.parent:=by unfold parV; rw[ab]; rfl
  have aG:othV h k=x.other:=by unfold othV; rw[ab]; rfl
  refine q'<|g'<|n'<|B'<|n'<|n'<|A'<|mv z z<|mv z z ?_
  have an:0<=(k:Int)/\A[(k:Int).toNat]? = some (A.getD k false):=⟨by omega,by rw[Int.toNat_natCast,List.getD_eq_getElem?_getD,List.getElem?_eq_getElem (by omega)]; rfl⟩
  refine yy (aP' db' sz4 Z z z an) z<|yy (dj' sc4 Z (key:=9000) z z (AtK.bool (cz' Z an))) z<|yy (al' z) z<|u'<|g'<|WC.cond (b:=!(A.getD k false)) z (fun I=>?_) (fun I=>?_)
  .-- not above
   have ha:¬ A.getD k false=true:=by cases hq:A.getD k false with|true=>rw[hq] at I; cases I|false=>simp
   refine ao'<|r'<|O'<|g'<|A'<|mv z z<|yy (bj' z z) z ?_
   rw[aw]
   refine yy (Y0.assign z) z<|u'<|WE.backH (x:=(k+1,(k:Int),A,B,G)) (k,(k:Int)-1,A,B,G) ⟨z,Y,Z,by omega,af,?_⟩ (fc z (fc z (fc z (fc z (fc z (Fr.Zr _)))))) (fun w t=>t) (Nat.lt_succ_self k)
   rw[<- F]
   show _=(if A.getD k false=true then _ else _:List Int).find? d
   rw[if_neg ha]
  have ha:A.getD k false=true:=by cases hq:A.getD k false with|true=>rfl|false=>rw[hq] at I; cases I
  have S:(if d (k:Int)=true then some (k:Int) else (ancL (parV h) (othV h) k (markL (parV h) (othV h) A k)).find? d)=(ancU (parV h) (othV h) v).find? d:=by
   rw[<- F,<- ZnF]
   show _=(if A.getD k false=true then _ else _:List Int).find? d
   rw[if_pos ha]
  refine q'<|g'<|n'<|n'<|WC.regionI<|WLI.y0 Zk (e' z) (fun c h=>by cases h) z<|WLI.y0 Zk (e' z) (fun c h=>by cases h) z<|WLI.callY (R:=[(9000,B)]) (Lc:=Lc) Zk z z z (hY k (by omega)) (hm _ _ Y J) au (fun i hi=>by simp only[List.map_cons,List.map_nil,List.mem_singleton] at hi; subst hi; exact hc _ (Nat.le_refl _)) fun b G1 L1 W E=>WLI.y0 Zk (al' z) (fun c h=>by cases h) z<|WLI.nil<|g' ?_
  rcases E with ⟨rfl,hst,rfl⟩|⟨rfl,hst,rfl⟩
  .rw[if_neg (by rw[hst]; simp)] at S
   have m:Mem.le K G1:=mt Y W
   have H:0<=(k:Int)/\h.v[(k:Int).toNat]? = some x:=⟨by omega,by rw[Int.toNat_natCast]; exact ab⟩
   refine bb' z<|q'<|g'<|n'<|ah' [ff,ff,ff,ff,ff,ff,ff,ff,ff,ff,ff,ff,ff,ff,ff] mix (by kernel_rfl) fun hb=>Chain.y0 Zk (fun _ f=>aj' z)<|Chain.y0 Zk (fun _ f=>Z' bc' z (f _ _ _ (m _ _ _ qe)))<|Chain.y0 Zk (fun _ f=>e' z)<|Chain.y0 Zk (fun _ f=>T' D' bR' (qh.mono (mt m f)) z z H)<|Chain.y0 Zk (fun _ f=>bT' z)<|Chain.y0 Zk (fun _ f=>Z' sc3 z (aF' (I' (aW' (ay' (ae' qh H))) (mt m f))))<|Chain.y0 Zk (fun _ f=>aj' z)<|Chain.y0 Zk (fun _ f=>Z' bc' z (f _ _ _ (m _ _ _ qe)))<|Chain.y0 Zk (fun _ f=>e' z)<|Chain.y0 Zk (fun _ f=>T' D' bR' (qh.mono (mt m f)) z z H)<|Chain.y0 Zk (fun _ f=>cB' z)<|Chain.y0 Zk (fun _ f=>Z' sc3 z (aF' (I' (aW' (ax' (ay' (ae' qh H)))) (mt m f))))<|eE' (r:=Rp.int .i64) (e:=3) ([x.parent,x.other]:List Int) (fun _=>Zk) z (by decide) (fun u o f hu=>⟨#[(0,i' x.parent),(1,i' x.other)],[i' x.parent,i' x.other],z,z,fun _=>by kernel_rfl,⟨[_],[_],z,z,⟨[_],[],z,z,z⟩⟩⟩)<|Chain.y0UD (c:=i' 2) (fun _=>Zk) (fun u o f hu=>?_) ?_
   .obtain⟨⟨pl,a2,aT,_⟩,_⟩:=(show (fun (v:Value) (g:Gx)=>∃ p uu,v = .slice p 2 2/\SlRd (Rp.int .i64) g.m (.slice p 2 2) uu [x.parent,x.other]) (u 40) o/\True from hu)
    simp only[undFr,aT]
    exact eb' underlying113 z
   refine Chain.y0U (fun _=>Zk) (fun _ _ f=>e' z)<|cU' (post:=fun G v=>∃ p uu,v = .slice p 2 2/\SlRd (Rp.int .i64) G (.slice p 2 2) uu [x.parent,x.other]) (fun v2 G2 ae E=>?_)
   obtain⟨pl,_,rfl,V⟩:=E
   replace V:SlR (Rp.int .i64) G2 (.slice pl 2 2) [x.parent,x.other]:=V
   refine u'<|aq'<|g'<|B'<|WC.loopH (X:=Nat×List Bool×Option Ow×Mem) (fun s=>match s with|⟨j,_,_,_⟩=>[(0,.func (.yield l) #[] #[]),(1,pt0 bv),(2,pt0 bh),(4,.slice p1 (v+1) (v+1)),(5,i' (k:Int)),(40,.slice pl 2 2),(41,i' 2),(42,i' (j:Int))])
    (fun s=>match s with|⟨j,D,y,o⟩=>j<=2/\Mem.le G2 o/\RowR Rp.bool 4 o (.slice p1 (v+1) (v+1)) D y/\D=([x.parent,x.other].take j).foldl mark1 A)
    (fun s=>match s with|⟨_,_,y,o⟩=>St w0 K o ((9000,y)::L1)) (fun s=>2-s.1) ⟨0,A,B,G2⟩ (fc z (fc z (fc z (fc z (fc z (fc z (fc z (fc z (Fr.Zr _))))))))) ⟨by omega,Mem.le_refl _,Z.mono (mt W ae),z⟩ (fun w t=>t) ?_
   rintro⟨j,D,y,o⟩ ⟨hj,C,P,U⟩
   have ah:D.length=v+1:=by
    rw[U,<- af]
    match j,hj with
    | 0,_=>rfl
    | 1,_=>exact Zhk _ _
    | 2,_=>exact (Zhk _ _).trans (Zhk _ _)
   refine n'<|A'<|yy (ai' z z) z<|u'<|g'<|n'<|dD' (p:=(j:Int)<2) z (fun aC=>?_) (fun aC=>?_)
   .obtain⟨c,aP,a3,T⟩:∃ c,([x.parent,x.other]:List Int)[j]? = some c/\c<=(v:Int)/\([x.parent,x.other].take (j+1)).foldl mark1 A=mark1 (([x.parent,x.other].take j).foldl mark1 A) c:=by
     rcases (show j=0\/j=1 by omega) with rfl|rfl
     .exact⟨x.parent,z,aQ,z⟩
     exact⟨x.other,z,aO,z⟩
    have ad:0<=(j:Int)/\([x.parent,x.other]:List Int)[(j:Int).toNat]? = some c:=⟨by omega,by rw[Int.toNat_natCast]; exact aP⟩
    have ap:i64.wrap ((j:Int)+1)=((j+1:Nat):Int):=by rw[IntKind.wrap_i64]; omega
    refine q'<|g'<|n'<|B'<|n'<|A'<|yy (T' underlying113 sz3 (V.mono C) z z ad) z<|yy (Z' sc3 z (aF' (I' (ae' V ad) C))) z<|yy (Y0.assign z) z<|u'<|g'<|n'<|A'<|mv z z<|yy (bf' z z) z<|u'<|g'<|dD' (p:=0<=c) z (fun Q=>?_) (fun Q=>?_)
    .have ao:0<=c/\D[c.toNat]? = some (D.getD c.toNat false):=⟨Q,by rw[List.getD_eq_getElem?_getD,List.getElem?_eq_getElem (by omega)]; rfl⟩
     refine A'<|mv z z<|mv z z<|yy (aP' db' sz4 P z z ao) z<|bx' (r:=Rp.bool) (e:=4) (cs':=[.bool true]) (i:=c) (z':=true) 9000 Zk sz4 z P z z z z z ao fun av h3=>u'<|J'<|g'<|A'<|yy (X' z z) z ?_
     rw[ap]
     refine mv z z<|u'<|WE.backH (x:=(j,D,y,o)) (j+1,D.set c.toNat true,av,o) ⟨by omega,C,h3,?_⟩ (fc z (fc z (fc z (fc z (fc z (fc z (fc z (fc z (Fr.Zr _))))))))) (fun w t=>t.weaken (O av [(9000,y)])) (by show 2-(j+1)<2-j; omega)
     rw[T,<- U,mark1,if_pos Q]
    refine q'<|J'<|g'<|A'<|yy (X' z z) z ?_
    rw[ap]
    refine mv z z<|u'<|WE.backH (x:=(j,D,y,o)) (j+1,D,y,o) ⟨by omega,C,P,?_⟩ (fc z (fc z (fc z (fc z (fc z (fc z (fc z (fc z (Fr.Zr _))))))))) (fun w t=>t) (by show 2-(j+1)<2-j; omega)
    rw[T,<- U,mark1,if_neg Q]
   have aU:j=2:=by omega
   subst aU
   refine ao'<|r'<|r'<|O'<|J'<|g'<|A'<|mv z z<|yy (bj' z z) z ?_
   rw[aw]
   refine yy (Y0.assign z) z<|u'<|WE.backH (x:=(k+1,(k:Int),A,B,G)) (k,(k:Int)-1,D,y,o) ⟨z,mt m (mt ae C),P,by omega,ah,?_⟩ (fc z (fc z (fc z (fc z (fc z (Fr.Zr _)))))) (fun w t=>t) (Nat.lt_succ_self k)
   rw[<- S,U]
   have:markL (parV h) (othV h) A k=mark1 (mark1 A x.parent) x.other:=by unfold markL mark1; rw[aH,aG]
   rw[this]
   rfl
  rw[if_pos hst] at S
  refine U' z<|j'<|a'<|m'<|a'<|a'<|m'<|aK' (S':=St w0 K G1 (Lx (k:Int))) (fun w t=>t.weaken (fun i z hz=>?_)) (WE.ret0 z ⟨?_,z⟩)
  .rw[Lo.Zka (fun hi=>by simp only[List.map_cons,List.map_nil,List.mem_singleton] at hi; rw[hi,hx _ _ (Nat.le_refl _)] at hz; cases hz)]; exact hz
  rw[<- S]
 have aE:k=0:=by omega
 subst aE
 refine ao'<|r'<|r'<|O'<|WE.retN<|aK' (S':=St w0 K G Lc) (fun w t=>t.weaken (al B)) (WE.ret0 z ⟨?_,z⟩)
 rw[<- F]
 rfl
theorem Zc4(h:Zf)(v:Int)(i:Option Addr)(j:Nat)(f:Option Addr)(g:Nat)(d:Option Addr)(e:Nat)(l:Option Addr)(n:Nat):
  Ctr prog 42 #[.agg ((v34' h i j f g d e l n)).toArray,i' v] (fun G=>y34' G i j f g d e l n h)
   (fun G u=>∃ k m,u = .func (.func 57) #[] #[pt0 k,pt0 m]/\G k 0=some (i' v)/\At Za5 G m 0 h):=by
 refine E' (args:=[_,_]) (N:=6) func42 z z z (fun E H o p=>?_)
 obtain⟨A,x,y,B⟩:=p
 refine n'<|A'<|af' 2 Zk z z (fun m=>af' 3 Zk z z (fun k=>?_))
 refine yy (Y0.assign z) z<|u'<|g'<|n'<|bG' 2 z (by rw[o]; rfl) fun I c t D=>bG' 3 z (by rw[o]; rfl) fun F q s C=>A'<|yy (bQ' z z) z<|yy (Y0.assign z) z<|u'<|g'<|j'<|k' z z ⟨k,m,z,s 0 _ z,I' (ck' (r:=Za5) (cs:=(v34' h i j f g d e l n)) t z ⟨(v31' h.root i j f g d e),[.slice l h.v.length n],z,⟨[.slice i h.root.vars.length j],[.slice f h.root.eqs.length g,.slice d h.root.neqs.length e,i' h.root.next],z,⟨_,z,A.mono c⟩,⟨[.slice f h.root.eqs.length g],[.slice d h.root.neqs.length e,i' h.root.next],z,⟨_,z,x.mono c⟩,⟨[.slice d h.root.neqs.length e],[i' h.root.next],z,⟨_,z,y.mono c⟩,z⟩⟩⟩,⟨_,z,B.mono c⟩⟩) q⟩
theorem Zmj{h:Zf}{v:Nat}(c:downB h v=true):DownV h v:=by
 unfold downB at c
 rw[Bool.and_eq_true,decide_eq_true_eq,List.all_eq_true] at c
 refine⟨c.1,fun k d=>?_⟩
 have:=c.2 k (List.mem_range.2 (by omega))
 cases hx:h.v[k]? with
 | none=>rw[hx] at this; cases this
 | some x=>
  rw[hx,Bool.and_eq_true,decide_eq_true_eq,decide_eq_true_eq] at this
  exact⟨x,z,this.1,this.2⟩
theorem Zby(h:Zf)(a b:Int)(L:Option Addr)(J:Nat)(K:Option Addr)(P:Nat)(C:Option Addr)(E:Nat)(R:Option Addr)(Q:Nat)(r:Bool)(hr:(ZaK h a b).Ret r):
  Ctr prog 16 #[.agg ((v34' h L J K P C E R Q)).toArray,i' a,i' b] (fun G=>y34' G L J K P C E R Q h)
   (fun _ u=>u = .bool r):=by
 refine Ctr.enterM (args:=[_,_,_]) (N:=25) func16 z z z (fun w0 G0 ai D=>?_)
 obtain⟨I,F,H,S⟩:=D
 refine n'<|A'<|af' 3 Zk z z (fun b3=>af' 4 Zk z z (fun Z=>V' 6 Zk z4 z (fun b6=>?_)))
 refine u'<|g'<|n'<|n'<|A'<|yy (o' 3 aG' z z z) z<|yy (f' 4 sc3 z z z) z ?_
 obtain⟨y1,X,hr⟩:=hr
 refine F' Zk z (t' E37 z) (Zbn _ _ _ _ _ _ _ _ _ _ _ X) z ⟨I,F,H,S⟩ ?_
 cases y1
 .refine yy (al' z) z<|mv z z<|sn4 z<|yy (h' z z) z<|u'<|g'<|U' z<|n'<|A'<|aC' 6 #[.bool false] Zk sz4 z z z (by decide) z z<|u'<|g'<|j'<|a'<|WE.early ?_
  obtain rfl:_=r:=hr
  exact k' z (RV.cellS (i:=6) sc4 z z z) z
 obtain⟨y2,T,hr⟩:=hr
 refine yy (al' z) z<|mv z z<|WL.y0' (v' z z) (o' 3 aG' z z z) z<|WL.y0' (v' z z) (e' z) z<|F' (v' z z) z (t' E37 z) (Zbn _ _ _ _ _ _ _ _ _ _ _ T) z ⟨I,F,H,S⟩<|WL.y0' (v' z z) (al' z) z<|yy (l' z z) z<|u'<|g'<|WC.cond (b:=!y2) z (fun l=>?_) (fun l=>?_)
 .replace hr:=hr.pos l
  refine n'<|A'<|aC' 6 #[.bool false] Zk sz4 z z z (by decide) z z<|u'<|g'<|j'<|a'<|WE.early ?_
  obtain rfl:_=r:=hr
  exact k' z (RV.cellS (i:=6) sc4 z z z) z
 replace hr:=hr.neg (Bool.eq_false_iff.1 l)
 obtain⟨⟨aB,B⟩,hr⟩:=hr
 obtain rfl:_=r:=hr
 obtain⟨v,rfl⟩:∃ v:Nat,b=v:=⟨b.toNat,by omega⟩
 rw[Int.toNat_natCast] at B ⊢
 refine q'<|g'<|n'<|n'<|A'<|yy (o' 3 aG' z z z) z<|mv z z<|P' Zk z (t' E42 z) (Zc4 h v L J K P C E R Q) z ⟨I,F,H,S⟩ (fun u G1 aq c=>?_)
 obtain⟨bv,bh,rfl,am,V⟩:=c
 refine u'<|g'<|WC.rangeEnd (t:=21) (f:=57) z E57 (fun ac d M m ha y A al ad U ah=>?_)
 let q:Lo:=[(8001,some ⟨M,.loop m,0⟩),(8002,some ⟨d,.deferred (some []),0⟩),(4,some ⟨Z,.cells #[i' a] 3 (0,0),0⟩),(6,some ⟨b6,.cells #[.bool false] 4 (0,0),0⟩)]
 let s:Int->Lo:=fun _=>[(8001,some ⟨M,.loop { m with state:=.done,pending:=some .ret },0⟩),(8002,some ⟨d,.deferred (some []),0⟩),(4,some ⟨Z,.cells #[i' a] 3 (0,0),0⟩),(6,some ⟨b6,.cells #[.bool true] 4 (0,0),0⟩)]
 have W:∀ i,9000<=i->q.get i=none:=fun i hi=>by simp only[q]; rw[Lo.Zi,if_neg (by omega),Lo.Zi,if_neg (by omega),Lo.Zi,if_neg (by omega),Lo.Zi,if_neg (by omega)]; rfl
 have Y:∀ x i,9000<=i->(s x).get i=none:=fun x i hi=>by simp only[s]; rw[Lo.Zi,if_neg (by omega),Lo.Zi,if_neg (by omega),Lo.Zi,if_neg (by omega),Lo.Zi,if_neg (by omega)]; rfl
 refine⟨_,q,_,lc z (lc z (lc z (lc z (Lo.Zr _)))),fun i _=>by rw[ai]; rfl,anc1 h v bv bh M q (fun x=>decide (x=a)) s (fun _=>True) (fun _ _ _ _=>trivial) W Y (Zmj B) (fun k hk=>?_),⟨am,V,trivial⟩,fun G2 L2 u aA c=>?_⟩
 .refine YCtr.Zlf (N:=25) z y A ad (by rw[al]; exact ha.round (by decide)) (fun aD G' aC _=>?_)
  refine Zjt U<|WCI.region Zic z (yy (Y0.assign z) z<|u' (fun a1 v1 ak ab=>⟨_,_,_,ak,ab,z,?_⟩))
  refine Zjt ah<|WCI.block<|WCI.seq<|WCI.region (Zea (Zdw Zdx)) z<|mv z z<|yy (f' 4 sc3 z z z) z<|yy (au' z z) z<|u'<|WCI.then<|WCI.condD (p:=(k:Int)=a) z (fun l=>?_) (fun l=>?_)
  .refine WCI.seq<|WCI.region (Zea (Zdw Zdx)) z<|aC' 6 #[.bool true] Zk sz4 z z z (by decide) z z<|u'<|WCI.then<|WCI.ret ?_
   exact fun O w2 _ e=>⟨_,_,s k,e,z,lc z (lc z (lc z (lc z (Lo.Zr _)))),.inr ⟨z,decide_eq_true l,z⟩⟩
  refine WCI.skip ?_
  exact fun O w2 _ e=>⟨_,_,q,e,z,lc z (lc z (lc z (lc z (Lo.Zr _)))),.inl ⟨z,decide_eq_false l,z⟩⟩
 obtain⟨n,_⟩:=c
 cases hf:(ancU (parV h) (othV h) v).find? (fun x=>decide (x=a)) with
 | none=>
  rw[hf] at n
  subst n
  have j:decide (a ∈ ancU (parV h) (othV h) v)=false:=decide_eq_false (fun hm=>by have:=List.find?_eq_none.1 hf a hm; simp at this)
  refine⟨m,z,by rw[y]; simp,.inl ⟨A,?_⟩⟩
  refine WLD.ys (YS.storeL 6 #[.bool false] sz4 z z z (by decide) z z) (WLD.nil (fun O w2 af e=>⟨z,z,RetD.of (a:=O) (rvs:=[.cell 6 4]) [.bool false] z z e af z (fun i rv v g o=>?_) ?_⟩))
  .match i with
   | 0=>simp at g o; subst g o; exact RV.cellS (i:=6) sc4 z z z
   | i+1=>simp at g
  show Value.bool false = .bool (decide _)
  rw[j]
 | some x=>
  rw[hf] at n
  subst n
  have h5:=List.mem_of_find?_eq_some hf
  have h6:x=a:=by simpa using List.find?_some hf
  rw[h6] at h5
  have j:decide (a ∈ ancU (parV h) (othV h) v)=true:=decide_eq_true h5
  refine⟨_,z,by simp,.inr ⟨z,fun w hs=>RetD.of (a:=ac) (rvs:=[.cell 6 4]) [.bool true] z z hs ha z (fun i rv v g o=>?_) ?_⟩⟩
  .match i with
   | 0=>simp at g o; subst g o; exact RV.cellS (i:=6) sc4 z z z
   | i+1=>simp at g
  show Value.bool true = .bool (decide _)
  rw[j]
theorem Zjx(h:Zf)(a b:Int)(E:Option Addr)(C:Nat)(D:Option Addr)(F:Nat)(A:Option Addr)(B:Nat)(I:Option Addr)(H:Nat)(r:Int×Int)(hr:(ZcZ h a b).Ret r):
  Ctr prog 13 #[.agg ((v34' h E C D F A B I H)).toArray,i' a,i' b] (fun G=>y34' G E C D F A B I H h)
   (fun _ u=>u = .tuple #[i' r.1,i' r.2]):=by
 refine Ctr.enterM (args:=[_,_,_]) (N:=28) func13 z z z (fun w0 G0 aq V=>?_)
 obtain⟨O,L,M,Q⟩:=V
 refine n'<|A'<|af' 3 Zk z z (fun b3=>af' 5 Zk z z (fun b5=>V' 6 Zk z3 z (fun b6=>V' 7 Zk z36 z (fun b7=>?_))))
 refine u'<|g'<|n'<|n'<|A'<|yy (o' 3 aG' z z z) z<|mv z z ?_
 obtain⟨y1,R,hr⟩:=hr
 refine F' Zk z (t' E37 z) (Zbn _ _ _ _ _ _ _ _ _ _ _ R) z ⟨O,L,M,Q⟩ ?_
 cases y1
 .refine yy (al' z) z<|mv z z<|sn4 z<|yy (h' z z) z<|u'<|g'<|U' z<|n'<|A'<|aC' 6 #[i' 0] Zk sz3 z z z (by decide) z z<|aC' 7 #[i' 340] Zk sz36 z z z (by decide) z z<|u'<|g'<|j'<|a'<|WE.early ?_
  obtain rfl:_=r:=hr
  exact aE' z (RV.cellS (i:=6) sc3 z z z) (RV.cellS (i:=7) sc36 z z z) z
 obtain⟨y2,J,hr⟩:=hr
 refine yy (al' z) z<|mv z z<|WL.y0' (v' z z) (o' 3 aG' z z z) z<|WL.y0' (v' z z) (f' 5 sc3 z z z) z<|F' (v' z z) z (t' E37 z) (Zbn _ _ _ _ _ _ _ _ _ _ _ J) z ⟨O,L,M,Q⟩<|WL.y0' (v' z z) (al' z) z<|yy (l' z z) z<|u'<|g'<|WC.cond (b:=!y2) z (fun n=>?_) (fun n=>?_)
 .replace hr:=hr.pos n
  refine n'<|A'<|aC' 6 #[i' 0] Zk sz3 z z z (by decide) z z<|aC' 7 #[i' 340] Zk sz36 z z z (by decide) z z<|u'<|g'<|j'<|a'<|WE.early ?_
  obtain rfl:_=r:=hr
  exact aE' z (RV.cellS (i:=6) sc3 z z z) (RV.cellS (i:=7) sc36 z z z) z
 replace hr:=hr.neg (Bool.eq_false_iff.1 n)
 obtain⟨⟨⟨aP,U⟩,aa,ar⟩,hr⟩:=hr
 obtain rfl:_=r:=hr
 obtain⟨v,rfl⟩:∃ v:Nat,a=v:=⟨a.toNat,by omega⟩
 rw[Int.toNat_natCast] at U ⊢
 refine q'<|g'<|n'<|n'<|A'<|yy (o' 3 aG' z z z) z<|mv z z<|P' Zk z (t' E42 z) (Zc4 h v E C D F A B I H) z ⟨O,L,M,Q⟩ (fun u G1 l j=>?_)
 obtain⟨bv,bh,rfl,ax,Z⟩:=j
 refine u'<|g'<|WC.rangeEnd (t:=22) (f:=57) z E57 (fun ac d W q ha S T aw al Y ap=>?_)
 let K:Lo:=[(8001,some ⟨W,.loop q,0⟩),(8002,some ⟨d,.deferred (some []),0⟩),(3,bk0 b3 (v34' h E C D F A B I H) 34),(5,some ⟨b5,.cells #[i' b] 3 (0,0),0⟩),(6,some ⟨b6,.cells #[i' 0] 3 (0,0),0⟩),(7,some ⟨b7,.cells #[i' 0] 36 (0,0),0⟩)]
 let P:Int->Lo:=fun x=>[(8001,some ⟨W,.loop { q with state:=.done,pending:=some .ret },0⟩),(8002,some ⟨d,.deferred (some []),0⟩),(3,bk0 b3 (v34' h E C D F A B I H) 34),(5,some ⟨b5,.cells #[i' b] 3 (0,0),0⟩),(6,some ⟨b6,.cells #[i' x] 3 (0,0),0⟩),(7,some ⟨b7,.cells #[i' 0] 36 (0,0),0⟩)]
 have ab:∀ i,9000<=i->K.get i=none:=fun i hi=>by simp only[K]; rw[Lo.Zi,if_neg (by omega),Lo.Zi,if_neg (by omega),Lo.Zi,if_neg (by omega),Lo.Zi,if_neg (by omega),Lo.Zi,if_neg (by omega),Lo.Zi,if_neg (by omega)]; rfl
 have ad:∀ x i,9000<=i->(P x).get i=none:=fun x i hi=>by simp only[P]; rw[Lo.Zi,if_neg (by omega),Lo.Zi,if_neg (by omega),Lo.Zi,if_neg (by omega),Lo.Zi,if_neg (by omega),Lo.Zi,if_neg (by omega),Lo.Zi,if_neg (by omega)]; rfl
 refine⟨_,K,_,lc z (lc z (lc z (lc z (lc z (lc z (Lo.Zr _)))))),fun i _=>by rw[aq]; rfl,anc1 h v bv bh W K (fun x=>decide (x ∈ ancU (parV h) (othV h) b.toNat)) P (fun G=>y34' G E C D F A B I H h) (fun _ _ s ⟨q1,q2,q3,q4⟩=>⟨q1.mono s,q2.mono s,q3.mono s,q4.mono s⟩) ab ad (Zmj U) (fun k hk=>?_),⟨ax,Z,O.mono l,L.mono l,M.mono l,Q.mono l⟩,fun G2 L2 u aN j=>?_⟩
 .have au:(ZaK h (k:Int) b).Ret (decide ((k:Int) ∈ ancU (parV h) (othV h) b.toNat)):=by
   obtain⟨o,aF⟩:=(⟨R,J⟩:(Zaf h v).Ret true/\_)
   refine⟨true,?_,y2,J,?_⟩
   .unfold Zaf at o ⊢
    rw[if_pos (by omega)] at o ⊢
    have e:decide ((v:Int)<(h.v.length:Int))=true:=o
    have g:=of_decide_eq_true e
    show decide _=true
    exact decide_eq_true (by omega)
   exact Cq.wp.no (Bool.eq_false_iff.1 n) ⟨⟨aa,ar⟩,z⟩
  refine YCtr.Zlf (N:=28) z S T al (by rw[aw]; exact ha.round (by decide)) (fun aR G' aQ ak=>?_)
  obtain⟨g1,g2,g3,g4⟩:=ak
  refine Zjt Y<|WCI.region Zic z (yy (Y0.assign z) z<|u' (fun a1 v1 av af=>⟨_,_,_,av,af,z,?_⟩))
  refine Zjt ap<|WCI.block<|WCI.seq<|WCI.region (Zea (Zdw Zdx)) z<|yy (o' 3 aG' z z z) z<|mv z z<|yy (f' 5 sc3 z z z) z<|F' Zk z (t' E16 z) (Zby _ _ _ _ _ _ _ _ _ _ _ _ au) z ⟨g1,g2,g3,g4⟩<|u'<|WCI.then<|WCI.condD (p:=(k:Int) ∈ ancU (parV h) (othV h) b.toNat) z (fun n=>?_) (fun n=>?_)
  .refine WCI.seq<|WCI.region (Zea (Zdw Zdx)) z<|mv z z<|aC' 6 #[i' (k:Int)] Zk sz3 z z z (by decide) z z<|aC' 7 #[i' 0] Zk sz36 z z z (by decide) z z<|u'<|WCI.then<|WCI.ret ?_
   exact fun X w2 _ m=>⟨_,_,P k,m,z,lc z (lc z (lc z (lc z (lc z (lc z (Lo.Zr _)))))),.inr ⟨z,decide_eq_true n,z⟩⟩
  refine WCI.skip ?_
  exact fun X w2 _ m=>⟨_,_,K,m,z,lc z (lc z (lc z (lc z (lc z (lc z (Lo.Zr _)))))),.inl ⟨z,decide_eq_false n,z⟩⟩
 obtain⟨y,_⟩:=j
 cases hf:(ancU (parV h) (othV h) v).find? (fun x=>decide (x ∈ ancU (parV h) (othV h) b.toNat)) with
 | none=>
  rw[hf] at y
  subst y
  refine⟨q,z,by rw[S]; simp,.inl ⟨T,?_⟩⟩
  refine WLD.ys (YS.storeL 6 #[i' 0] sz3 z z z (by decide) z z) (WLD.ys (YS.storeL 7 #[i' 0] sz36 z z z (by decide) z z) (WLD.nil (fun X w2 an m=>⟨z,z,RetD.of (a:=X) (rvs:=[.cell 6 3,.cell 7 36]) [i' 0,i' 0] z z m an z (fun i rv v c g=>?_) z⟩)))
  match i with
  | 0=>simp at c g; subst c g; exact RV.cellS (i:=6) sc3 z z z
  | 1=>simp at c g; subst c g; exact RV.cellS (i:=7) sc36 z z z
  | i+2=>simp at c
 | some x=>
  rw[hf] at y
  subst y
  refine⟨_,z,by simp,.inr ⟨z,fun w hs=>RetD.of (a:=ac) (rvs:=[.cell 6 3,.cell 7 36]) [i' x,i' 0] z z hs ha z (fun i rv v c g=>?_) z⟩⟩
  match i with
  | 0=>simp at c g; subst c g; exact RV.cellS (i:=6) sc3 z z z
  | 1=>simp at c g; subst c g; exact RV.cellS (i:=7) sc36 z z z
  | i+2=>simp at c
theorem gx'{k d c h j f g r}(hr:(ZfM k).Ret r):Ctr prog 32 #[.agg ((v31' k d c h j f g)).toArray] (fun G=>y31' G d c h j f g k) (w34t' r):=by
 refine E' (args:=[_]) (N:=12) func32 z z z (fun C E u p=>?_)
 obtain⟨l,o,m⟩:=p
 refine sr<|af' 1 z z z fun B=>V' 2 z z34 z fun D=>sx0 z z<|n'<|sr<|yy (o' 1 at' z z z) z ?_
 obtain⟨y,q,hr⟩:=hr
 refine F' z z (t' E44 z) (eo' q) z (⟨l,o,m⟩)<|yy (al' z) z<|nx<|aL' hr z (fun x hr=>?_) (fun x hr=>?_)
 .refine sr<|yy (av' (vs:=#[]) (v:=.agg ([.slice none 0 0,.slice none 0 0,.slice none 0 0,i' 0,.slice none 0 0]).toArray) z z (fun _=>by kernel_rfl)) z<|s' 2 z bH' z z z z z (List.all_eq_true.1 z)<|sx0 z z<|j'<|a' ?_
  obtain rfl:_=r:=hr
  exact aE' z (aa' (i:=2) aG' z z z) z ⟨_,_,_,_,_,_,_,_,z,(W' Rp.str _),(W' b' _),(W' b' _),(W' Q' _)⟩
 refine q'<|g'<|sr<|yy (o' 1 at' z z z) z<|yy (av' (vs:=#[(0,i' (-1)),(1,i' (-1))]) (v:=.agg ([i' (-1),i' (-1),.slice none 0 0]).toArray) z z (fun _=>by kernel_rfl)) z<|bd' (e:=63) (r:=Q') (vs:=#[(0,.agg ([i' (-1),i' (-1),.slice none 0 0]).toArray)]) (cs:=[i' (-1),i' (-1),.slice none 0 0]++([])) ([(Zh.mk (-1) (-1) [])]:List Zh) z z z z z (by decide) (fun _=>by kernel_rfl) ⟨[i' (-1),i' (-1),.slice none 0 0],[],z,⟨[i' (-1)],[i' (-1),.slice none 0 0],z,z,⟨[i' (-1)],[.slice none 0 0],z,z,⟨_,z,(W' _ _)⟩⟩⟩,z⟩ (key:=999) z (by rw[u]; rfl) fun t A n s=>yy (av' (vs:=#[(0,.agg ((v31' k d c h j f g)).toArray),(1,.slice t 1 1)]) (v:=.agg ([.slice d k.vars.length c,.slice h k.eqs.length j,.slice f k.neqs.length g,i' k.next,.slice t 1 1]).toArray) z z (fun _=>by kernel_rfl)) z<|s' 2 z bH' z z z z z (List.all_eq_true.1 z)<|sx0 z z<|j' ?_
 obtain rfl:_=r:=hr
 exact aE' z (aa' (i:=2) aG' z z z) z ⟨_,_,_,_,_,_,_,_,z,(l.mono n),(o.mono n),(m.mono n),s⟩
end Go.Proofs.YtnjiloaolgjedaaGreat

