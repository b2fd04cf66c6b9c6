/- The law VersionKeeps holds for every input: a part of its proof (what the code does, plain models, and what they return). No condition. -/
import Derived.Test.YtnjiloaolgjedaaGreatXK12d
import Derived.Test.YtnjiloaolgjedaaGreatXK12c
import Derived.Test.YtnjiloaolgjedaaGreatXK12b
set_option linter.unusedVariables false
set_option linter.unusedSimpArgs false
namespace Go.Proofs.YtnjiloaolgjedaaGreat
open Go.IntKind (i8 i16 i32 i64 u8 u16 u32 u64)
open Go.Proofs.Tryz
open Go Go.EL Go.RowKit Go.Proofs
theorem el'{f i C p c m tk q d r}(hr:(Zbf f i C).Ret r):CtrL prog 129 #[.slice p m c,i' i,.slice q C.length d] [(5000,tk)] (fun G=>RowR Rp.str 9 G (.slice p m c) f tk/\sl Rp.str G q d C) (fun G L v=>∃ zp zc ae,L=[(5000,ae)]/\v = .slice zp r.length zc/\RowR Rp.str 9 G (.slice zp r.length zc) r ae):=by
 obtain⟨⟨⟨a0,aG⟩,av,aY⟩,hr⟩:=hr
 obtain rfl:_=r:=hr
 obtain⟨j,rfl⟩:∃ j:Nat,i=j:=⟨i.toNat,by omega⟩
 refine bf' (args:=[_,_,_]) (N:=95) func129 z z z (fun w0 J aw al=>?_)
 obtain⟨H,ai⟩:=al
 obtain⟨p',c1,hf⟩:=H.form
 cases hf
 simp only[Int.toNat_natCast]
 refine sr<|sg z z<|nr<|mv z z<|mv z z<|yy (Y0.slcG F' sz9 z z (by omega)) z<|nr<|mv z z<|yy (dZ' F' z) z<|sg z z<|nx<|n'<|sr<|mv z z<|yy (at' z z) z<|nx<|bb' (by rw[show decide ((C.length:Int)=0)=false from decide_eq_false (by omega)]; rfl)<|q'<|g'<|sr<|mv z z<|yy (dZ' F' z) z<|sg z z<|nx<|n'<|sr<|mv z z<|mv z z<|yy (at' z z) z<|nx<|dA' (p:=(j:Int)=(f.length:Int)) z (fun hc=>?_) (fun hc=>?_)
 .have hj:j=f.length:=by omega
  subst hj
  have e1:f.take f.length++C++f.drop f.length=f++C:=by simp
  rw[e1]
  refine sr<|mv z z<|mv z z<|cx' (r:=Rp.str) (e:=9) 5000 z z F' el9 z (by decide) z z H z ai (by simp only[List.length_append,small]; omega) fun p2 c2 aH V=>sg z z<|nx<|j'<|a'<|aJ' (S':=St w0 J J [(5000,aH)]) (fun w A=>?_) (k' z z ⟨_,_,_,z,z,V⟩)
  exact A.weaken (lc z ln)
 cases tk with
 | none=>have:=H.1; subst this; simp at aG hc; omega
 | some y=>
 obtain⟨aO,cs,s,hv,ho,ah,Z,X,aF,t⟩:=H
 cases hv
 obtain⟨b,ob,mk⟩:=y
 dsimp only at ho ah
 subst ho ah
 have aM:=Z.len
 have aZ:j<f.length:=by omega
 have aj:=RepL.split (l:=f.take j) (m:=f.drop j) (by rw[List.take_append_drop]; exact Z)
 obtain⟨x,g,ao,ag,R⟩:=aj
 subst ao
 have E:=ag.len
 have P:=R.len
 rw[List.length_take,Nat.min_eq_left (by omega)] at E
 rw[List.length_drop] at P
 obtain⟨qy,dy,ds,az,a1,am,Y,D,B⟩:=ai
 cases az
 have ac:=Y (by omega)
 obtain⟨⟨vb,vo,vs⟩,rfl⟩:=Option.isSome_iff_exists.1 ac
 have af:=am _ z (by omega)
 dsimp only at af
 subst af
 have B:∀ k u,ds[k]? = some u->J vb (vo+k)=some u:=B
 have F:=D.len
 rw[av,Nat.one_mul] at F
 have U:(Rp.str).size=1:=z
 rw[U] at E P F X
 simp only[List.length_append] at X
 have K:∀ (bb T:Nat) (rs:List Value),(x++ds++g++rs).length=T*1->T<=maxLen->f.length+1<=T->RowR Rp.str 9 J (.slice (some ⟨bb,0,none⟩) (f.take j++C++f.drop j).length T) (f.take j++C++f.drop j) (some ⟨bb,.cells (x++ds++g++rs).toArray 9 (0,0),0⟩):=fun bb T rs h1 V h3=>
  ⟨T,x++ds++g,rs,z,z,z,(ag.append D).append R,by rw[U]; exact h1,V,by simp only[List.length_append,List.length_take,List.length_drop]; omega⟩
 have Q:(f.take j++C++f.drop j).length=f.length+1:=by simp only[List.length_append,List.length_take,List.length_drop]; omega
 refine q'<|g'<|n'<|sr<|mv z z<|mv z z<|yy (W' z z) z<|mv z z<|yy (Y0.capS F' z) z<|yy (bh' z z) z<|nx ?_
 have W:i64.wrap ((f.length:Int)+(C.length:Int))=((f.length+1:Nat):Int):=by rw[IntKind.wrap_i64]; omega
 rw[W]
 refine dA' (p:=(c:Int)<((f.length+1:Nat):Int)) z (fun aE=>?_) (fun aE=>?_)
 .refine sr<|mv z z<|mv z z<|yy (Y0.slc (l:=0) (h:=j) (m:=c) (b:=b) (o:=0) F' sz9 z z ⟨_,z⟩ z (by omega) (by omega) (by omega)) z<|mv z z<|mv z z<|yy (W' z z) z<|mv z z<|yy (bi' z z) z ?_
  rw[W]
  have aA:i64.wrap (((f.length+1:Nat):Int)-(j:Int))=((f.length+1-j:Nat):Int):=by rw[IntKind.wrap_i64]; omega
  rw[aA]
  simp only[Nat.zero_mul,Nat.add_zero,ite_self,Nat.sub_zero]
  refine WL.appendZ (sz:=1) (bytes:=16) (n:=j) (cap:=c) (m:=f.length+1-j) (b:=b) 5000 7001 z z F' aE' el9 z (by decide) (by decide) z z z (by omega) (by omega) (by simp only[small]; omega) (by simp only[List.length_append]; omega) (fun S M zs h1 V h3=>?_)
  have et:List.take (j*1) (x++g++s)=x:=by rw[List.append_assoc,<- E,List.take_left]
  have e0:j+(f.length+1-j)=f.length+1:=by omega
  rw[e0] at h1
  rw[et,e0]
  refine sg z z<|nr<|mv z z<|mv z z<|yy (dd' (l:=j) (n:=f.length+1) (cap:=M) (b:=S) F' sz9 z z (by omega) (by omega) (by omega)) z<|mv z z<|dB' (sz:=1) (dn:=f.length+1-j) (sn:=C.length) (ds:=ds) (b:=S) (o:=j*1) 7001 z z F' sz9 z z z (by rw[F]; simp only[Nat.min_def]; split <;> omega) (fun w A k u I=>A.imm _ _ _ (B k u I)) (by simp only[List.length_append]; omega) D.one ?_
  have e2:spl (x++zs) (j*1) ds=x++ds++zs.drop 1:=by
   rw[<- E]; simp only[spl,List.take_left,<- List.drop_drop,List.drop_left,F]
  rw[e2]
  refine nx<|n'<|ah' [ff,ff,ff,ff,ff,ff,ff,ff] mix (by kernel_rfl) fun hb=>cn (fun _ t=>e' z)<|cn (fun _ t=>e' z)<|cn (fun _ t=>e' z)<|cn (fun _ t=>W' z z) ?_
  have O:i64.wrap ((j:Int)+(C.length:Int))=((j+1:Nat):Int):=by rw[IntKind.wrap_i64]; omega
  rw[O]
  refine cn (fun _ t=>dd' (l:=j+1) (n:=f.length+1) (cap:=M) (b:=S) F' sz9 z z (by omega) (by omega) (by omega))<|cn (fun _ t=>e' z)<|cn (fun _ t=>e' z)<|cn (fun _ t=>dd' (l:=j) (n:=f.length) (cap:=c) (b:=b) F' sz9 z z (by omega) (by omega) (by omega))<|U' hb ?_
  .refine dB' (sz:=1) (dn:=f.length+1-(j+1)) (sn:=f.length-j) (ds:=g) (b:=S) (o:=(j+1)*1) 7001 z z F' sz9 z z z (by rw[P]; congr 1; simp only[Nat.min_def]; split <;> omega) (fun w A k u I=>by
    rw[A.cellOwn (key:=5000) (b:=b) (c:=x++g++s) (e:=9) z,List.append_assoc,List.getElem?_append_right (by omega),<- E,Nat.add_sub_cancel_left,List.getElem?_append_left (List.getElem?_eq_some_iff.1 I).1]
    exact I) (by simp only[List.length_append,List.length_drop]; omega) R.one ?_
   have e3:spl (x++ds++zs.drop 1) ((j+1)*1) g=x++ds++g++(zs.drop 1).drop g.length:=by
    have:(j+1)*1=(x++ds).length:=by simp only[List.length_append]; omega
    rw[this]; simp only[spl,List.take_left,<- List.drop_drop,List.drop_left]
   rw[e3]
   refine u'<|aq'<|g'<|sr<|mv z z<|sg z z<|nx<|j'<|a'<|aJ' (S':=St w0 J J [(5000,some ⟨S,.cells (x++ds++g++(zs.drop 1).drop g.length).toArray 9 (0,0),0⟩)]) (fun w A=>?_) (k' z z ⟨_,_,_,z,by rw[Q],K S M _ (by simp only[List.length_append,List.length_drop]; omega) V h1⟩)
   have A:=A.rekey (i:=7001) (j:=5000) z (by rw[aw]; rfl)
   exact A.weaken (lc z ln)
 refine q'<|g'<|sr<|mv z z<|mv z z<|mv z z<|yy (W' z z) z ?_
 rw[W]
 refine yy (Y0.slc (l:=0) (h:=f.length+1) (m:=c) (b:=b) (o:=0) F' sz9 z z ⟨_,z⟩ z (by omega) (by omega) (by omega)) z ?_
 simp only[Nat.zero_mul,Nat.add_zero,ite_self,Nat.sub_zero]
 refine sg z z<|nx<|n'<|sr<|mv z z<|mv z z<|mv z z<|mv z z<|yy (W' z z) z ?_
 have O:i64.wrap ((j:Int)+(C.length:Int))=((j+1:Nat):Int):=by rw[IntKind.wrap_i64]; omega
 rw[O]
 refine yy (dd' (l:=j+1) (n:=f.length+1) (cap:=c) (b:=b) F' sz9 z z (by omega) (by omega) (by omega)) z ?_
 obtain⟨u0,aC⟩:∃ u,ds[0]? = some u:=⟨ds[0],by simp⟩
 refine yy (Y0.ext z (fun w A=>ZeP (tR:=4) (key:=5000) F' sz9 func170 z z (by kernel_rfl) (by kernel_rfl) A z (by simp only[List.size_toArray,List.length_append]; omega) (B 0 u0 aC))) z<|yy (aj' z) z<|nx<|R' z<|n'<|ah' [ff,ff,ff,ff,ff,ff,ff,ff] mix (by kernel_rfl) fun hb=>cn (fun _ t=>e' z)<|cn (fun _ t=>e' z)<|cn (fun _ t=>e' z)<|cn (fun _ t=>W' z z) ?_
 rw[O]
 refine cn (fun _ t=>dd' (l:=j+1) (n:=f.length+1) (cap:=c) (b:=b) F' sz9 z z (by omega) (by omega) (by omega))<|cn (fun _ t=>e' z)<|cn (fun _ t=>e' z)<|cn (fun _ t=>dd' (l:=j) (n:=f.length+1) (cap:=c) (b:=b) F' sz9 z z (by omega) (by omega) (by omega))<|U' hb<|dB' (sz:=1) (dn:=f.length+1-(j+1)) (sn:=f.length+1-j) (ds:=g) (b:=b) (o:=(j+1)*1) 5000 z z F' sz9 z z z (by rw[P]; congr 1; simp only[Nat.min_def]; split <;> omega) (fun w A k u I=>by
  rw[A.cellOwn (key:=5000) (b:=b) (c:=x++g++s) (e:=9) z,List.append_assoc,List.getElem?_append_right (by omega),<- E,Nat.add_sub_cancel_left,List.getElem?_append_left (List.getElem?_eq_some_iff.1 I).1]
  exact I) (by simp only[List.length_append]; omega) R.one ?_
 refine u'<|aq'<|g'<|sr<|mv z z<|mv z z<|yy (dd' (l:=j) (n:=f.length+1) (cap:=c) (b:=b) F' sz9 z z (by omega) (by omega) (by omega)) z<|mv z z ?_
 have ax:(spl (x++g++s) ((j+1)*1) g).length=c*1:=by rw[Zeh (by simp only[List.length_append]; omega)]; simp only[List.length_append]; omega
 refine dB' (sz:=1) (dn:=f.length+1-j) (sn:=C.length) (ds:=ds) (b:=b) (o:=j*1) 5000 z z F' sz9 z z z (by rw[F]; simp only[Nat.min_def]; split <;> omega) (fun w A k u I=>A.imm _ _ _ (B k u I)) (by rw[ax]; omega) D.one ?_
 have e4:spl (spl (x++g++s) ((j+1)*1) g) (j*1) ds=x++ds++g++(x++g++s).drop ((j+1)*1+g.length):=by
  have e5:spl (x++g++s) ((j+1)*1) g=x++((g++s).take 1++(g++(x++g++s).drop ((j+1)*1+g.length))):=by
   simp only[spl]
   rw[show (j+1)*1=x.length+1 by omega,List.append_assoc x g s,List.take_length_add_append]
   simp only[List.append_assoc]
  rw[e5,<- E]
  have e6:((g++s).take 1).length=1:=by rw[List.length_take,List.length_append]; omega
  simp only[spl,List.take_left,<- List.drop_drop,List.drop_left,F]
  rw[List.drop_left' e6]
  simp only[List.append_assoc]
 rw[e4]
 refine nr<|mv z z<|sg z z<|nx<|j'<|a'<|aJ' (S':=St w0 J J [(5000,some ⟨b,.cells (x++ds++g++(x++g++s).drop ((j+1)*1+g.length)).toArray 9 (0,0),0⟩)]) (fun w A=>?_) (k' z z ⟨_,_,_,z,by rw[Q],K b c _ (by simp only[List.length_append,List.length_drop]; omega) aF (by omega)⟩)
 exact A.weaken (lc z ln)
theorem em'{d i Q p c m J r}(hr:(Zbe d i Q).Ret r):CtrL prog 134 #[.slice p m c,i' i,i' Q] [(5000,J)] (fun G=>RowR Rp.str 9 G (.slice p m c) d J) (fun G L v=>∃ zp zc T,L=[(5000,T)]/\v = .slice zp r.length zc/\RowR Rp.str 9 G (.slice zp r.length zc) r T):=by
 obtain⟨⟨aC,aA,ak,aB⟩,hr⟩:=hr
 obtain rfl:_=r:=hr
 obtain⟨j,rfl⟩:∃ j:Nat,i=j:=⟨i.toNat,by omega⟩
 obtain⟨k,rfl⟩:∃ k:Nat,Q=k:=⟨Q.toNat,by omega⟩
 refine bf' (args:=[_,_,_]) (N:=33) func134 z z z (fun w0 P ay t=>?_)
 obtain⟨p',c',hf⟩:=t.form
 cases hf
 simp only[Int.toNat_natCast]
 have Z:d.length<=c:=by
  cases J with
  | none=>have:=t.1; subst this; simp
  | some y=>obtain⟨c1,cs,g,V,Y,I,K,D,R,x⟩:=t; cases V; exact x
 refine sr<|sg z z<|nr<|mv z z<|mv z z<|mv z z<|mv z z<|yy (dZ' F' z) z<|yy (Y0.slcA F' sz9 z z z z (by omega) (by omega) Z) z<|nx<|n'<|sr<|mv z z<|mv z z<|yy (at' z z) z<|nx<|dA' (p:=(j:Int)=(k:Int)) z (fun hc=>?_) (fun hc=>?_)
 .have hj:j=k:=by omega
  subst hj
  rw[List.take_append_drop]
  refine sr<|mv z z<|sg z z<|nx<|j'<|a'<|aJ' (S':=St w0 P P [(5000,J)]) (fun w M=>M.weaken (lc z ln)) (k' z z ⟨_,_,_,z,z,t⟩)
 cases J with
 | none=>have:=t.1; subst this; simp at ak hc; omega
 | some y=>
 obtain⟨c1,cs,g,V,Y,I,K,D,R,x⟩:=t
 cases V
 obtain⟨b,ob,mk⟩:=y
 dsimp only at Y I
 subst Y I
 have A:(Rp.str).size=1:=z
 obtain⟨s,cb,aa,S,ai⟩:=RepL.split (l:=d.take j) (m:=d.drop j) (by rw[List.take_append_drop]; exact K)
 subst aa
 obtain⟨B,f,W,am,H⟩:=RepL.split (l:=(d.drop j).take (k-j)) (m:=d.drop k) (by
  have:d.drop k=(d.drop j).drop (k-j):=by rw[List.drop_drop]; congr 1; omega
  rw[this,List.take_append_drop]; exact ai)
 subst W
 have E:=S.len
 have U:=am.len
 have C:=H.len
 rw[List.length_take,Nat.min_eq_left (by omega),A] at E
 rw[List.length_take,List.length_drop,Nat.min_eq_left (by omega),A] at U
 rw[List.length_drop,A] at C
 rw[A] at D
 simp only[List.length_append] at D
 refine q'<|g'<|sr<|mv z z<|yy (dZ' F' z) z<|sg z z<|nx<|n' ?_
 have e0:(s++(B++f)++g)=s++B++(f++g):=by simp only[List.append_assoc]
 rw[e0]
 have ag:(s++B).length=k*1:=by rw[List.length_append,E,U,<- Nat.add_mul]; congr 1; omega
 refine ah' [ff,ff,ff,ff,ff,ff] mix (by kernel_rfl) fun hb=>cn (fun _ x=>e' z)<|cn (fun _ x=>e' z)<|cn (fun _ x=>Y0.slc (l:=0) (h:=j) (m:=c) (b:=b) (o:=0) F' sz9 z z ⟨_,z⟩ z (by omega) (by omega) (by omega))<|cn (fun _ x=>e' z)<|cn (fun _ x=>e' z)<|cn (fun _ x=>Y0.slc (l:=k) (h:=d.length) (m:=c) (b:=b) (o:=0) F' sz9 z z ⟨z,z⟩ ⟨_,z⟩ (by omega) (by omega) (by omega)) ?_
 simp only[Nat.zero_mul,Nat.add_zero,ite_self,Nat.sub_zero]
 refine U' hb<|WL.appendOwn (sz:=1) (ds:=f) (b:=b) (n:=j) (cap:=c) (m:=d.length-k) 5000 z z F' sz9 z z z (by rw[C]) (fun w M q u hu=>by
  have F:=(List.getElem?_eq_some_iff.1 hu).1
  have aj:¬ c=k:=fun e=>by subst e; rw[C] at F; rw[show d.length-c=0 by omega] at F; omega
  rw[if_neg aj,Nat.zero_add,M.cellOwn (key:=5000) (b:=b) (c:=s++B++(f++g)) (e:=9) z,List.getElem?_append_right (by omega),<- ag,Nat.add_sub_cancel_left,List.getElem?_append_left F]
  exact hu) (by omega) (by simp only[List.length_append]; omega) H.one ?_
 refine sg z z<|u'<|aq'<|g'<|sr<|mv z z<|mv z z<|yy (dZ' F' z) z<|mv z z<|yy (Y0.slc (l:=j+(d.length-k)) (h:=d.length) (m:=c) (b:=b) (o:=0) F' sz9 z z ⟨_,z⟩ ⟨_,z⟩ (by omega) (by omega) (by omega)) z ?_
 rw[if_neg (show ¬ c=j+(d.length-k) by omega),Nat.zero_add ((j+(d.length-k))*1)]
 have O:(spl (s++B++(f++g)) (j*1) f).length=c*1:=by rw[Zeh (by simp only[List.length_append]; omega)]; simp only[List.length_append]; omega
 refine WL.clearOwn (n:=d.length-(j+(d.length-k))) (b:=b) (o:=(j+(d.length-k))*1) 5000 z trivial F' z9 (List.all_eq_true.1 z) z z (by rw[O]; show _+_*1<=_; omega) (fun ds ah=>?_)
 have az:ds.length=(d.length-(j+(d.length-k)))*1:=ah
 have af:(spl (spl (s++B++(f++g)) (j*1) f) ((j+(d.length-k))*1) ds).length=c*1:=by rw[Zeh (by rw[O]; omega),O]
 have e4:spl (spl (s++B++(f++g)) (j*1) f) ((j+(d.length-k))*1) ds=s++f++(spl (spl (s++B++(f++g)) (j*1) f) ((j+(d.length-k))*1) ds).drop (s++f).length:=by
  have e5:∃ q,spl (s++B++(f++g)) (j*1) f=(s++f)++q:=⟨_,by rw[<- E]; simp only[spl]; rw[List.append_assoc s B,List.take_left]⟩
  obtain⟨q,hq⟩:=e5
  have X:(j+(d.length-k))*1=(s++f).length:=by rw[List.length_append,E,C,<- Nat.add_mul]
  rw[hq,X]
  simp only[spl]
  rw[List.take_left,List.append_assoc (s++f) ds,List.drop_left]
 rw[e4]
 refine nr<|mv z z<|sg z z<|nx<|j'<|aJ' (S':=St w0 P P [(5000,some ⟨b,.cells (s++f++(spl (spl (s++B++(f++g)) (j*1) f) ((j+(d.length-k))*1) ds).drop (s++f).length).toArray 9 (0,0),0⟩)]) (fun w M=>M.weaken (lc z ln)) (k' z z ⟨_,_,_,z,?_,⟨c,s++f,_,z,z,z,S.append H,?_,R,?_⟩⟩)
 .rw[show (d.take j++d.drop k).length=j+(d.length-k) by simp only[List.length_append,List.length_take,List.length_drop]; omega]
 .rw[<- e4,af,A]
 simp only[List.length_append,List.length_take,List.length_drop]; omega
theorem do'{k r}(hr:(Zad k).Ret r):CtrL prog 172 #[.slice none 0 0,i' k] [] (fun _=>True) (fun G L v=>∃ q s f,L=[(7000,f)]/\v = .slice q r.length s/\RowR b' 110 G (.slice q r.length s) r f):=by
 obtain⟨⟨D,C⟩,hr⟩:=hr
 replace hr:[]=r:=hr
 subst hr
 obtain⟨m,rfl⟩:∃ m:Nat,k=m:=⟨k.toNat,by omega⟩
 refine bf' (args:=[_,_]) (N:=27) func172 z z z fun g e u _=>sr<|sg z z<|nx<|n'<|sr<|mv z z<|yy (ag' z z) z<|nx<|bb' (by rw[show decide ((m:Int)<0)=false from decide_eq_false (by omega)]; rfl)<|q'<|g'<|n'<|sr<|mv z z<|mv z z<|yy (Y0.capS w' z) z<|mv z z<|yy (dZ' w' z) z<|yy (bi' z z) z<|yy (bi' z z) z ?_
 have B:i64.wrap ((m:Int)-i64.wrap (((0:Nat):Int)-((0:Nat):Int)))=m:=by simp only[IntKind.wrap_i64]; omega
 rw[B]
 refine sg z z<|nx<|sr<|mv z z<|yy (bh' z z) z<|nx<|dA' (p:=(0:Int)<(m:Int)) z (fun x=>?_) (fun x=>?_)
 .refine A'<|mv z z<|mv z z<|yy (Y0.capS w' z) z<|yy (Y0.nilH w' aR' z z) z<|mv z z<|WL.appendZ0 (sz:=2) (bytes:=32) (m:=m) 7001 z z w' aE' el110 z (by decide) (by decide) z z (by omega) (by simp only[small]; omega) fun n c t y A=>mv z z<|yy (dZ' w' z) z<|yy (Y0.slc (l:=0) (h:=0) (m:=c) (b:=n) (o:=0) w' aR' z z ⟨_,z⟩ z (Nat.le_refl _) (Nat.zero_le _) (Nat.le_refl _)) z ?_
  simp only[Nat.zero_mul,Nat.add_zero,ite_self,Nat.sub_zero]
  refine sg z z<|u'<|g'<|sr<|mv z z<|sg z z<|nx<|j'<|aJ' (S':=St g e e [(7000,some ⟨n,.cells t.toArray 110 (0,0),0⟩)]) (fun w d=>?_) (k' z z ⟨_,_,_,z,z,⟨c,[],t,z,z,z,z,A,y,Nat.zero_le _⟩⟩)
  have d:=d.rekey (i:=7001) (j:=7000) z (by rw[u]; rfl)
  exact d.weaken (lc z ln)
 refine q'<|g'<|sr<|mv z z<|sg z z<|nx<|j'<|aJ' (S':=St g e e [(7000,none)]) (fun w d=>d.weaken (lw ln)) (k' z z ⟨_,_,_,z,z,RowR.nil⟩)
theorem dy'{f i C p c m tk q d r}(hr:(ZU f i C).Ret r):CtrL prog 180 #[.slice p m c,i' i,.slice q C.length d] [(5000,tk)] (fun G=>RowR b' 110 G (.slice p m c) f tk/\sl b' G q d C) (fun G L v=>∃ zp zc ae,L=[(5000,ae)]/\v = .slice zp r.length zc/\RowR b' 110 G (.slice zp r.length zc) r ae):=by
 obtain⟨⟨⟨a0,aG⟩,av,aY⟩,hr⟩:=hr
 obtain rfl:_=r:=hr
 obtain⟨j,rfl⟩:∃ j:Nat,i=j:=⟨i.toNat,by omega⟩
 refine bf' (args:=[_,_,_]) (N:=95) func180 z z z (fun w0 J aw al=>?_)
 obtain⟨H,ai⟩:=al
 obtain⟨p',c1,hf⟩:=H.form
 cases hf
 simp only[Int.toNat_natCast]
 refine sr<|sg z z<|nr<|mv z z<|mv z z<|yy (Y0.slcG w' aR' z z (by omega)) z<|nr<|mv z z<|yy (dZ' w' z) z<|sg z z<|nx<|n'<|sr<|mv z z<|yy (at' z z) z<|nx<|bb' (by rw[show decide ((C.length:Int)=0)=false from decide_eq_false (by omega)]; rfl)<|q'<|g'<|sr<|mv z z<|yy (dZ' w' z) z<|sg z z<|nx<|n'<|sr<|mv z z<|mv z z<|yy (at' z z) z<|nx<|dA' (p:=(j:Int)=(f.length:Int)) z (fun hc=>?_) (fun hc=>?_)
 .have hj:j=f.length:=by omega
  subst hj
  have e1:f.take f.length++C++f.drop f.length=f++C:=by simp
  rw[e1]
  refine sr<|mv z z<|mv z z<|cx' (r:=b') (e:=110) 5000 z z w' el110 z (by decide) z z H z ai (by simp only[List.length_append,small]; omega) fun p2 c2 aH V=>sg z z<|nx<|j'<|a'<|aJ' (S':=St w0 J J [(5000,aH)]) (fun w A=>?_) (k' z z ⟨_,_,_,z,z,V⟩)
  exact A.weaken (lc z ln)
 cases tk with
 | none=>have:=H.1; subst this; simp at aG hc; omega
 | some y=>
 obtain⟨aO,cs,s,hv,ho,ah,Z,X,aF,t⟩:=H
 cases hv
 obtain⟨b,ob,mk⟩:=y
 dsimp only at ho ah
 subst ho ah
 have aM:=Z.len
 have aZ:j<f.length:=by omega
 have aj:=RepL.split (l:=f.take j) (m:=f.drop j) (by rw[List.take_append_drop]; exact Z)
 obtain⟨x,g,ao,ag,R⟩:=aj
 subst ao
 have E:=ag.len
 have P:=R.len
 rw[List.length_take,Nat.min_eq_left (by omega)] at E
 rw[List.length_drop] at P
 obtain⟨qy,dy,ds,az,a1,am,Y,D,B⟩:=ai
 cases az
 have ac:=Y (by omega)
 obtain⟨⟨vb,vo,vs⟩,rfl⟩:=Option.isSome_iff_exists.1 ac
 have af:=am _ z (by omega)
 dsimp only at af
 subst af
 have B:∀ k u,ds[k]? = some u->J vb (vo+k)=some u:=B
 have F:=D.len
 rw[av,Nat.one_mul] at F
 have U:(b').size=2:=z
 rw[U] at E P F X
 simp only[List.length_append] at X
 have K:∀ (bb T:Nat) (rs:List Value),(x++ds++g++rs).length=T*2->T<=maxLen->f.length+1<=T->RowR b' 110 J (.slice (some ⟨bb,0,none⟩) (f.take j++C++f.drop j).length T) (f.take j++C++f.drop j) (some ⟨bb,.cells (x++ds++g++rs).toArray 110 (0,0),0⟩):=fun bb T rs h1 V h3=>
  ⟨T,x++ds++g,rs,z,z,z,(ag.append D).append R,by rw[U]; exact h1,V,by simp only[List.length_append,List.length_take,List.length_drop]; omega⟩
 have Q:(f.take j++C++f.drop j).length=f.length+1:=by simp only[List.length_append,List.length_take,List.length_drop]; omega
 refine q'<|g'<|n'<|sr<|mv z z<|mv z z<|yy (W' z z) z<|mv z z<|yy (Y0.capS w' z) z<|yy (bh' z z) z<|nx ?_
 have W:i64.wrap ((f.length:Int)+(C.length:Int))=((f.length+1:Nat):Int):=by rw[IntKind.wrap_i64]; omega
 rw[W]
 refine dA' (p:=(c:Int)<((f.length+1:Nat):Int)) z (fun aE=>?_) (fun aE=>?_)
 .refine sr<|mv z z<|mv z z<|yy (Y0.slc (l:=0) (h:=j) (m:=c) (b:=b) (o:=0) w' aR' z z ⟨_,z⟩ z (by omega) (by omega) (by omega)) z<|mv z z<|mv z z<|yy (W' z z) z<|mv z z<|yy (bi' z z) z ?_
  rw[W]
  have aA:i64.wrap (((f.length+1:Nat):Int)-(j:Int))=((f.length+1-j:Nat):Int):=by rw[IntKind.wrap_i64]; omega
  rw[aA]
  simp only[Nat.zero_mul,Nat.add_zero,ite_self,Nat.sub_zero]
  refine WL.appendZ (sz:=2) (bytes:=32) (n:=j) (cap:=c) (m:=f.length+1-j) (b:=b) 5000 7001 z z w' aE' el110 z (by decide) (by decide) z z z (by omega) (by omega) (by simp only[small]; omega) (by simp only[List.length_append]; omega) (fun S M zs h1 V h3=>?_)
  have et:List.take (j*2) (x++g++s)=x:=by rw[List.append_assoc,<- E,List.take_left]
  have e0:j+(f.length+1-j)=f.length+1:=by omega
  rw[e0] at h1
  rw[et,e0]
  refine sg z z<|nr<|mv z z<|mv z z<|yy (dd' (l:=j) (n:=f.length+1) (cap:=M) (b:=S) w' aR' z z (by omega) (by omega) (by omega)) z<|mv z z<|dB' (sz:=2) (dn:=f.length+1-j) (sn:=C.length) (ds:=ds) (b:=S) (o:=j*2) 7001 z z w' aR' z z z (by rw[F]; simp only[Nat.min_def]; split <;> omega) (fun w A k u I=>A.imm _ _ _ (B k u I)) (by simp only[List.length_append]; omega) D.one ?_
  have e2:spl (x++zs) (j*2) ds=x++ds++zs.drop 2:=by
   rw[<- E]; simp only[spl,List.take_left,<- List.drop_drop,List.drop_left,F]
  rw[e2]
  refine nx<|n'<|ah' [ff,ff,ff,ff,ff,ff,ff,ff] mix (by kernel_rfl) fun hb=>cn (fun _ t=>e' z)<|cn (fun _ t=>e' z)<|cn (fun _ t=>e' z)<|cn (fun _ t=>W' z z) ?_
  have O:i64.wrap ((j:Int)+(C.length:Int))=((j+1:Nat):Int):=by rw[IntKind.wrap_i64]; omega
  rw[O]
  refine cn (fun _ t=>dd' (l:=j+1) (n:=f.length+1) (cap:=M) (b:=S) w' aR' z z (by omega) (by omega) (by omega))<|cn (fun _ t=>e' z)<|cn (fun _ t=>e' z)<|cn (fun _ t=>dd' (l:=j) (n:=f.length) (cap:=c) (b:=b) w' aR' z z (by omega) (by omega) (by omega))<|U' hb ?_
  .refine dB' (sz:=2) (dn:=f.length+1-(j+1)) (sn:=f.length-j) (ds:=g) (b:=S) (o:=(j+1)*2) 7001 z z w' aR' z z z (by rw[P]; congr 1; simp only[Nat.min_def]; split <;> omega) (fun w A k u I=>by
    rw[A.cellOwn (key:=5000) (b:=b) (c:=x++g++s) (e:=110) z,List.append_assoc,List.getElem?_append_right (by omega),<- E,Nat.add_sub_cancel_left,List.getElem?_append_left (List.getElem?_eq_some_iff.1 I).1]
    exact I) (by simp only[List.length_append,List.length_drop]; omega) R.one ?_
   have e3:spl (x++ds++zs.drop 2) ((j+1)*2) g=x++ds++g++(zs.drop 2).drop g.length:=by
    have:(j+1)*2=(x++ds).length:=by simp only[List.length_append]; omega
    rw[this]; simp only[spl,List.take_left,<- List.drop_drop,List.drop_left]
   rw[e3]
   refine u'<|aq'<|g'<|sr<|mv z z<|sg z z<|nx<|j'<|a'<|aJ' (S':=St w0 J J [(5000,some ⟨S,.cells (x++ds++g++(zs.drop 2).drop g.length).toArray 110 (0,0),0⟩)]) (fun w A=>?_) (k' z z ⟨_,_,_,z,by rw[Q],K S M _ (by simp only[List.length_append,List.length_drop]; omega) V h1⟩)
   have A:=A.rekey (i:=7001) (j:=5000) z (by rw[aw]; rfl)
   exact A.weaken (lc z ln)
 refine q'<|g'<|sr<|mv z z<|mv z z<|mv z z<|yy (W' z z) z ?_
 rw[W]
 refine yy (Y0.slc (l:=0) (h:=f.length+1) (m:=c) (b:=b) (o:=0) w' aR' z z ⟨_,z⟩ z (by omega) (by omega) (by omega)) z ?_
 simp only[Nat.zero_mul,Nat.add_zero,ite_self,Nat.sub_zero]
 refine sg z z<|nx<|n'<|sr<|mv z z<|mv z z<|mv z z<|mv z z<|yy (W' z z) z ?_
 have O:i64.wrap ((j:Int)+(C.length:Int))=((j+1:Nat):Int):=by rw[IntKind.wrap_i64]; omega
 rw[O]
 refine yy (dd' (l:=j+1) (n:=f.length+1) (cap:=c) (b:=b) w' aR' z z (by omega) (by omega) (by omega)) z ?_
 obtain⟨u0,aC⟩:∃ u,ds[0]? = some u:=⟨ds[0],by simp⟩
 refine yy (Y0.ext z (fun w A=>ZeP (tR:=4) (key:=5000) w' aR' func198 z z (by kernel_rfl) (by kernel_rfl) A z (by simp only[List.size_toArray,List.length_append]; omega) (B 0 u0 aC))) z<|yy (aj' z) z<|nx<|R' z<|n'<|ah' [ff,ff,ff,ff,ff,ff,ff,ff] mix (by kernel_rfl) fun hb=>cn (fun _ t=>e' z)<|cn (fun _ t=>e' z)<|cn (fun _ t=>e' z)<|cn (fun _ t=>W' z z) ?_
 rw[O]
 refine cn (fun _ t=>dd' (l:=j+1) (n:=f.length+1) (cap:=c) (b:=b) w' aR' z z (by omega) (by omega) (by omega))<|cn (fun _ t=>e' z)<|cn (fun _ t=>e' z)<|cn (fun _ t=>dd' (l:=j) (n:=f.length+1) (cap:=c) (b:=b) w' aR' z z (by omega) (by omega) (by omega))<|U' hb<|dB' (sz:=2) (dn:=f.length+1-(j+1)) (sn:=f.length+1-j) (ds:=g) (b:=b) (o:=(j+1)*2) 5000 z z w' aR' z z z (by rw[P]; congr 1; simp only[Nat.min_def]; split <;> omega) (fun w A k u I=>by
  rw[A.cellOwn (key:=5000) (b:=b) (c:=x++g++s) (e:=110) z,List.append_assoc,List.getElem?_append_right (by omega),<- E,Nat.add_sub_cancel_left,List.getElem?_append_left (List.getElem?_eq_some_iff.1 I).1]
  exact I) (by simp only[List.length_append]; omega) R.one ?_
 refine u'<|aq'<|g'<|sr<|mv z z<|mv z z<|yy (dd' (l:=j) (n:=f.length+1) (cap:=c) (b:=b) w' aR' z z (by omega) (by omega) (by omega)) z<|mv z z ?_
 have ax:(spl (x++g++s) ((j+1)*2) g).length=c*2:=by rw[Zeh (by simp only[List.length_append]; omega)]; simp only[List.length_append]; omega
 refine dB' (sz:=2) (dn:=f.length+1-j) (sn:=C.length) (ds:=ds) (b:=b) (o:=j*2) 5000 z z w' aR' z z z (by rw[F]; simp only[Nat.min_def]; split <;> omega) (fun w A k u I=>A.imm _ _ _ (B k u I)) (by rw[ax]; omega) D.one ?_
 have e4:spl (spl (x++g++s) ((j+1)*2) g) (j*2) ds=x++ds++g++(x++g++s).drop ((j+1)*2+g.length):=by
  have e5:spl (x++g++s) ((j+1)*2) g=x++((g++s).take 2++(g++(x++g++s).drop ((j+1)*2+g.length))):=by
   simp only[spl]
   rw[show (j+1)*2=x.length+2 by omega,List.append_assoc x g s,List.take_length_add_append]
   simp only[List.append_assoc]
  rw[e5,<- E]
  have e6:((g++s).take 2).length=2:=by rw[List.length_take,List.length_append]; omega
  simp only[spl,List.take_left,<- List.drop_drop,List.drop_left,F]
  rw[List.drop_left' e6]
  simp only[List.append_assoc]
 rw[e4]
 refine nr<|mv z z<|sg z z<|nx<|j'<|a'<|aJ' (S':=St w0 J J [(5000,some ⟨b,.cells (x++ds++g++(x++g++s).drop ((j+1)*2+g.length)).toArray 110 (0,0),0⟩)]) (fun w A=>?_) (k' z z ⟨_,_,_,z,by rw[Q],K b c _ (by simp only[List.length_append,List.length_drop]; omega) aF (by omega)⟩)
 exact A.weaken (lc z ln)
theorem gB':CtrL prog 67 #[] [] (fun _=>True) (fun _ L v=>∃ c,L=[(7000,c)]/\MapR ky3 RvF v Zv c):=by
 refine bf' (args:=[]) (N:=3) func67 z z z fun g e f _=>sr<|WL.y0' z (Y0.assign z) z<|nx<|sr<|WL.makeMap (ky:=ky3) (Rv:=RvF) 4000 z z fun b c h=>dK' (z:=85) (k:=1) 4000 z bV' h z z z z (show (Lit.int i64 1).wf=true by decide) z (by decide) fun c h=>dK' (z:=86) (k:=2) 4000 z bV' h z z z z (show (Lit.int i64 2).wf=true by decide) z (by decide) fun c h=>dK' (z:=87) (k:=3) 4000 z bV' h z z z z (show (Lit.int i64 3).wf=true by decide) z (by decide) fun c h=>dK' (z:=88) (k:=4) 4000 z bV' h z z z z (show (Lit.int i64 4).wf=true by decide) z (by decide) fun c h=>dK' (z:=89) (k:=5) 4000 z bV' h z z z z (show (Lit.int i64 5).wf=true by decide) z (by decide) fun c h=>dK' (z:=90) (k:=6) 4000 z bV' h z z z z (show (Lit.int i64 6).wf=true by decide) z (by decide) fun c h=>dK' (z:=91) (k:=7) 4000 z bV' h z z z z (show (Lit.int i64 7).wf=true by decide) z (by decide) fun c h=>dK' (z:=92) (k:=8) 4000 z bV' h z z z z (show (Lit.int i64 8).wf=true by decide) z (by decide) fun c h=>mv z z<|sg z z<|nx<|j'<|aJ' (S':=St g e e [(7000,c)]) (fun w d=>?_) (k' z z ⟨_,z,h⟩)
 have d:=d.rekey (i:=4000) (j:=7000) z (by rw[f]; rfl)
 exact d.weaken (lc z ln)
theorem eO'{i j r}(hr:(ZbL i j).Ret r):Ctr prog 109 #[.agg (vecG (Value.int .i64) 8 i).toArray,.agg (vecG (Value.int .i64) 8 j).toArray] (fun G=>True) (fun G v=>v=i' r):=by
 refine E' (args:=[_,_]) (N:=25) func109 z z z fun u k J C=>sr<|ad' 2 z z z fun m=>ad' 3 z z z fun n=>sg z z<|nx<|n'<|sr<|yy (o' 2 bP' z z (Z' _ _ _)) z<|yy (o' 3 bP' z z (Z' _ _ _)) z<|yy (Y0.eqlV aN' aE' sc3 sz3 eg120 z z) z<|nx<|L' hr z (fun A hr=>?_) (fun A hr=>?_)
 .refine sr<|sg z z<|nx<|j'<|a' ?_
  obtain rfl:_=r:=hr
  exact k' z z z
 refine q'<|g'<|sr<|sg z z<|nx<|n'<|ak' (fun (⟨g,f⟩:Int×Mem)=>[(2,.pointer (some ⟨m,0,none⟩)),(3,.pointer (some ⟨n,0,none⟩)),(5,i' g)]) (fun ⟨g,f⟩=>Mem.le k f/\(ZcW i j g).Ret r) (fun ⟨g,f⟩=>St u k f [(2,some ⟨m,.cells (vecG (Value.int .i64) 8 i).toArray 120 (0,0),0⟩),(3,some ⟨n,.cells (vecG (Value.int .i64) 8 j).toArray 120 (0,0),0⟩)]) ?_ ?_
 .refine C' ?_
  let l:Int->Prop:=fun E=>((fun F=>match F with|g=>ZcW i j g:Int->Cq Int) E).wp (fun a=>a=r)
  replace hr:(Cq.loop _ _).wp l:=hr
  refine al' (Φ:=l) (fun (⟨e,d⟩:Int×Mem)=>(e:Int)) (fun ⟨e,d⟩=>[(2,.pointer (some ⟨m,0,none⟩)),(3,.pointer (some ⟨n,0,none⟩)),(5,i' e)]) (fun ⟨e,d⟩=>Mem.le k d) (fun ⟨e,d⟩=>St u k d [(2,some ⟨m,.cells (vecG (Value.int .i64) 8 i).toArray 120 (0,0),0⟩),(3,some ⟨n,.cells (vecG (Value.int .i64) 8 j).toArray 120 (0,0),0⟩)]) ⟨0,k⟩ hr (f3 z z z) mr (w2 z z) ?_
  .intro I D H hr
   obtain⟨e,d⟩:=D
   have h:=H
   refine n'<|n'<|ah' [ff,ff,ff,ff,ff,ff] mix (by kernel_rfl) fun t=>cn (fun _ c=>e' z) ?_
   obtain⟨o,hr⟩:=hr
   refine cn (fun _ c=>bg' aN' sz3 z z o)<|cn (fun _ c=>f' 2 sc3 z z (bj' _ _ _ o))<|cn (fun _ c=>e' z) ?_
   obtain⟨s,hr⟩:=hr
   refine cn (fun _ c=>bg' aN' sz3 z z s)<|cn (fun _ c=>f' 3 sc3 z z (bj' _ _ _ s))<|U' t<|yy (at' z z) z<|u'<|aq'<|g'<|L' hr z (fun y hr=>?_) (fun y hr=>?_)
   .refine q'<|g'<|C'<|A'<|mv z z<|yy (W' z z) z<|sg z z<|u'<|J'<|X' ⟨i64.wrap (e+1),d⟩ hr h (f3 z z z) (w2 z z)
   refine am'<|r'<|r'<|O'<|ao' ⟨e,d⟩ ⟨h,hr⟩ (f3 z z z) (w2 z z)
 rintro⟨g,f⟩ ⟨B,hr⟩
 refine g'<|n'<|n'<|ah' [ff,ff,ff,ff,ff,ff] mix (by kernel_rfl) fun t=>cn (fun _ c=>e' z) ?_
 obtain⟨q,hr⟩:=hr
 refine cn (fun _ c=>bg' aN' sz3 z z q)<|cn (fun _ c=>f' 2 sc3 z z (bj' _ _ _ q))<|cn (fun _ c=>e' z) ?_
 obtain⟨p,hr⟩:=hr
 refine cn (fun _ c=>bg' aN' sz3 z z p)<|cn (fun _ c=>f' 3 sc3 z z (bj' _ _ _ p))<|U' t<|yy (ag' z z) z<|u'<|aq'<|g'<|L' hr z (fun x hr=>?_) (fun x hr=>?_)
 .refine sr<|sg z z<|nx<|j'<|a' ?_
  obtain rfl:_=r:=hr
  exact k' z z z
 refine q'<|g'<|sr<|sg z z<|nx<|j' ?_
 obtain rfl:_=r:=hr
 exact k' z z z
theorem eN'{k l h d c g f j e i r}(hr:(ZcZ k l).Ret r):Ctr prog 211 #[.agg (((v130' k.c h d c g):List Value)++(vecG (Value.int .i64) 8 k.m)).toArray,.agg (((v130' l.c f j e i):List Value)++(vecG (Value.int .i64) 8 l.m)).toArray] (fun G=>sl (Rp.int .u32) G h d k.c.num.mag/\sl (Rp.int .u32) G c g k.c.den.mag/\sl (Rp.int .u32) G f j l.c.num.mag/\sl (Rp.int .u32) G e i l.c.den.mag) (fun G v=>v=i' r):=by
 refine E' (args:=[_,_]) (N:=10) func211 z z z (fun x A u q=>?_)
 obtain⟨m,o,n,p⟩:=q
 refine sr<|ad' 2 z z z fun y=>ad' 3 z z z fun B=>sg z z<|nr<|yy (bz' z) z<|yy (aH' (vecG (Value.int .i64) 8 l.m).toArray 3 bP' z z (Z' _ _ _) (aT' ((v130' l.c f j e i)) (vecG (Value.int .i64) 8 l.m) ([]))) z<|yy (bz' z) z<|yy (aH' (vecG (Value.int .i64) 8 k.m).toArray 2 bP' z z (Z' _ _ _) (aT' ((v130' k.c h d c g)) (vecG (Value.int .i64) 8 k.m) ([]))) z ?_
 obtain⟨t,s,hr⟩:=hr
 refine D' z z (t' E109 z) (eO' s) z (trivial)<|sg z z<|nx<|j' ?_
 obtain rfl:_=r:=hr
 exact k' z z z
theorem hA':Go.Sort.SWO (Go.Proofs.ltOf (fun a b:Ze=>cmpM b.m a.m)):=⟨fun x=>swoR.irrefl x.m,fun x y z=>swoR.trans x.m y.m z.m,fun x y z=>swoR.ntrans x.m y.m z.m⟩
theorem cR'{l a b i p c n C r}(hr:(ZW l a b i).Ret r):CtrL prog 219 #[.slice p n c,i' a,i' b,i' i,.func (.func 211) #[] #[]] [(5000,C)] (fun G=>RowR I' 133 G (.slice p n c) l C) (fun G L v=>∃ A,L=[(5000,A)]/\v = .tuple #[]/\RowR I' 133 G (.slice p n c) r A):=by
 obtain⟨⟨rfl,rfl,⟨T,S⟩,Q⟩,hr⟩:=hr
 obtain⟨k,rfl⟩:∃ k:Nat,i=k:=⟨i.toNat,by omega⟩
 refine (pdqR (r:=I') (sz:=12) z (by decide) hA' Tryz.sortL z (fun _=>by kernel_rfl) (fun _=>by kernel_rfl) (fun x y U R w G J O=>?_) E211 133 p n c l C k (by omega) (by omega)).mono (fun _ h=>h) (fun G L v ⟨D,E,H,M,I,F,N⟩=>?_)
 .obtain⟨K,P⟩:=O
  obtain⟨o,t,B,s,rfl,e,g⟩:=Zib K
  obtain⟨m,q,u,j,rfl,d,f⟩:=Zib P
  exact eN' (show (ZcZ x y).Ret (cmpM y.m x.m) from ⟨_,ZeO y.m x.m,z⟩) w G J ⟨e,g,d,f⟩
 have:D=r:=hr D ⟨F,N.imp (fun h=>by simpa [Go.Proofs.ltOf] using h)⟩
 subst this
 exact⟨E,H,M,I⟩
theorem fk'(c:Int)(f:Nat)(r:Bool)(hr:(ZaI c).Ret r):Ctr prog 122 #[.pointer (some ⟨f,0,none⟩)] (fun G=>At (Rp.int .i64) G f 0 c) (fun G v=>v = .bool r):=by
 refine E' (args:=[_]) (N:=4) func122 z z z (fun h i g e=>?_)
 have d:=e
 refine sr<|sg z z<|nr<|yy (Y' sc3 z (aD' d)) z<|yy (ag' z z) z<|sg z z<|nx<|j' ?_
 obtain rfl:_=r:=hr
 exact k' z z z
theorem fl'(e:(Unit->Cq Bool))(d:Int)(m:Nat)(k:Nat)(r:Int)(hr:(Zp e d).Ret r):Ctr prog 167 #[.pointer (some ⟨m,0,none⟩),.pointer (some ⟨k,0,none⟩)] (fun G=>At (Rp.fn prog fa0 foB) G m 0 e/\At (Rp.int .i64) G k 0 d) (fun G v=>v=i' r):=by
 refine E' (args:=[_,_]) (N:=6) func167 z z z (fun u x s i=>?_)
 obtain⟨h,g⟩:=i
 refine sr<|sg z z<|nx<|n'<|sr ?_
 obtain⟨y,o,l⟩:=AtK.fnv h
 refine yy (Y' sc27 z (o)) z ?_
 obtain⟨q,j,hr⟩:=hr
 refine WL.callFn (vs:=[]) (a:=()) z z l z z z j (fun p t f c=>?_)
 subst c
 refine nx<|aL' hr z (fun n hr=>?_) (fun n hr=>?_)
 .refine sr<|sg z z<|nx<|j'<|a' ?_
  obtain rfl:_=r:=hr
  exact k' z z z
 refine q'<|g'<|sr<|yy (Y' sc36 z (aD' (H' g f))) z<|sg z z<|nx<|j' ?_
 obtain rfl:_=r:=hr
 exact k' z z z
theorem bx'{f d c g r}(hr:(ZG f d).Ret r):Ctr prog 121 #[i' f,c] (fun G=>FnRd prog fa0 foB G c g d) (fun G v=>∃ p s,v=p/\FnRd prog fa0 foI G p s r):=by
 refine E' (args:=[_,_]) (N:=6) func121 z z z (fun C D k l=>?_)
 have e:=l
 refine sr<|ad' 124202 z z z fun t=>WL.boxF 124203 (FnR.one e) z z z fun q=>sg z z<|nx<|n'<|bC' 124203 z (by rw[k]; rfl) fun B i m A=>bC' 124202 z (by rw[k]; rfl) fun o h n u=>A'<|yy (bO' z z) z<|sg z z<|nx<|j' ?_
 obtain rfl:_=r:=hr
 exact k' z z ⟨_,_,z,(show FnRd prog fa0 foI o (.func (.func 167) #[] #[.pointer (some ⟨q,0,none⟩),.pointer (some ⟨t,0,none⟩)]) () (fun _=>Zp d f) from (dq' E167 (fun x y=>dr' (fl' _ _ _ _ x y) (fun E j=>⟨(H' (ch' (r:=(Rp.fn prog fa0 foB)) (cs:=[c]) m z ⟨_,z,(e.mono i)⟩) (mt h j)),(H' (ch' (r:=(Rp.int .i64)) (cs:=[i' f]) n z z) j)⟩))))⟩
theorem fm'(e:Zc)(d:Int)(j:Nat)(h:Nat)(r:Bool)(hr:(Zan e d).Ret r):Ctr prog 123 #[.pointer (some ⟨j,0,none⟩),.pointer (some ⟨h,0,none⟩)] (fun G=>At af' G j 0 e/\At (Rp.int .i64) G h 0 d) (fun G v=>v = .bool r):=by
 refine E' (args:=[_,_]) (N:=12) func123 z z z (fun l m k g=>?_)
 obtain⟨c,f⟩:=g
 refine sr<|sg z z<|nr<|yy (aI' z) z<|yy (Y' sc3 z (aD' (aV' (ay' (ay' (ax' c)))))) z<|aa' hr z (bK' z z) z (fun i hr=>?_) (fun i hr=>?_)
 .refine mv z z<|gy z z (aI' z) z<|gy z z (Y' sc3 z (aD' (aV' (ay' (ay' (ax' c)))))) z<|gy z z (Y' sc3 z (aD' f)) z<|gy z z (bK' z z) z<|yy (h' z z) z<|sg z z<|nx<|j' ?_
  obtain rfl:_=r:=hr
  exact k' z z z
 refine mv z z<|sn4 z<|yy (l' z z) z<|sg z z<|nx<|j' ?_
 obtain rfl:_=r:=hr
 exact k' z z z
theorem eG'{g d e r}(hr:(Zdo g).Ret r):Ctr prog 157 #[.agg ((v128' g d e)).toArray] (fun G=>sl (Rp.int .u32) G d e g.mag) (fun G v=>v = .bool r):=by
 refine E' (args:=[_]) (N:=19) func157 z z z (fun m n k h=>?_)
 have c:=h
 refine sr<|ad' 1 z z z fun o=>sg z z<|nr<|yy (br' z) z<|aa' hr z (cZ' (f' 1 sc4 z z z) (congrArg Value.bool (bdec _))) z (fun i hr=>?_) (fun i hr=>?_)
 .refine yy (aj' z) z<|mv z z<|sn4 z<|yy (l' z z) z<|mv z z<|sn5 z<|yy (l' z z) z<|sg z z<|nx<|j' ?_
  obtain rfl:_=r:=hr
  exact k' z z z
 refine yy (aj' z) z<|mv z z<|gy z z (aY' z) z<|gy z z (f' 1 bI' z z z) z<|gy z z (M' B' c z) z<|aa' hr (v' z z) (at' z z) z (fun j hr=>?_) (fun j hr=>?_)
 .refine yy (h' z z) z<|mv z z<|gy z z (aY' z) z<|gy z z (f' 1 bI' z z z) z ?_
  obtain⟨l,f,hr⟩:=hr
  refine gy z z (Q' B' bs' c z z f) z<|gy z z (Y' bR' z (aD' (ab' c f))) z<|gy z z (at' z z) z<|yy (h' z z) z<|sg z z<|nx<|j' ?_
  obtain rfl:_=r:=hr
  exact k' z z z
 refine yy (h' z z) z<|mv z z<|sn5 z<|yy (l' z z) z<|sg z z<|nx<|j' ?_
 obtain rfl:_=r:=hr
 exact k' z z z
theorem ds'{f i k r}(hr:(ZbK f).Ret r):Ctr prog 187 #[.slice i f.length k] (fun G=>sl (Rp.int .u32) G i k f) (wl' (Rp.int .u32) r):=by
 refine E' (args:=[_]) (N:=21) func187 z z z (fun s l E p=>?_)
 have j:=p
 refine sr<|sg z z<|nr<|mv z z<|yy (M' B' j z) z<|sg z z<|nx<|n'<|ak' (fun (⟨h,g⟩:Int×Mem)=>[(0,.slice i f.length k),(3,i' h)]) (fun ⟨h,g⟩=>Mem.le l g/\(ZcU f h).Ret r) (fun ⟨h,g⟩=>St s l g []) ?_ ?_
 .refine C' ?_
  let m:Int->Prop:=fun y=>((fun A=>match A with|h=>ZcU f h:Int->Cq (List Int)) y).wp (fun a=>a=r)
  replace hr:(Cq.loop _ _).wp m:=hr
  refine al' (Φ:=m) (fun (⟨e,d⟩:Int×Mem)=>(e:Int)) (fun ⟨e,d⟩=>[(0,.slice i f.length k),(3,i' e)]) (fun ⟨e,d⟩=>Mem.le l d) (fun ⟨e,d⟩=>St s l d []) ⟨(f.length:Int),l⟩ hr (f2 z z) mr (wk ln) ?_
  .intro C x B hr
   obtain⟨e,d⟩:=x
   have c:=B
   refine n'<|sr<|mv z z<|aa' hr z (bh' z z) z (fun t hr=>?_) (fun t hr=>?_)
   .refine mv z z<|gy z z (e' z) z<|gy z z (e' z) z<|gy z z (bi' z z) z ?_
    obtain⟨F,o,hr⟩:=hr
    refine gy z z (Q' B' bs' (j.mono c) z z o) z<|gy z z (Y' bR' z (aD' (H' (ab' j o) c))) z<|gy z z (at' z z) z<|yy (h' z z) z<|nx<|L' hr z (fun v hr=>?_) (fun v hr=>?_)
    .refine q'<|g'<|C'<|A'<|mv z z<|yy (bi' z z) z<|sg z z<|u'<|J'<|X' ⟨i64.wrap (e-1),d⟩ hr c (f2 z z) (wk ln)
    refine am'<|r'<|r'<|O'<|ao' ⟨e,d⟩ ⟨c,hr⟩ (f2 z z) (wk ln)
   refine mv z z<|sn6 z<|yy (l' z z) z<|nx<|bb' z<|am'<|r'<|r'<|O'<|ao' ⟨e,d⟩ ⟨c,hr⟩ (f2 z z) (wk ln)
 rintro⟨h,g⟩ ⟨n,hr⟩
 refine g'<|sr<|mv z z<|mv z z ?_
 obtain⟨q,hr⟩:=hr
 refine WL.sliceRH (r:=(Rp.int .u32)) z z B' bs' z (j.mono n) z z q fun H D u=>sg z z<|nx<|j' ?_
 obtain rfl:_=r:=hr
 exact k' z z ⟨_,_,z,u⟩
theorem eJ'{g d c r}(hr:(Zd2 g).Ret r):Ctr prog 186 #[.slice d g.length c] (fun G=>sl (Rp.int .u32) G d c g) (wl' (Rp.int .u32) r):=by
 refine E' (args:=[_]) (N:=5) func186 z z z (fun p q i f=>?_)
 have h:=f
 refine sr<|sg z z<|nr<|mv z z ?_
 obtain⟨e,hr⟩:=hr
 refine bS' (r:=(Rp.int .u32)) 2004 z z B' el202 z (by decide) z z (V' (Rp.int .u32) _) z (by rw[i]; rfl) dg' h e fun s n m o k j l=>sg z z<|nx<|j' ?_
 obtain rfl:_=r:=hr
 exact k' z z ⟨_,_,z,j⟩
theorem fP'{c d f e r}(hr:(Zf0 c d).Ret r):Ctr prog 189 #[.bool c,.slice f d.length e] (fun G=>sl (Rp.int .u32) G f e d) (w128' r):=by
 refine E' (args:=[_,_]) (N:=14) func189 z z z (fun x y u n=>?_)
 have l:=n
 refine sr<|T' 4 z z128 z fun A=>nr<|mv z z ?_
 obtain⟨m,o,hr⟩:=hr
 refine P' z z (t' E187 z) (ds' o) z (l) (fun s t q g=>?_)
 obtain⟨k,h,rfl,j⟩:=g
 refine sg z z<|nx<|n'<|sr<|mv z z<|yy (M' B' j z) z<|yy (at' z z) z<|nx<|L' hr z (fun p hr=>?_) (fun p hr=>?_)
 .exact (show False from hr).elim
 refine q'<|g'<|sr<|mv z z<|mv z z<|yy (aw' (vs:=#[(0,.bool c),(1,.slice k m.length h)]) (v:=.agg ([.bool c,.slice k m.length h]).toArray) z z (fun _=>by kernel_rfl)) z<|s' 4 z dk' z z z z z (List.all_eq_true.1 z)<|nx<|j' ?_
 obtain rfl:_=r:=hr
 exact k' z (ac' (i:=4) bt' z z z) ⟨_,_,z,j⟩
theorem gq'{a1 b1 D E B F r}(hr:(Zig a1 b1).Ret r):Ctr prog 158 #[.agg ((v128' a1 D E)).toArray,.agg ((v128' b1 B F)).toArray] (fun G=>sl (Rp.int .u32) G D E a1.mag/\sl (Rp.int .u32) G B F b1.mag) (w128' r):=by
 refine E' (args:=[_,_]) (N:=53) func158 z z z (fun w0 G0 aX ak=>?_)
 obtain⟨aa,S⟩:=ak
 refine sr<|ad' 2 z z z fun b2=>ad' 3 z z z fun b3=>T' 4 z z128 z fun b4=>nx<|n'<|ah' [ff,ff,ff,ff,ff,ff] mix (by kernel_rfl) fun hb=>cn (fun _ k=>aY' z)<|cn (fun _ k=>f' 2 bI' z z z) ?_
 obtain⟨V,am,hr⟩:=hr
 refine aW' (post:=wl' (Rp.int .u32) V) (fun _=>z) (fun _ _=>t' E187 z) (ds' am) z (fun G' k=>(aa.mono k)) (fun v G1 G2 k h=>?_) ?_
 .obtain⟨W,Z,rfl,y⟩:=h
  exact⟨_,_,z,y.mono k⟩
 obtain⟨U,ai,hr⟩:=hr
 refine cy' (f:=186) (φ:=wl' (Rp.int .u32) U) (fun _=>z) (fun v G1 G2 k h=>?_) (fun u G' k hu=>?_) ?_
 .obtain⟨T,ab,rfl,J⟩:=h
  exact⟨_,_,z,J.mono k⟩
 .obtain⟨⟨W,Z,ag,y⟩,_⟩:=(show (wl' (Rp.int .u32) V) G'.m (u 13)/\True from hu)
  exact⟨_,_,_,fun _=>t' E186 z,eJ' ai,(by simp only[ag] <;> rfl),y⟩
 refine cu (fun _ _ k=>aY' z)<|cu (fun _ _ k=>f' 3 bI' z z z)<|dt' (d:=14) (post:=wl' (Rp.int .u32) U) (d':=13) (post':=wl' (Rp.int .u32) V) (fun aW aU a4 ae L O=>?_)
 obtain⟨T,ab,rfl,J⟩:=L
 obtain⟨W,Z,rfl,y⟩:=O
 obtain⟨a3,aw,hr⟩:=hr
 refine P' z z (t' E187 z) (ds' aw) z ((S.mono ae)) (fun aJ aZ ac P=>?_)
 obtain⟨aQ,aN,rfl,ao⟩:=P
 obtain⟨aF,ap,hr⟩:=hr
 refine P' z z (t' E186 z) (eJ' ap) z (ao) (fun aR Y ah K=>?_)
 obtain⟨al,av,rfl,aj⟩:=K
 refine sg z z<|sg z z<|u'<|aq'<|g'<|n'<|ak' (fun (⟨H,A,I,x,j,g,t⟩:(List Int)×Option Addr×Nat×Zj×Option Addr×Nat×Mem)=>[(4,.pointer (some ⟨b4,0,none⟩)),(5,.slice A H.length I)]) (fun ⟨H,A,I,x,j,g,t⟩=>Mem.le Y t/\sl (Rp.int .u32) t A I H/\sl (Rp.int .u32) t j g x.mag/\(Zdj H).Ret r) (fun ⟨H,A,I,x,j,g,t⟩=>St w0 G0 t [(4,some ⟨b4,.cells ((v128' x j g)).toArray 128 (0,0),0⟩)]) ?_ ?_
 .refine C' ?_
  let X:(Zj⊕((List Int)×Zj))->Prop:=fun oo=>((fun ov=>match ov with | .inl rv1=>Cq.ret rv1 | .inr (H,x)=>Zdj H:(Zj⊕((List Int)×Zj))->Cq Zj) oo).wp (fun a=>a=r)
  replace hr:(Cq.loop _ _).wp X:=hr
  refine al' (Φ:=X) (fun (⟨C,q,p,s,m,n,o,e,c,l⟩:(List Int)×Option Addr×Nat×(List Int)×Option Addr×Nat×Zj×Option Addr×Nat×Mem)=>((C,s,o):(List Int)×(List Int)×Zj)) (fun ⟨C,q,p,s,m,n,o,e,c,l⟩=>[(4,.pointer (some ⟨b4,0,none⟩)),(5,.slice q C.length p),(6,.slice m s.length n)]) (fun ⟨C,q,p,s,m,n,o,e,c,l⟩=>Mem.le Y l/\sl (Rp.int .u32) l q p C/\sl (Rp.int .u32) l m n s/\sl (Rp.int .u32) l e c o.mag) (fun ⟨C,q,p,s,m,n,o,e,c,l⟩=>St w0 G0 l [(4,some ⟨b4,.cells ((v128' o e c)).toArray 128 (0,0),0⟩)]) ⟨U,T,ab,aF,al,av,(Zj.mk false []),none,0,Y⟩ hr (f3 z z z) ⟨mr,(J.mono (mt ac ah)),aj,(V' _ _)⟩ (w1 z) ?_
  .intro a0 gx hx hr
   obtain⟨C,q,p,s,m,n,o,e,c,l⟩:=gx
   obtain⟨ad,aB,ar,R⟩:=hx
   refine n'<|sr<|mv z z<|yy (M' B' ar z) z<|yy (bh' z z) z<|nx<|L' hr z (fun aG hr=>?_) (fun aG hr=>?_)
   .exact (show False from hr).elim
   refine am'<|r'<|r'<|O'<|ao' ⟨C,q,p,o,e,c,l⟩ ⟨ad,aB,R,hr⟩ (f2 z z) (w1 z)
 rintro⟨H,A,I,x,j,g,t⟩ ⟨aI,aD,az,hr⟩
 refine g'<|sr<|mv z z ?_
 obtain⟨aY,au,hr⟩:=hr
 refine P' z z (t' E189 z) (fP' au) z (aD) (fun aL a2 aH Q=>?_)
 obtain⟨ay,ax,rfl,M⟩:=Q
 refine s' 4 z dk' z z z z z (List.all_eq_true.1 z)<|nx<|j' ?_
 obtain rfl:_=r:=hr
 exact k' z (ac' (i:=4) bt' z z z) ⟨_,_,z,M⟩
theorem eK'{g d e r}(hr:(Zd1 g).Ret r):Ctr prog 155 #[.agg ((v128' g d e)).toArray] (fun G=>sl (Rp.int .u32) G d e g.mag) (fun G v=>v = .bool r):=by
 refine E' (args:=[_]) (N:=19) func155 z z z (fun l m j h=>?_)
 have c:=h
 refine sr<|ad' 1 z z z fun n=>sg z z<|nr<|yy (aY' z) z<|yy (f' 1 bI' z z z) z<|yy (M' B' c z) z<|sg z z<|nx<|n'<|sr<|mv z z<|yy (at' z z) z<|nx<|L' hr z (fun i hr=>?_) (fun i hr=>?_)
 .exact (show False from hr).elim
 refine q'<|g'<|sr<|yy (aY' z) z<|yy (f' 1 bI' z z z) z<|mv z z<|yy (bi' z z) z ?_
 obtain⟨k,f,hr⟩:=hr
 refine yy (Q' B' bs' c z z f) z<|yy (Y' bR' z (aD' (ab' c f))) z<|yy (av' z z) z<|sg z z<|nx<|j' ?_
 obtain rfl:_=r:=hr
 exact k' z z z
theorem eP'{f c d r}(hr:(ZeJ f).Ret r):Ctr prog 156 #[.agg ((v128' f c d)).toArray] (fun G=>sl (Rp.int .u32) G c d f.mag) (fun G v=>v=i' r):=by
 refine E' (args:=[_]) (N:=9) func156 z z z (fun k l j g=>?_)
 have e:=g
 refine sr<|ad' 1 z z z fun m=>sg z z<|nx<|n'<|sr<|yy (aY' z) z<|yy (f' 1 bI' z z z) z<|yy (M' B' e z) z<|yy (at' z z) z<|nx<|L' hr z (fun h hr=>?_) (fun h hr=>?_)
 .exact (show False from hr).elim
 refine q'<|g'<|n'<|sr<|yy (br' z) z<|yy (f' 1 sc4 z z z) z<|nx<|aL' hr z (fun i hr=>?_) (fun i hr=>?_)
 .refine sr<|sg z z<|nx<|j'<|a' ?_
  obtain rfl:_=r:=hr
  exact k' z z z
 refine q'<|g'<|sr<|sg z z<|nx<|j' ?_
 obtain rfl:_=r:=hr
 exact k' z z z
theorem fQ'{g f e d c r}(hr:(ZbX g).Ret r):Ctr prog 106 #[.agg ((v130' g f e d c)).toArray] (fun G=>sl (Rp.int .u32) G f e g.num.mag/\sl (Rp.int .u32) G d c g.den.mag) (fun G v=>v = .bool r):=by
 refine E' (args:=[_]) (N:=30) func106 z z z (fun J p Q o=>?_)
 obtain⟨i,h⟩:=o
 refine sr<|ad' 1 z z z fun D=>sg z z<|nx<|aM' (fun (n:Mem)=>match n with|k=>[(1,.pointer (some ⟨D,0,none⟩))]) (fun (n:Mem)=>match n with|k=>Mem.le p k/\(Zd4 g).Ret r) (fun (n:Mem)=>match n with|k=>St J p k [(1,some ⟨D,.cells ((v130' g f e d c)).toArray 130 (0,0),0⟩)]) ?_ ?_
 .refine sr<|yy (cz' z) z<|yy (aH' ((v128' g.num f e)).toArray 1 bt' z z z (aT' ([]) ((v128' g.num f e)) ((v128' g.den d c)))) z ?_
  obtain⟨F,u,hr⟩:=hr
  refine D' z z (t' E155 z) (eK' u) z (i) ?_
  cases F
  .refine yy (aj' z) z<|mv z z<|sn4 z<|yy (h' z z) z<|mv z z<|sn4 z<|yy (h' z z) z<|nx<|R' z<|sr<|sg z z<|nx<|j'<|a' ?_
   obtain rfl:_=r:=hr
   exact k' z z z
  refine yy (aj' z) z<|mv z z<|gy z z (cg' z) z<|gy z z (aH' ((v128' g.den d c)).toArray 1 bt' z z z (aT' ((v128' g.num f e)) ((v128' g.den d c)) ([]))) z ?_
  obtain⟨E,t,hr⟩:=hr
  refine D' (v' z z) z (t' E155 z) (eK' t) z (h) ?_
  cases E
  .refine gy z z (aj' z) z<|yy (l' z z) z<|mv z z<|sn4 z<|yy (h' z z) z<|nx<|R' z<|sr<|sg z z<|nx<|j'<|a' ?_
   obtain rfl:_=r:=hr
   exact k' z z z
  refine gy z z (aj' z) z<|yy (l' z z) z<|mv z z<|gy z z (cg' z) z<|gy z z (aH' ((v128' g.den d c)).toArray 1 bt' z z z (aT' ((v128' g.num f e)) ((v128' g.den d c)) ([]))) z ?_
  obtain⟨M,x,hr⟩:=hr
  refine D' (v' z z) z (t' E156 z) (eP' x) z (h)<|gy z z (bK' z z) z<|yy (l' z z) z<|nx<|L' hr z (fun H hr=>?_) (fun H hr=>?_)
  .exact (show False from hr).elim
  refine q'<|ap' p ⟨mr,hr⟩ (f1 z) (w1 z)
 rintro k ⟨j,hr⟩
 refine sr<|yy (cg' z) z<|yy (aH' ((v128' g.den d c)).toArray 1 bt' z z z (aT' ((v128' g.num f e)) ((v128' g.den d c)) ([]))) z ?_
 obtain⟨C,s,hr⟩:=hr
 refine D' z z (t' E157 z) (eG' s) z ((h.mono j)) ?_
 cases C
 .refine mv z z<|gy z z (cz' z) z<|gy z z (aH' ((v128' g.num f e)).toArray 1 bt' z z z (aT' ([]) ((v128' g.num f e)) ((v128' g.den d c)))) z<|gy z z (cg' z) z<|gy z z (aH' ((v128' g.den d c)).toArray 1 bt' z z z (aT' ((v128' g.num f e)) ((v128' g.den d c)) ([]))) z ?_
  obtain⟨P,q,hr⟩:=hr
  refine P' (v' z z) z (t' E158 z) (gq' q) z (⟨(i.mono j),(h.mono j)⟩) (fun K O I m=>?_)
  obtain⟨A,B,rfl,l⟩:=m
  obtain⟨L,y,hr⟩:=hr
  refine D' (v' z z) z (t' E157 z) (eG' y) z (l)<|yy (l' z z) z<|sg z z<|nx<|j' ?_
  obtain rfl:_=r:=hr
  exact k' z z z
 refine mv z z<|sn6 z<|yy (h' z z) z<|sg z z<|nx<|j' ?_
 obtain rfl:_=r:=hr
 exact k' z z z
theorem eL'{h c d e f r}(hr:(Zbu h).Ret r):Ctr prog 107 #[.agg ((v130' h c d e f)).toArray] (fun G=>sl (Rp.int .u32) G c d h.num.mag/\sl (Rp.int .u32) G e f h.den.mag) (fun G v=>v=i' r):=by
 refine E' (args:=[_]) (N:=6) func107 z z z (fun n o m j=>?_)
 obtain⟨g,i⟩:=j
 refine sr<|ad' 1 z z z fun p=>sg z z<|nr<|yy (cz' z) z<|yy (aH' ((v128' h.num c d)).toArray 1 bt' z z z (aT' ([]) ((v128' h.num c d)) ((v128' h.den e f)))) z ?_
 obtain⟨l,k,hr⟩:=hr
 refine D' z z (t' E156 z) (eP' k) z (g)<|sg z z<|nx<|j' ?_
 obtain rfl:_=r:=hr
 exact k' z z z
theorem fR'{k r}(hr:(Zdk k).Ret r):Ctr prog 108 #[.agg (vecG (Value.int .i64) 8 k).toArray] (fun G=>True) (fun G v=>v = .bool r):=by
 refine E' (args:=[_]) (N:=16) func108 z z z fun l h y q=>sr<|ad' 1 z z z fun A=>sg z z<|nx<|n'<|sr<|yy (o' 1 bP' z z (Z' _ _ _)) z<|mv z z<|nx<|ak' (fun (f:Mem)=>match f with|e=>[]) (fun (f:Mem)=>match f with|e=>Mem.le h e/\(Zb1).Ret r) (fun (f:Mem)=>match f with|e=>St l h e []) ?_ ?_
 .refine C' ?_
  let i:(Bool⊕Unit)->Prop:=fun s=>((fun t=>match t with | .inl rv1=>Cq.ret rv1 | .inr ()=>Zb1:(Bool⊕Unit)->Cq Bool) s).wp (fun a=>a=r)
  replace hr:(Cq.loop _ _).wp i:=hr
  refine al' (Φ:=i) (fun (⟨c,d⟩:Int×Mem)=>(c:Int)) (fun ⟨c,d⟩=>[(5,.agg (vecG (Value.int .i64) 8 k).toArray),(6,i' c)]) (fun ⟨c,d⟩=>Mem.le h d) (fun ⟨c,d⟩=>St l h d []) ⟨0,h⟩ hr (f2 z z) mr (wk ln) ?_
  .intro x f u hr
   obtain⟨c,d⟩:=f
   have g:=u
   refine sr<|yy (ag' z z) z<|nx<|n'<|L' hr z (fun o hr=>?_) (fun o hr=>?_)
   .refine q'<|g'<|n'<|C'<|sr ?_
    obtain⟨j,hr⟩:=hr
    refine yy (Y0.index aN' sc3 sz3 z z j (bj' _ _ _ j)) z<|sg z z<|nr<|mv z z<|aa' hr z (ag' z z) z (fun m hr=>?_) (fun m hr=>?_)
    .refine mv z z<|sn2 z<|yy (h' z z) z<|nx<|R' z<|sr<|sg z z<|nx<|j'<|m'<|a'<|a'<|m'<|ae'<|a' ?_
     obtain rfl:_=r:=hr
     exact k' z z z
    refine mv z z<|gy z z (e' z) z<|gy z z (bh' z z) z<|yy (l' z z) z<|nx<|L' hr z (fun n hr=>?_) (fun n hr=>?_)
    .exact (show False from hr).elim
    refine q'<|J'<|g'<|A'<|yy (W' z z) z<|mv z z<|u'<|X' ⟨i64.wrap (c+1),d⟩ hr g (f2 z z) (wk ln)
   refine am'<|r'<|r'<|O'<|ao' d ⟨g,hr⟩ fn (wk ln)
 rintro e ⟨p,hr⟩
 refine g'<|sr<|sg z z<|nx<|j' ?_
 obtain rfl:_=r:=hr
 exact k' z z z
theorem dL'{q s t r}(hr:(Zbn q).Ret r):Ctr prog 77 #[.slice s q.length t] (fun G=>sl I' G s t q) (fun G v=>v = .bool r):=by
 refine E' (args:=[_]) (N:=43) func77 z z z (fun F C af H=>?_)
 have y:=H
 refine sr<|sg z z<|nx<|n'<|sr<|mv z z<|yy (M' ai' y z) z<|mv z z<|nx<|ak' (fun (n:Mem)=>match n with|A=>[]) (fun (n:Mem)=>match n with|A=>Mem.le C A/\(ZbB).Ret r) (fun (n:Mem)=>match n with|A=>St F C A []) ?_ ?_
 .refine C' ?_
  let B:(Bool⊕Unit)->Prop:=fun Z=>((fun ov=>match ov with | .inl rv1=>Cq.ret rv1 | .inr ()=>ZbB:(Bool⊕Unit)->Cq Bool) Z).wp (fun a=>a=r)
  replace hr:(Cq.loop _ _).wp B:=hr
  refine al' (Φ:=B) (fun (⟨h,m⟩:Int×Mem)=>(h:Int)) (fun ⟨h,m⟩=>[(0,.slice s q.length t),(5,.slice s q.length t),(6,i' (q.length:Int)),(7,i' h)]) (fun ⟨h,m⟩=>Mem.le C m) (fun ⟨h,m⟩=>St F C m []) ⟨0,C⟩ hr (f4 z z z z) mr (wk ln) ?_
  .intro O n hx hr
   obtain⟨h,m⟩:=n
   have j:=hx
   refine sr<|yy (ag' z z) z<|nx<|n'<|L' hr z (fun V hr=>?_) (fun V hr=>?_)
   .refine q'<|g'<|n'<|C'<|sr<|mv z z ?_
    obtain⟨g,D,hr⟩:=hr
    refine yy (Q' ai' cd' (y.mono j) z z D) z ?_
    obtain⟨f,e,c,d,Q,l,k⟩:=dn' (H' (ab' y D) j)
    refine yy (aA' _ ag133 z z Q) z<|T' 4 z z133 z fun R=>sg z z<|s' 4 z cd' z z z z z (fun u M=>Rp.one I' (G:=m) (x:=g) (cs:=((v130' g.c f e c d):List Value)++(vecG (Value.int .i64) 8 g.m)) ⟨(v130' g.c f e c d),vecG (Value.int .i64) 8 g.m,z,⟨(v128' g.c.num f e),(v128' g.c.den c d),z,⟨[.bool g.c.num.neg],[.slice f g.c.num.mag.length e],z,z,⟨_,z,l⟩⟩,⟨[.bool g.c.den.neg],[.slice c g.c.den.mag.length d],z,z,⟨_,z,k⟩⟩⟩,z⟩ u (by first|simpa using M|simpa [Value.cells] using M))<|nx<|aM' (fun (n:Mem)=>match n with|p=>[(0,.slice s q.length t),(3,i' h),(4,.pointer (some ⟨R,0,none⟩)),(5,.slice s q.length t),(6,i' (q.length:Int)),(7,i' h)]) (fun (n:Mem)=>match n with|p=>Mem.le m p/\(ZaO q h g).wp (Out O B)) (fun (n:Mem)=>match n with|p=>St F C p [(4,some ⟨R,.cells (((v130' g.c f e c d):List Value)++(vecG (Value.int .i64) 8 g.m)).toArray 133 (0,0),0⟩)]) ?_ ?_
    .refine sr<|yy (cM' z) z<|yy (aH' ((v130' g.c f e c d)).toArray 4 cN' z z z (aT' ([]) ((v130' g.c f e c d)) ((vecG (Value.int .i64) 8 g.m)))) z ?_
     obtain⟨U,I,hr⟩:=hr
     refine D' z z (t' E106 z) (fQ' I) z (⟨l,k⟩) ?_
     cases U
     .refine yy (aj' z) z<|mv z z<|sn4 z<|yy (h' z z) z<|mv z z<|sn4 z<|yy (h' z z) z<|nx<|R' z<|sr<|sg z z<|nx<|j'<|a'<|m'<|a'<|a'<|m'<|ae'<|a' ?_
      obtain rfl:_=r:=hr
      exact k' z z z
     refine yy (aj' z) z<|mv z z<|gy z z (cM' z) z<|gy z z (aH' ((v130' g.c f e c d)).toArray 4 cN' z z z (aT' ([]) ((v130' g.c f e c d)) ((vecG (Value.int .i64) 8 g.m)))) z ?_
     obtain⟨ac,L,hr⟩:=hr
     refine D' (v' z z) z (t' E107 z) (eL' L) z (⟨l,k⟩)<|aa' hr (v' z z) (at' z z) z (fun X hr=>?_) (fun X hr=>?_)
     .refine yy (l' z z) z<|mv z z<|sn4 z<|yy (h' z z) z<|nx<|R' z<|sr<|sg z z<|nx<|j'<|a'<|m'<|a'<|a'<|m'<|ae'<|a' ?_
      obtain rfl:_=r:=hr
      exact k' z z z
     refine yy (l' z z) z<|mv z z<|gy z z (bz' z) z<|gy z z (aH' (vecG (Value.int .i64) 8 g.m).toArray 4 bP' z z (Z' _ _ _) (aT' ((v130' g.c f e c d)) (vecG (Value.int .i64) 8 g.m) ([]))) z ?_
     obtain⟨ae,K,hr⟩:=hr
     refine D' (v' z z) z (t' E108 z) (fR' K) z (trivial)<|gy z z (aj' z) z<|yy (l' z z) z<|nx<|aL' hr z (fun W hr=>?_) (fun W hr=>?_)
     .exact (show False from hr).elim
     refine q'<|ap' m ⟨mr,hr⟩ (f6 z z z z z z) (w1 z)
    rintro p ⟨o,hr⟩
    refine n'<|ah' [ff,ff,ff,ff,ff,ff,ff,ff,ff,ff,ff] mix (by kernel_rfl) fun S=>cn (fun _ i=>e' z)<|by' hr z (fun _ i=>bh' z z) (fun P hr=>?_) (fun P hr=>?_)
    .refine cn (fun _ i=>e' z)<|cy z z (fun _ i=>e' z)<|cy z z (fun _ i=>e' z)<|cy z z (fun _ i=>bi' z z) ?_
     obtain⟨x2,E,hr⟩:=hr
     refine cy z z (fun _ i=>Q' ai' cd' ((y.mono (mt j o)).mono i) z z E)<|cy z z (fun _ i=>bz' z)<|cy z z (fun _ i=>aA' _ bP' z (Z' _ _ _) (du' (H' (H' (ay' (ax' (ab' y E))) (mt j o)) i)))<|cy z z (fun _ i=>bz' z)<|cy z z (fun _ i=>aH' (vecG (Value.int .i64) 8 g.m).toArray 4 bP' z z (Z' _ _ _) (aT' ((v130' g.c f e c d)) (vecG (Value.int .i64) 8 g.m) ([])))<|U' S ?_
     obtain⟨ad,J,hr⟩:=hr
     refine D' (v' z z) z (t' E109 z) (eO' J) z (trivial)<|gy z z (bK' z z) z<|yy (h' z z) z<|u'<|aq'<|g'<|L' hr z (fun T hr=>?_) (fun T hr=>?_)
     .exact (show False from hr).elim
     refine q'<|J'<|g'<|A'<|yy (W' z z) z<|mv z z<|u'<|X' ⟨i64.wrap (h+1),p⟩ hr (mt j o) (f4 z z z z) (wk ln)
    refine cn (fun _ i=>e' z)<|ct z z<|ct z z<|ct z z<|ct z z<|ct z z<|ct z z<|ct z z<|ct z z<|U' S<|sn2 z<|yy (l' z z) z<|u'<|aq'<|g'<|bb' z<|q'<|J'<|g'<|A'<|yy (W' z z) z<|mv z z<|u'<|X' ⟨i64.wrap (h+1),p⟩ hr (mt j o) (f4 z z z z) (wk ln)
   refine am'<|r'<|r'<|O'<|ao' m ⟨j,hr⟩ fn (wk ln)
 rintro A ⟨Y,hr⟩
 refine g'<|sr<|sg z z<|nx<|j' ?_
 obtain rfl:_=r:=hr
 exact k' z z z
theorem fn'{l r}(hr:(Zch l).Ret r):Ctr prog 110 #[.agg (vecG (Value.int .i64) 8 l).toArray] (fun G=>True) (fun G v=>v = .int .u8 r):=by
 refine E' (args:=[_]) (N:=19) func110 z z z fun m i B s=>sr<|ad' 1 z z z fun C=>sg z z<|nr<|sg z z<|nx<|n'<|sr<|yy (o' 1 bP' z z (Z' _ _ _)) z<|mv z z<|nx<|ak' (fun (⟨h,g⟩:Int×Mem)=>[(3,.int .u8 h)]) (fun ⟨h,g⟩=>Mem.le i g/\(ZbA h).Ret r) (fun ⟨h,g⟩=>St m i g []) ?_ ?_
 .refine C' ?_
  let j:Int->Prop:=fun u=>((fun x=>match x with|h=>ZbA h:Int->Cq Int) u).wp (fun a=>a=r)
  replace hr:(Cq.loop _ _).wp j:=hr
  refine al' (Φ:=j) (fun (⟨f,c,d⟩:Int×Int×Mem)=>((f,c):Int×Int)) (fun ⟨f,c,d⟩=>[(3,.int .u8 f),(6,.agg (vecG (Value.int .i64) 8 l).toArray),(7,i' c)]) (fun ⟨f,c,d⟩=>Mem.le i d) (fun ⟨f,c,d⟩=>St m i d []) ⟨0,0,i⟩ hr (f3 z z z) mr (wk ln) ?_
  .intro A t y hr
   obtain⟨f,c,d⟩:=t
   have e:=y
   refine sr<|yy (ag' z z) z<|nx<|n'<|L' hr z (fun p hr=>?_) (fun p hr=>?_)
   .refine q'<|g'<|n'<|C'<|sr<|mv z z ?_
    obtain⟨k,hr⟩:=hr
    refine yy (Y0.index aN' sc3 sz3 z z k (bj' _ _ _ k)) z<|sg z z<|sg z z<|nr<|mv z z<|yy (bh' z z) z<|nx<|L' hr z (fun n hr=>?_) (fun n hr=>?_)
    .refine A'<|mv z z<|mv z z ?_
     obtain⟨o,hr⟩:=hr
     refine yy (Y0.shl z z o) z<|yy (Y0.or z z) z<|sg z z<|u'<|J'<|g'<|A'<|yy (W' z z) z<|mv z z<|u'<|X' ⟨u8.wrap (BitVec.ofInt u8.bits f ||| BitVec.ofInt u8.bits (u8.wrap (1*2 ^ (min (c).toNat u8.bits)))).toNat,i64.wrap (c+1),d⟩ hr e (f3 z z z) (wk ln)
    refine q'<|J'<|g'<|A'<|yy (W' z z) z<|mv z z<|u'<|X' ⟨f,i64.wrap (c+1),d⟩ hr e (f3 z z z) (wk ln)
   refine am'<|r'<|r'<|O'<|ao' ⟨f,d⟩ ⟨e,hr⟩ (f1 z) (wk ln)
 rintro⟨h,g⟩ ⟨q,hr⟩
 refine g'<|sr<|mv z z<|sg z z<|nx<|j' ?_
 obtain rfl:_=r:=hr
 exact k' z z z
theorem cW'{q s y r}(hr:(ZaX q).Ret r):Ctr prog 78 #[.slice s q.length y] (fun G=>sl I' G s y q) (fun G v=>v = .int .u8 r):=by
 refine E' (args:=[_]) (N:=19) func78 z z z (fun E p R C=>?_)
 have t:=C
 refine sr<|sg z z<|nr<|sg z z<|nx<|n'<|sr<|mv z z<|yy (M' ai' t z) z<|mv z z<|nx<|ak' (fun (⟨o,n⟩:Int×Mem)=>[(3,.int .u8 o)]) (fun ⟨o,n⟩=>Mem.le p n/\(ZbO o).Ret r) (fun ⟨o,n⟩=>St E p n []) ?_ ?_
 .refine C' ?_
  let A:Int->Prop:=fun M=>((fun O=>match O with|o=>ZbO o:Int->Cq Int) M).wp (fun a=>a=r)
  replace hr:(Cq.loop _ _).wp A:=hr
  refine al' (Φ:=A) (fun (⟨m,g,i⟩:Int×Int×Mem)=>((m,g):Int×Int)) (fun ⟨m,g,i⟩=>[(3,.int .u8 m),(6,.slice s q.length y),(7,i' (q.length:Int)),(8,i' g)]) (fun ⟨m,g,i⟩=>Mem.le p i) (fun ⟨m,g,i⟩=>St E p i []) ⟨0,0,p⟩ hr (f4 z z z z) mr (wk ln) ?_
  .intro Q L P hr
   obtain⟨m,g,i⟩:=L
   have j:=P
   refine sr<|yy (ag' z z) z<|nx<|n'<|L' hr z (fun J hr=>?_) (fun J hr=>?_)
   .refine q'<|g'<|n'<|C'<|sr ?_
    obtain⟨h,B,hr⟩:=hr
    refine yy (Q' ai' cd' (t.mono j) z z B) z ?_
    obtain⟨f,e,c,d,I,l,k⟩:=dn' (H' (ab' t B) j)
    refine yy (aA' _ ag133 z z I) z<|T' 5 z z133 z fun S=>s' 5 z cd' z z z z z (fun u F=>Rp.one I' (G:=i) (x:=h) (cs:=((v130' h.c f e c d):List Value)++(vecG (Value.int .i64) 8 h.m)) ⟨(v130' h.c f e c d),vecG (Value.int .i64) 8 h.m,z,⟨(v128' h.c.num f e),(v128' h.c.den c d),z,⟨[.bool h.c.num.neg],[.slice f h.c.num.mag.length e],z,z,⟨_,z,l⟩⟩,⟨[.bool h.c.den.neg],[.slice c h.c.den.mag.length d],z,z,⟨_,z,k⟩⟩⟩,z⟩ u (by first|simpa using F|simpa [Value.cells] using F))<|nx<|A'<|mv z z<|yy (bz' z) z<|yy (aH' (vecG (Value.int .i64) 8 h.m).toArray 5 bP' z z (Z' _ _ _) (aT' ((v130' h.c f e c d)) (vecG (Value.int .i64) 8 h.m) ([]))) z ?_
    obtain⟨H,D,hr⟩:=hr
    refine D' z z (t' E110 z) (fn' D) z (trivial)<|yy (Y0.or z z) z<|sg z z<|u'<|J'<|g'<|A'<|yy (W' z z) z<|mv z z<|u'<|X' ⟨u8.wrap (BitVec.ofInt u8.bits m ||| BitVec.ofInt u8.bits H).toNat,i64.wrap (g+1),i⟩ hr j (f4 z z z z) (wk ln)
   refine am'<|r'<|r'<|O'<|ao' ⟨m,i⟩ ⟨j,hr⟩ (f1 z) (wk ln)
 rintro⟨o,n⟩ ⟨K,hr⟩
 refine g'<|sr<|mv z z<|sg z z<|nx<|j' ?_
 obtain rfl:_=r:=hr
 exact k' z z z
theorem fy'{k r}(hr:(ZcX k).Ret r):Ctr prog 111 #[.agg (vecG (Value.int .i64) 8 k).toArray] (fun G=>True) (fun G v=>v=i' r):=by
 refine E' (args:=[_]) (N:=15) func111 z z z fun m i y p=>sr<|ad' 1 z z z fun A=>sg z z<|nr<|sg z z<|nx<|n'<|sr<|yy (o' 1 bP' z z (Z' _ _ _)) z<|mv z z<|nx<|ak' (fun (⟨g,f⟩:Int×Mem)=>[(3,i' g)]) (fun ⟨g,f⟩=>Mem.le i f/\(ZbM g).Ret r) (fun ⟨g,f⟩=>St m i f []) ?_ ?_
 .refine C' ?_
  let j:Int->Prop:=fun s=>((fun t=>match t with|g=>ZbM g:Int->Cq Int) s).wp (fun a=>a=r)
  replace hr:(Cq.loop _ _).wp j:=hr
  refine al' (Φ:=j) (fun (⟨e,c,d⟩:Int×Int×Mem)=>((e,c):Int×Int)) (fun ⟨e,c,d⟩=>[(3,i' e),(6,.agg (vecG (Value.int .i64) 8 k).toArray),(7,i' c)]) (fun ⟨e,c,d⟩=>Mem.le i d) (fun ⟨e,c,d⟩=>St m i d []) ⟨0,0,i⟩ hr (f3 z z z) mr (wk ln) ?_
  .intro x q u hr
   obtain⟨e,c,d⟩:=q
   have h:=u
   refine sr<|yy (ag' z z) z<|nx<|n'<|L' hr z (fun n hr=>?_) (fun n hr=>?_)
   .refine q'<|g'<|n'<|C'<|sr ?_
    obtain⟨l,hr⟩:=hr
    refine yy (Y0.index aN' sc3 sz3 z z l (bj' _ _ _ l)) z<|sg z z<|nx<|A'<|mv z z<|mv z z<|yy (W' z z) z<|sg z z<|u'<|J'<|g'<|A'<|yy (W' z z) z<|mv z z<|u'<|X' ⟨i64.wrap (e+(getF k c)),i64.wrap (c+1),d⟩ hr h (f3 z z z) (wk ln)
   refine am'<|r'<|r'<|O'<|ao' ⟨e,d⟩ ⟨h,hr⟩ (f1 z) (wk ln)
 rintro⟨g,f⟩ ⟨o,hr⟩
 refine g'<|sr<|mv z z<|sg z z<|nx<|j' ?_
 obtain rfl:_=r:=hr
 exact k' z z z
theorem dI'{q s y r}(hr:(Za4 q).Ret r):Ctr prog 79 #[.slice s q.length y] (fun G=>sl I' G s y q) (fun G v=>v=i' r):=by
 refine E' (args:=[_]) (N:=19) func79 z z z (fun F p R D=>?_)
 have t:=D
 refine sr<|sg z z<|nr<|sg z z<|nx<|n'<|sr<|mv z z<|yy (M' ai' t z) z<|mv z z<|nx<|ak' (fun (⟨o,n⟩:Int×Mem)=>[(3,i' o)]) (fun ⟨o,n⟩=>Mem.le p n/\(Zbm o).Ret r) (fun ⟨o,n⟩=>St F p n []) ?_ ?_
 .refine C' ?_
  let A:Int->Prop:=fun M=>((fun O=>match O with|o=>Zbm o:Int->Cq Int) M).wp (fun a=>a=r)
  replace hr:(Cq.loop _ _).wp A:=hr
  refine al' (Φ:=A) (fun (⟨m,g,i⟩:Int×Int×Mem)=>((m,g):Int×Int)) (fun ⟨m,g,i⟩=>[(3,i' m),(6,.slice s q.length y),(7,i' (q.length:Int)),(8,i' g)]) (fun ⟨m,g,i⟩=>Mem.le p i) (fun ⟨m,g,i⟩=>St F p i []) ⟨(-1),0,p⟩ hr (f4 z z z z) mr (wk ln) ?_
  .intro Q L P hr
   obtain⟨m,g,i⟩:=L
   have j:=P
   refine sr<|yy (ag' z z) z<|nx<|n'<|L' hr z (fun J hr=>?_) (fun J hr=>?_)
   .refine q'<|g'<|n'<|C'<|sr ?_
    obtain⟨h,B,hr⟩:=hr
    refine yy (Q' ai' cd' (t.mono j) z z B) z ?_
    obtain⟨f,e,c,d,I,l,k⟩:=dn' (H' (ab' t B) j)
    refine yy (aA' _ ag133 z z I) z<|T' 5 z z133 z fun S=>s' 5 z cd' z z z z z (fun u H=>Rp.one I' (G:=i) (x:=h) (cs:=((v130' h.c f e c d):List Value)++(vecG (Value.int .i64) 8 h.m)) ⟨(v130' h.c f e c d),vecG (Value.int .i64) 8 h.m,z,⟨(v128' h.c.num f e),(v128' h.c.den c d),z,⟨[.bool h.c.num.neg],[.slice f h.c.num.mag.length e],z,z,⟨_,z,l⟩⟩,⟨[.bool h.c.den.neg],[.slice c h.c.den.mag.length d],z,z,⟨_,z,k⟩⟩⟩,z⟩ u (by first|simpa using H|simpa [Value.cells] using H))<|nx<|A'<|mv z z<|yy (bz' z) z<|yy (aH' (vecG (Value.int .i64) 8 h.m).toArray 5 bP' z z (Z' _ _ _) (aT' ((v130' h.c f e c d)) (vecG (Value.int .i64) 8 h.m) ([]))) z ?_
    obtain⟨C,E,hr⟩:=hr
    refine D' z z (t' E111 z) (fy' E) z (trivial)<|yy (en' z z) z<|sg z z<|u'<|J'<|g'<|A'<|yy (W' z z) z<|mv z z<|u'<|X' ⟨if m<C then C else m,i64.wrap (g+1),i⟩ hr j (f4 z z z z) (wk ln)
   refine am'<|r'<|r'<|O'<|ao' ⟨m,i⟩ ⟨j,hr⟩ (f1 z) (wk ln)
 rintro⟨o,n⟩ ⟨K,hr⟩
 refine g'<|sr<|mv z z<|sg z z<|nx<|j' ?_
 obtain rfl:_=r:=hr
 exact k' z z z
theorem gr'{i m d e r}(hr:(ZfO i m).Ret r):Ctr prog 60 #[.slice d i.length e,i' m] (fun G=>sl I' G d e i) (fun G v=>v = .bool r):=by
 refine E' (args:=[_,_]) (N:=20) func60 z z z (fun s t q f=>?_)
 have c:=f
 refine sr<|sg z z<|nr<|mv z z ?_
 obtain⟨k,h,hr⟩:=hr
 refine D' z z (t' E77 z) (dL' h) z (c) ?_
 cases k
 .refine mv z z<|sn6 z<|yy (l' z z) z<|mv z z<|sn3 z<|yy (l' z z) z<|sg z z<|nx<|j' ?_
  obtain rfl:_=r:=hr
  exact k' z z z
 refine mv z z<|gy z z (e' z) z ?_
 obtain⟨p,g,hr⟩:=hr
 refine D' (v' z z) z (t' E78 z) (cW' g) z (c)<|gy z z (aO' aS' aE' z) z<|gy z z (e' z) z ?_
 obtain⟨n,hr⟩:=hr
 refine gy z z (Y0.shr z z n) z<|aa' hr (v' z z) (at' z z) z (fun l hr=>?_) (fun l hr=>?_)
 .refine yy (h' z z) z<|mv z z<|gy z z (e' z) z ?_
  obtain⟨o,j,hr⟩:=hr
  refine D' (v' z z) z (t' E79 z) (dI' j) z (c)<|gy z z (bK' z z) z<|yy (h' z z) z<|sg z z<|nx<|j' ?_
  obtain rfl:_=r:=hr
  exact k' z z z
 refine yy (h' z z) z<|mv z z<|sn3 z<|yy (l' z z) z<|sg z z<|nx<|j' ?_
 obtain rfl:_=r:=hr
 exact k' z z z
theorem fV'{d r}(hr:(Zca d).Ret r):Ctr prog 76 #[.int .i32 d] (fun G=>True) (fun G v=>v = .bool r):=by
 refine E' (args:=[_]) (N:=13) func76 z z z fun h i g f=>sr<|sg z z<|nr<|mv z z<|aa' hr z (bK' z z) z (fun c hr=>?_) (fun c hr=>?_)
 .refine mv z z<|gy z z (e' z) z<|aa' hr (v' z z) (bK' z z) z (fun e hr=>?_) (fun e hr=>?_)
  .refine yy (h' z z) z<|mv z z<|sn2 z<|yy (h' z z) z<|sg z z<|nx<|j' ?_
   obtain rfl:_=r:=hr
   exact k' z z z
  refine yy (h' z z) z<|mv z z<|gy z z (e' z) z<|gy z z (at' z z) z<|yy (l' z z) z<|sg z z<|nx<|j' ?_
  obtain rfl:_=r:=hr
  exact k' z z z
 refine mv z z<|sn2 z<|yy (l' z z) z<|mv z z<|gy z z (e' z) z<|gy z z (at' z z) z<|yy (l' z z) z<|sg z z<|nx<|j' ?_
 obtain rfl:_=r:=hr
 exact k' z z z
theorem fW'{g r}(hr:(Zb9 g).Ret r):Ctr prog 59 #[.string g] (fun G=>True) (fun G v=>v = .bool r):=by
 refine E' (args:=[_]) (N:=45) func59 z z z fun q o P J=>sr<|sg z z<|nx<|aM' (fun (f:Mem)=>match f with|h=>[(0,.string g)]) (fun (f:Mem)=>match f with|h=>Mem.le o h/\(ZeT g).Ret r) (fun (f:Mem)=>match f with|h=>St q o h []) ?_ ?_
 .refine sr<|mv z z<|yy (Y0.lenS bl' z) z<|aa' hr z (ag' z z) z (fun E hr=>?_) (fun E hr=>?_)
  .refine mv z z<|sn3 z<|yy (h' z z) z<|nx<|R' z<|sr<|sg z z<|nx<|j'<|a' ?_
   obtain rfl:_=r:=hr
   exact k' z z z
  refine mv z z<|gy z z (e' z) z<|gy z z (Y0.lenS bl' z) z<|gy z z (bh' z z) z<|yy (l' z z) z<|nx<|L' hr z (fun C hr=>?_) (fun C hr=>?_)
  .refine sr<|sg z z<|nx<|j'<|a' ?_
   obtain rfl:_=r:=hr
   exact k' z z z
  refine q'<|ap' o ⟨mr,hr⟩ (f1 z) (wk ln)
 rintro h ⟨H,hr⟩
 refine n'<|sr<|mv z z<|WL.rangeS 4015 z z bl' z fun n=>nx<|ak' (fun (f:Mem)=>match f with|k=>[]) (fun (f:Mem)=>match f with|k=>Mem.le h k/\(ZaN).Ret r) (fun (f:Mem)=>match f with|k=>St q o k []) ?_ ?_
 .refine C' ?_
  let l:(Bool⊕Unit)->Prop:=fun K=>((fun L=>match L with | .inl rv1=>Cq.ret rv1 | .inr ()=>ZaN:(Bool⊕Unit)->Cq Bool) K).wp (fun a=>a=r)
  replace hr:(Cq.loop _ _).wp l:=hr
  refine al' (Φ:=l) (fun (⟨c,e⟩:Nat×Mem)=>(c:Nat)) (fun ⟨c,e⟩=>[(15,.pointer (some ⟨n,0,none⟩))]) (fun ⟨c,e⟩=>Mem.le h e) (fun ⟨c,e⟩=>St q o e [(4015,(some ⟨n,.stringIter g c,0⟩))]) ⟨0,h⟩ hr (f1 z) mr (w1 z) ?_
  .intro y f M hr
   obtain⟨c,e⟩:=f
   have j:=M
   refine sr<|WL.nextS 4015 z z z z (fun p=>?_) (fun p=>?_)
   .replace hr:=hr.pos p
    refine yy (y' z z) z<|nx<|n'<|R' z<|q'<|g'<|C'<|sr<|yy (y' z z) z<|yy (y' z z) z<|sg z z<|sg z z<|nx<|aM' (fun (⟨d,i⟩:Bool×Mem)=>[(3,i' (c:Int)),(4,.int .i32 ((Utf8.decode g c).1:Int)),(5,.bool d),(15,.pointer (some ⟨n,0,none⟩))]) (fun ⟨d,i⟩=>Mem.le e i/\(ZQ g c d).wp (Out y l)) (fun ⟨d,i⟩=>St q o i [(4015,(some ⟨n,.stringIter g (c+(Utf8.decode g c).2),0⟩))]) ?_ ?_
    .refine A'<|mv z z<|aa' hr z (bK' z z) z (fun F hr=>?_) (fun F hr=>?_)
     .refine mv z z<|gy z z (e' z) z<|aa' hr (v' z z) (bK' z z) z (fun u hr=>?_) (fun u hr=>?_)
      .refine yy (h' z z) z<|mv z z<|sn3 z<|N' (x' z z) z<|N' (x' z z) z<|sf z z z<|yy (h' z z) z<|sg z z<|u'<|ap' ⟨true,e⟩ ⟨mr,hr⟩ (f4 z z z z) (w1 z)
      refine yy (h' z z) z<|mv z z<|gy z z (e' z) z<|aa' hr (v' z z) (bK' z z) z (fun t hr=>?_) (fun t hr=>?_)
      .refine gy z z (e' z) z<|gy z z (e' z) z<|gy z z (bK' z z) z<|gy z z (h' z z) z<|yy (l' z z) z<|sg z z<|u'<|ap' ⟨decide (((Utf8.decode g c).1:Int)<=122),e⟩ ⟨mr,hr⟩ (f4 z z z z) (w1 z)
      refine gy z z (e' z) z<|sn2 z<|gy z z (l' z z) z<|yy (l' z z) z<|sg z z<|u'<|ap' ⟨false,e⟩ ⟨mr,hr⟩ (f4 z z z z) (w1 z)
     refine mv z z<|sn2 z<|yy (l' z z) z<|mv z z<|gy z z (e' z) z<|aa' hr (v' z z) (bK' z z) z (fun x hr=>?_) (fun x hr=>?_)
     .refine gy z z (e' z) z<|gy z z (e' z) z<|gy z z (bK' z z) z<|gy z z (h' z z) z<|yy (l' z z) z<|sg z z<|u'<|ap' ⟨decide (((Utf8.decode g c).1:Int)<=122),e⟩ ⟨mr,hr⟩ (f4 z z z z) (w1 z)
     refine gy z z (e' z) z<|sn2 z<|gy z z (l' z z) z<|yy (l' z z) z<|sg z z<|u'<|ap' ⟨false,e⟩ ⟨mr,hr⟩ (f4 z z z z) (w1 z)
    rintro⟨d,i⟩ ⟨m,hr⟩
    refine sr<|aa' hr z (cZ' (e' z) (congrArg Value.bool (bdec _))) z (fun A hr=>?_) (fun A hr=>?_)
    .refine yy (aj' z) z<|mv z z<|sn3 z<|N' (x' z z) z<|N' (x' z z) z<|N' (x' z z) z<|sk z z z<|yy (l' z z) z<|nx<|bb' z<|q'<|J'<|X' ⟨(c+(Utf8.decode g c).2),i⟩ hr (mt j m) (f1 z) (w1 z)
    refine yy (aj' z) z<|mv z z<|gy z z (e' z) z<|aa' hr (v' z z) (at' z z) z (fun B hr=>?_) (fun B hr=>?_)
    .refine gy z z (e' z) z<|sn3 z<|gy z z (h' z z) z<|yy (h' z z) z<|nx<|R' z<|sr<|sg z z<|nx<|j'<|m'<|a'<|m'<|ae'<|a' ?_
     obtain rfl:_=r:=hr
     exact k' z z z
    refine gy z z (e' z) z<|gy z z (e' z) z ?_
    obtain⟨O,s,hr⟩:=hr
    refine D' (v' z z) z (t' E76 z) (fV' s) z (trivial)<|gy z z (aj' z) z<|gy z z (l' z z) z<|yy (h' z z) z<|nx<|aL' hr z (fun D hr=>?_) (fun D hr=>?_)
    .refine sr<|sg z z<|nx<|j'<|m'<|a'<|m'<|ae'<|a' ?_
     obtain rfl:_=r:=hr
     exact k' z z z
    refine q'<|J'<|X' ⟨(c+(Utf8.decode g c).2),i⟩ hr (mt j m) (f1 z) (w1 z)
   replace hr:=hr.neg p
   refine yy (y' z z) z<|nx<|n'<|bb' z<|am'<|r'<|r'<|O'<|ao' e ⟨j,hr⟩ fn (wk ln)
 rintro k ⟨I,hr⟩
 refine g'<|sr<|sg z z<|nx<|j' ?_
 obtain rfl:_=r:=hr
 exact k' z z z
theorem eo'{c l m i j g f r}(hr:(Zbb c).Ret r):Ctr prog 44 #[.agg ((v31' c l m i j g f)).toArray] (fun G=>sl Rp.str G l m c.vars/\sl b' G i j c.eqs/\sl b' G g f c.neqs) (fun G v=>v = .bool r):=by
 refine E' (args:=[_]) (N:=108) func44 z z z (fun Z T aU aG=>?_)
 obtain⟨p,ab,Y⟩:=aG
 refine sr<|ad' 1 z z z fun I=>sg z z<|nx<|aM' (fun (o:Mem)=>match o with|J=>[(1,.pointer (some ⟨I,0,none⟩))]) (fun (o:Mem)=>match o with|J=>Mem.le T J/\(Zfg c).Ret r) (fun (o:Mem)=>match o with|J=>St Z T J [(1,some ⟨I,.cells ((v31' c l m i j g f)).toArray 31 (0,0),0⟩)]) ?_ ?_
 .refine sr<|yy (aF' z) z<|yy (f' 1 bA' z z z) z<|yy (M' F' p z) z<|aa' hr z (bh' z z) z (fun a8 hr=>?_) (fun a8 hr=>?_)
  .refine mv z z<|sn3 z<|yy (h' z z) z<|mv z z<|sn3 z<|yy (h' z z) z<|nx<|R' z<|sr<|sg z z<|nx<|j'<|a' ?_
   obtain rfl:_=r:=hr
   exact k' z z z
  refine mv z z<|gy z z (bw' z) z<|gy z z (f' 1 sc3 z z z) z<|aa' hr (v' z z) (ag' z z) z (fun ba hr=>?_) (fun ba hr=>?_)
  .refine yy (l' z z) z<|mv z z<|sn3 z<|yy (h' z z) z<|nx<|R' z<|sr<|sg z z<|nx<|j'<|a' ?_
   obtain rfl:_=r:=hr
   exact k' z z z
  refine yy (l' z z) z<|mv z z<|gy z z (bw' z) z<|gy z z (f' 1 sc3 z z z) z<|gy z z (bh' z z) z<|yy (l' z z) z<|nx<|L' hr z (fun aT hr=>?_) (fun aT hr=>?_)
  .refine sr<|sg z z<|nx<|j'<|a' ?_
   obtain rfl:_=r:=hr
   exact k' z z z
  refine q'<|ap' T ⟨mr,hr⟩ (f1 z) (w1 z)
 rintro J ⟨D,hr⟩
 refine sr<|WL.makeMap (ky:=ky9) (Rv:=RvS Rp.bool J) 4025 z z fun aC ar aJ=>sg z z<|nx<|n'<|sr<|yy (aF' z) z<|yy (f' 1 bA' z z z) z<|yy (M' F' (p.mono D) z) z<|mv z z<|nx<|ak' (fun (o:Mem)=>match o with|U=>[(1,.pointer (some ⟨I,0,none⟩))]) (fun (o:Mem)=>match o with|U=>Mem.le J U/\(ZbE c).Ret r) (fun (o:Mem)=>match o with|U=>St Z T U [(1,some ⟨I,.cells ((v31' c l m i j g f)).toArray 31 (0,0),0⟩)]) ?_ ?_
 .refine C' ?_
  let ap:(Bool⊕Unit)->Prop:=fun oo=>((fun ov=>match ov with | .inl rv3=>Cq.ret rv3 | .inr ()=>ZbE c:(Bool⊕Unit)->Cq Bool) oo).wp (fun a=>a=r)
  replace hr:(Cq.loop _ _).wp ap:=hr
  refine al' (Φ:=ap) (fun (⟨x,O,B,E⟩:Int×(List (ByteArray×Bool))×Option Ow×Mem)=>((x,O):Int×(List (ByteArray×Bool)))) (fun ⟨x,O,B,E⟩=>[(1,.pointer (some ⟨I,0,none⟩)),(27,.slice l c.vars.length m),(28,i' (c.vars.length:Int)),(29,i' x),(3,.map (some aC))]) (fun ⟨x,O,B,E⟩=>Mem.le J E/\MapR ky9 (RvS Rp.bool E) (.map (some aC)) O B) (fun ⟨x,O,B,E⟩=>St Z T E [(1,some ⟨I,.cells ((v31' c l m i j g f)).toArray 31 (0,0),0⟩),(4025,B)]) ⟨0,[],ar,J⟩ hr (f5 z z z z z) ⟨mr,aJ⟩ (w2 z z) ?_
  .intro bj o hx hr
   obtain⟨x,O,B,E⟩:=o
   obtain⟨L,aj⟩:=hx
   refine sr<|yy (ag' z z) z<|nx<|n'<|L' hr z (fun a5 hr=>?_) (fun a5 hr=>?_)
   .refine q'<|g'<|n'<|C'<|sr ?_
    obtain⟨x4,az,hr⟩:=hr
    refine yy (Q' F' sz9 (p.mono (mt D L)) z z az) z<|yy (Y' sc9 z (bZ' (H' (ab' p az) (mt D L)))) z<|sg z z<|nx<|n'<|sr<|mv z z ?_
    obtain⟨aZ,aD,hr⟩:=hr
    refine D' z z (t' E59 z) (fW' aD) z (trivial) ?_
    cases aZ
    .refine yy (aj' z) z<|mv z z<|sn3 z<|yy (h' z z) z<|nx<|R' z<|sr<|sg z z<|nx<|j'<|a'<|m'<|a'<|a'<|m'<|ae'<|a' ?_
     obtain rfl:_=r:=hr
     exact k' z z z
    refine yy (aj' z) z<|mv z z<|gy z z (e' z) z<|gy z z (e' z) z ?_
    obtain⟨be,hr⟩:=hr
    refine gy z z (Y0.mapGet1 (mk:=Value.bool) (k:=x4) 4025 false (fun h=>Zlv h) underlying115 zv4 aj z z z be) z<|yy (l' z z) z<|nx<|aL' hr z (fun a9 hr=>?_) (fun a9 hr=>?_)
    .refine sr<|sg z z<|nx<|j'<|a'<|m'<|a'<|a'<|m'<|ae'<|a' ?_
     obtain rfl:_=r:=hr
     exact k' z z z
    refine q'<|g'<|A'<|mv z z<|mv z z ?_
    obtain⟨⟨a2,aL⟩,hr⟩:=hr
    refine WL.mapPut (Rv':=RvS Rp.bool E) (k:=x4) (z:=true) 4025 z underlying115 aj z z z z a2 z (fun _ _ _ _ h=>h) aL fun bf aP=>u'<|J'<|g'<|A'<|yy (W' z z) z<|mv z z<|u'<|X' ⟨i64.wrap (x+1),(mput O x4 true),bf,E⟩ hr ⟨L,aP⟩ (f5 z z z z z) (w2 z z)
   refine am'<|r'<|r'<|O'<|ao' E ⟨L,hr⟩ (f1 z) (w1 z)
 rintro U ⟨W,hr⟩
 refine g'<|sr<|WL.makeMap (ky:=ky3) (Rv:=RvS Rp.bool U) 4044 z z fun R aq aR=>sg z z<|nx<|n'<|sr<|yy (aX' z) z<|yy (f' 1 bq' z z z) z<|yy (aZ' z) z<|yy (f' 1 bq' z z z) z<|bd' (e:=29) (r:=(Rp.sl b')) (vs:=#[(0,.slice i c.eqs.length j),(1,.slice g c.neqs.length f)]) (cs:=[.slice i c.eqs.length j]++([.slice g c.neqs.length f]++([]))) ([c.eqs,c.neqs]:List (List Zb)) z z z z z (by decide) (fun _=>by kernel_rfl) ⟨[.slice i c.eqs.length j],[.slice g c.neqs.length f]++([]),z,⟨_,z,(ab.mono (mt D W))⟩,⟨[.slice g c.neqs.length f],[],z,⟨_,z,(Y.mono (mt D W))⟩,z⟩⟩ (key:=999) z (by rw[aU]; rfl) fun p1 ao af ai=>yy (M' ci' ai z) z<|mv z z<|nx<|ak' (fun (o:Mem)=>match o with|aa=>[]) (fun (o:Mem)=>match o with|aa=>Mem.le ao aa/\(Zc0).Ret r) (fun (o:Mem)=>match o with|aa=>St Z T aa []) ?_ ?_
 .refine C' ?_
  let X:(Bool⊕Unit)->Prop:=fun oo=>((fun ov=>match ov with | .inl rv1=>Cq.ret rv1 | .inr ()=>Zc0:(Bool⊕Unit)->Cq Bool) oo).wp (fun a=>a=r)
  replace hr:(Cq.loop _ _).wp X:=hr
  refine al' (Φ:=X) (fun (⟨n,S,t,y⟩:Int×(List (Int×Bool))×Option Ow×Mem)=>((n,S):Int×(List (Int×Bool)))) (fun ⟨n,S,t,y⟩=>[(1,.pointer (some ⟨I,0,none⟩)),(49,.slice p1 2 2),(50,i' ([c.eqs,c.neqs].length:Int)),(51,i' n),(6,.map (some R))]) (fun ⟨n,S,t,y⟩=>Mem.le ao y/\MapR ky3 (RvS Rp.bool y) (.map (some R)) S t) (fun ⟨n,S,t,y⟩=>St Z T y [(1,some ⟨I,.cells ((v31' c l m i j g f)).toArray 31 (0,0),0⟩),(4044,t)]) ⟨0,[],aq,ao⟩ hr (f5 z z z z z) ⟨mr,(MapR.mono aR af)⟩ (w2 z z) ?_
  .intro aB o hx hr
   obtain⟨n,S,t,y⟩:=o
   obtain⟨F,aN⟩:=hx
   refine sr<|yy (ag' z z) z<|nx<|n'<|L' hr z (fun bd hr=>?_) (fun bd hr=>?_)
   .refine q'<|g'<|n'<|C'<|sr ?_
    obtain⟨x1,ax,hr⟩:=hr
    refine yy (Q' ci' sz29 (ai.mono F) z z ax) z ?_
    obtain⟨p2,ae,aX,V⟩:=bG' (H' (ab' ai ax) F)
    refine yy (Y' bq' z (aX)) z<|sg z z<|nx<|n'<|sr<|mv z z<|yy (M' w' V z) z<|yy (bh' z z) z<|nx<|L' hr z (fun bc hr=>?_) (fun bc hr=>?_)
    .exact (show False from hr).elim
    refine q'<|g'<|sr<|mv z z<|yy (M' w' V z) z<|mv z z<|nx<|ak' (fun (⟨K,C,Q⟩:(List (Int×Bool))×Option Ow×Mem)=>[(1,.pointer (some ⟨I,0,none⟩)),(49,.slice p1 2 2),(50,i' ([c.eqs,c.neqs].length:Int)),(51,i' n),(6,.map (some R))]) (fun ⟨K,C,Q⟩=>Mem.le y Q/\MapR ky3 (RvS Rp.bool Q) (.map (some R)) K C/\(Zc1 n K).wp (Out aB X)) (fun ⟨K,C,Q⟩=>St Z T Q [(1,some ⟨I,.cells ((v31' c l m i j g f)).toArray 31 (0,0),0⟩),(4044,C)]) ?_ ?_
    .refine C' ?_
     let ad:(Bool⊕((List (Int×Bool))))->Prop:=fun oo=>((fun ov=>match ov with | .inl rv2=>Cq.ret (.inr (.inl rv2)) | .inr K=>Zc1 n K:(Bool⊕((List (Int×Bool))))->Cq ((Int×(List (Int×Bool)))⊕(Bool⊕Unit))) oo).wp (Out aB X)
     replace hr:(Cq.loop _ _).wp ad:=hr
     refine al' (Φ:=ad) (fun (⟨q,H,s,A⟩:Int×(List (Int×Bool))×Option Ow×Mem)=>((q,H):Int×(List (Int×Bool)))) (fun ⟨q,H,s,A⟩=>[(1,.pointer (some ⟨I,0,none⟩)),(8,.slice p2 x1.length ae),(49,.slice p1 2 2),(50,i' ([c.eqs,c.neqs].length:Int)),(51,i' n),(58,.slice p2 x1.length ae),(59,i' (x1.length:Int)),(60,i' q),(6,.map (some R))]) (fun ⟨q,H,s,A⟩=>Mem.le y A/\MapR ky3 (RvS Rp.bool A) (.map (some R)) H s) (fun ⟨q,H,s,A⟩=>St Z T A [(1,some ⟨I,.cells ((v31' c l m i j g f)).toArray 31 (0,0),0⟩),(4044,s)]) ⟨0,S,t,y⟩ hr (f9 z z z z z z z z z) ⟨mr,aN⟩ (w2 z z) ?_
     .intro aV o hx hr
      obtain⟨q,H,s,A⟩:=o
      obtain⟨u,ac⟩:=hx
      refine sr<|yy (ag' z z) z<|nx<|n'<|L' hr z (fun a6 hr=>?_) (fun a6 hr=>?_)
      .refine q'<|g'<|n'<|C'<|sr<|mv z z ?_
       obtain⟨x2,ay,hr⟩:=hr
       refine yy (Q' w' aR' (V.mono u) z z ay) z ?_
       obtain⟨aO,aM,aY,aF⟩:=bp' (H' (ab' V ay) u)
       refine yy (aA' _ bJ' z z aY) z<|T' 10 z z110 z fun b2=>sg z z<|s' 10 z aR' z z z z z (List.all_eq_true.1 z)<|nx<|aM' (fun (o:Mem)=>match o with|P=>[(1,.pointer (some ⟨I,0,none⟩)),(8,.slice p2 x1.length ae),(10,.pointer (some ⟨b2,0,none⟩)),(49,.slice p1 2 2),(50,i' ([c.eqs,c.neqs].length:Int)),(51,i' n),(58,.slice p2 x1.length ae),(59,i' (x1.length:Int)),(60,i' q),(6,.map (some R))]) (fun (o:Mem)=>match o with|P=>Mem.le A P/\(ZbD c q H x2).wp (Out aV ad)) (fun (o:Mem)=>match o with|P=>St Z T P [(1,some ⟨I,.cells ((v31' c l m i j g f)).toArray 31 (0,0),0⟩),(10,some ⟨b2,.cells ((v110' x2.id aO x2.p aM)).toArray 110 (0,0),0⟩),(4044,s)]) ?_ ?_
       .refine n'<|ah' [ff,ff,ff,ff,ff,ff,ff,ff,ff,ff,ff,ff,ff,ff,ff,ff,ff,ff,ff,ff,ff,ff,ff,ff,ff,ff,ff,ff] mix (by kernel_rfl) fun hb=>cn (fun _ d=>bn' z)<|cn (fun _ d=>f' 10 sc3 z z z)<|by' hr z (fun _ d=>ag' z z) (fun aS hr=>?_) (fun aS hr=>?_)
        .refine cn (fun _ d=>e' z)<|cf z z<|cf z z<|cf z z<|cf z z<|cf z z<|cn (fun _ d=>h' z z)<|cn (fun _ d=>e' z)<|cf z z<|cf z z<|cf z z<|cf z z<|cn (fun _ d=>h' z z)<|cn (fun _ d=>e' z)<|cf z z<|cf z z<|cf z z<|cs z z<|cs z z<|cs z z<|cs z z<|cs z z<|cs z z<|cs z z<|cs z z<|U' hb<|N' (x' z z) z<|sf z z z<|yy (h' z z) z<|u'<|aq'<|g'<|R' z<|sr<|sg z z<|nx<|j'<|a'<|m'<|a'<|a'<|m'<|ae'<|m'<|a'<|a'<|m'<|ae'<|a' ?_
         obtain rfl:_=r:=hr
         exact k' z z z
        refine cn (fun _ d=>e' z)<|cy z z (fun _ d=>bn' z)<|cy z z (fun _ d=>f' 10 sc3 z z z)<|cy z z (fun _ d=>bw' z)<|cy z z (fun _ d=>f' 1 sc3 z z z)<|by' hr (v' z z) (fun _ d=>be' z z) (fun bg hr=>?_) (fun bg hr=>?_)
        .refine cn (fun _ d=>l' z z)<|cn (fun _ d=>e' z)<|cf z z<|cf z z<|cf z z<|cf z z<|cn (fun _ d=>h' z z)<|cn (fun _ d=>e' z)<|cf z z<|cf z z<|cf z z<|cs z z<|cs z z<|cs z z<|cs z z<|cs z z<|cs z z<|cs z z<|cs z z<|U' hb<|N' (x' z z) z<|sf z z z<|yy (h' z z) z<|u'<|aq'<|g'<|R' z<|sr<|sg z z<|nx<|j'<|a'<|m'<|a'<|a'<|m'<|ae'<|m'<|a'<|a'<|m'<|ae'<|a' ?_
         obtain rfl:_=r:=hr
         exact k' z z z
        refine cn (fun _ d=>l' z z)<|cn (fun _ d=>e' z)<|cy z z (fun _ d=>e' z)<|cy z z (fun _ d=>bn' z)<|cy z z (fun _ d=>f' 10 sc3 z z z) ?_
        obtain⟨bb,hr⟩:=hr
        refine by' hr (v' z z) (fun _ d=>cZ' (Y0.mapGet1 (mk:=Value.bool) (k:=x2.id) 4044 false (fun h=>Zlv h) underlying116 zv4 (MapR.mono ac d) z z z bb) (congrArg Value.bool (bdec _))) (fun bh hr=>?_) (fun bh hr=>?_)
        .refine cn (fun _ d=>l' z z)<|cn (fun _ d=>e' z)<|cf z z<|cf z z<|cf z z<|cs z z<|cs z z<|cs z z<|cs z z<|cs z z<|cs z z<|cs z z<|cs z z<|U' hb<|N' (x' z z) z<|sf z z z<|yy (h' z z) z<|u'<|aq'<|g'<|R' z<|sr<|sg z z<|nx<|j'<|a'<|m'<|a'<|a'<|m'<|ae'<|m'<|a'<|a'<|m'<|ae'<|a' ?_
         obtain rfl:_=r:=hr
         exact k' z z z
        refine cn (fun _ d=>l' z z)<|cn (fun _ d=>e' z)<|cy z z (fun _ d=>e' z)<|by' hr (v' z z) (fun _ d=>bh' z z) (fun aW hr=>?_) (fun aW hr=>?_)
        .refine cy z z (fun _ d=>e' z)<|cy z z (fun _ d=>bn' z)<|cy z z (fun _ d=>f' 10 sc3 z z z)<|cy z z (fun _ d=>e' z)<|cy z z (fun _ d=>e' z)<|cy z z (fun _ d=>bi' z z) ?_
         obtain⟨x3,aA,hr⟩:=hr
         refine cy z z (fun _ d=>Q' w' aR' ((V.mono u).mono d) z z aA)<|cy z z (fun _ d=>bn' z)<|cy z z (fun _ d=>Y' sc3 z (aD' (H' (H' (aV' (ax' (ab' V aA))) u) d)))<|U' hb<|gy z z (bK' z z) z<|gy z z (h' z z) z<|yy (l' z z) z<|u'<|aq'<|g'<|L' hr z (fun a3 hr=>?_) (fun a3 hr=>?_)
         .exact (show False from hr).elim
         refine q'<|ap' A ⟨mr,hr⟩ (f10 z z z z z z z z z z) (w3 z z z)
        refine cy z z (fun _ d=>e' z)<|ct z z<|ct z z<|ct z z<|ct z z<|ct z z<|ct z z<|ct z z<|ct z z<|U' hb<|sk z z z<|gy z z (l' z z) z<|yy (l' z z) z<|u'<|aq'<|g'<|bb' z<|q'<|ap' A ⟨mr,hr⟩ (f10 z z z z z z z z z z) (w3 z z z)
       rintro P ⟨M,hr⟩
       refine sr<|mv z z<|yy (bn' z) z<|yy (f' 10 sc3 z z z) z ?_
       obtain⟨⟨a1,aE⟩,hr⟩:=hr
       refine WL.mapPut (Rv':=RvS Rp.bool P) (k:=x2.id) (z:=true) 4044 z underlying116 (MapR.mono ac M) z z z z a1 z (fun _ _ _ _ h=>h) aE fun a0 aQ=>nr<|yy (bT' z) z<|yy (f' 10 cA' z z z) z<|yy (aF' z) z<|yy (f' 1 bA' z z z) z<|yy (M' F' (p.mono (mt (mt (mt (mt (mt D W) af) F) u) M)) z) z ?_
       obtain⟨bk,aI,hr⟩:=hr
       refine D' z z (t' E60 z) (gr' aI) z ((aF.mono M))<|yy (aj' z) z<|nx<|aL' hr z (fun a4 hr=>?_) (fun a4 hr=>?_)
       .exact (show False from hr).elim
       refine q'<|J'<|g'<|A'<|yy (W' z z) z<|mv z z<|u'<|X' ⟨i64.wrap (q+1),(mput H x2.id true),a0,P⟩ hr ⟨(mt u M),aQ⟩ (f9 z z z z z z z z z) (w2 z z)
      refine am'<|r'<|r'<|O'<|ao' ⟨H,s,A⟩ ⟨u,ac,hr⟩ (f5 z z z z z) (w2 z z)
    rintro⟨K,C,Q⟩ ⟨aw,aK,hr⟩
    refine J'<|g'<|A'<|yy (W' z z) z<|mv z z<|u'<|X' ⟨i64.wrap (n+1),K,C,Q⟩ hr ⟨(mt F aw),aK⟩ (f5 z z z z z) (w2 z z)
   refine am'<|r'<|r'<|O'<|ao' y ⟨F,hr⟩ fn (wk ln)
 rintro aa ⟨bi,hr⟩
 refine g'<|sr<|sg z z<|nx<|j' ?_
 obtain rfl:_=r:=hr
 exact k' z z z
theorem dW'{c r}(hr:(Zdx c).Ret r):Ctr prog 125 #[.string c] (fun G=>True) (fun G v=>v = .bool r):=by
 refine E' (args:=[_]) (N:=7) func125 z z z fun m n f j=>sr<|sg z z<|nr<|mv z z<|bd' (e:=9) (r:=Rp.str) (vs:=#[(0,.string c)]) (cs:=[.string c]++([])) ([c]:List ByteArray) z z z z z (by decide) (fun _=>by kernel_rfl) ⟨[.string c],[],z,z,z⟩ (key:=999) z (by rw[f]; rfl) fun g l i h=>yy (aw' (vs:=#[(0,.slice g 1 1),(3,i' 1)]) (v:=.agg ([.slice g 1 1,.slice none 0 0,.slice none 0 0,i' 1]).toArray) z z (fun _=>by kernel_rfl)) z ?_
 obtain⟨k,d,hr⟩:=hr
 refine D' z z (t' E44 z) (eo' d) z (⟨h,(V' b' _),(V' b' _)⟩)<|sg z z<|nx<|j' ?_
 obtain rfl:_=r:=hr
 exact k' z z z
theorem cH'{j p k i r}(hr:(Z7 j p).Ret r):Ctr prog 136 #[.slice k j.length i,.string p] (fun G=>sl Rp.str G k i j) (fun G v=>v=i' r):=by
 refine E' (args:=[_,_]) (N:=19) func136 z z z (fun q h C o=>?_)
 have m:=o
 refine sr<|sg z z<|nx<|n'<|sr<|mv z z<|yy (M' F' m z) z<|mv z z<|nx<|ak' (fun (g:Mem)=>match g with|f=>[]) (fun (g:Mem)=>match g with|f=>Mem.le h f/\(Zal).Ret r) (fun (g:Mem)=>match g with|f=>St q h f []) ?_ ?_
 .refine C' ?_
  let l:(Int⊕Unit)->Prop:=fun x=>((fun y=>match y with | .inl rv1=>Cq.ret rv1 | .inr ()=>Zal:(Int⊕Unit)->Cq Int) x).wp (fun a=>a=r)
  replace hr:(Cq.loop _ _).wp l:=hr
  refine al' (Φ:=l) (fun (⟨c,d⟩:Int×Mem)=>(c:Int)) (fun ⟨c,d⟩=>[(0,.slice k j.length i),(1,.string p),(7,i' (j.length:Int)),(8,i' c)]) (fun ⟨c,d⟩=>Mem.le h d) (fun ⟨c,d⟩=>St q h d []) ⟨0,h⟩ hr (f4 z z z z) mr (wk ln) ?_
  .intro B g A hr
   obtain⟨c,d⟩:=g
   have e:=A
   refine sr<|yy (ag' z z) z<|nx<|n'<|L' hr z (fun t hr=>?_) (fun t hr=>?_)
   .refine q'<|g'<|n'<|C'<|sr<|mv z z<|sg z z<|nr<|mv z z<|mv z z<|mv z z ?_
    obtain⟨D,n,hr⟩:=hr
    refine yy (Q' F' sz9 (m.mono e) z z n) z<|yy (Y' sc9 z (bZ' (H' (ab' m n) e))) z<|yy (Y0.eqlS bl' z z) z<|nx<|L' hr z (fun s hr=>?_) (fun s hr=>?_)
    .refine sr<|mv z z<|sg z z<|nx<|j'<|m'<|a'<|a'<|m'<|ae'<|a' ?_
     obtain rfl:_=r:=hr
     exact k' z z z
    refine q'<|J'<|g'<|A'<|yy (W' z z) z<|mv z z<|u'<|X' ⟨i64.wrap (c+1),d⟩ hr e (f4 z z z z) (wk ln)
   refine am'<|r'<|r'<|O'<|ao' d ⟨e,hr⟩ fn (wk ln)
 rintro f ⟨u,hr⟩
 refine g'<|sr<|sg z z<|nx<|j' ?_
 obtain rfl:_=r:=hr
 exact k' z z z
theorem di'{f i d c r}(hr:(Zak f i).Ret r):Ctr prog 126 #[.slice d f.length c,.string i] (fun G=>sl Rp.str G d c f) (fun G v=>v = .bool r):=by
 refine E' (args:=[_,_]) (N:=9) func126 z z z (fun l m k e=>?_)
 have h:=e
 refine sr<|sg z z<|nr<|mv z z<|mv z z ?_
 obtain⟨j,g,hr⟩:=hr
 refine D' z z (t' E136 z) (cH' g) z (h)<|yy (be' z z) z<|sg z z<|nx<|j' ?_
 obtain rfl:_=r:=hr
 exact k' z z z
theorem fo'(e:Zc)(d:Za)(l:Nat)(j:Nat)(r:Bool)(hr:(ZaJ e d).Ret r):Ctr prog 124 #[.pointer (some ⟨l,0,none⟩),.pointer (some ⟨j,0,none⟩)] (fun G=>At af' G l 0 e/\At aP' G j 0 d) (fun G v=>v = .bool r):=by
 refine E' (args:=[_,_]) (N:=14) func124 z z z (fun s t q g=>?_)
 obtain⟨c,f⟩:=g
 refine sr<|sg z z<|nr<|yy (bW' z) z<|yy (Y' sc9 z (bZ' (aV' (ay' (ax' c))))) z ?_
 obtain⟨k,h,hr⟩:=hr
 refine D' z z (t' E125 z) (dW' h) z (trivial) ?_
 cases k
 .refine mv z z<|sn6 z<|yy (l' z z) z<|sg z z<|nx<|j' ?_
  obtain rfl:_=r:=hr
  exact k' z z z
 refine mv z z<|gy z z (aF' z) z ?_
 obtain⟨u,p,n,m⟩:=bG' (aV' (ax' f))
 refine gy z z (Y' bA' z (n)) z<|gy z z (bW' z) z<|gy z z (Y' sc9 z (bZ' (aV' (ay' (ax' c))))) z ?_
 obtain⟨o,i,hr⟩:=hr
 refine D' (v' z z) z (t' E126 z) (di' i) z (m)<|gy z z (aj' z) z<|yy (h' z z) z<|sg z z<|nx<|j' ?_
 obtain rfl:_=r:=hr
 exact k' z z z
theorem cP'{m i j r}(hr:(ZA m).Ret r):Ctr prog 120 #[.slice i m.length j] (fun G=>sl (Rp.fn prog fa0 foI) G i j m) (fun G v=>v=i' r):=by
 refine E' (args:=[_]) (N:=18) func120 z z z (fun t k K q=>?_)
 have l:=q
 refine sr<|sg z z<|nx<|n'<|sr<|mv z z<|yy (M' underlying203 l z) z<|mv z z<|nx<|ak' (fun (g:Mem)=>match g with|f=>[]) (fun (g:Mem)=>match g with|f=>Mem.le k f/\(ZdZ).Ret r) (fun (g:Mem)=>match g with|f=>St t k f []) ?_ ?_
 .refine C' ?_
  let n:(Int⊕Unit)->Prop:=fun D=>((fun E=>match E with | .inl rv1=>Cq.ret rv1 | .inr ()=>ZdZ:(Int⊕Unit)->Cq Int) D).wp (fun a=>a=r)
  replace hr:(Cq.loop _ _).wp n:=hr
  refine al' (Φ:=n) (fun (⟨c,e⟩:Int×Mem)=>(c:Int)) (fun ⟨c,e⟩=>[(6,.slice i m.length j),(7,i' (m.length:Int)),(8,i' c)]) (fun ⟨c,e⟩=>Mem.le k e) (fun ⟨c,e⟩=>St t k e []) ⟨0,k⟩ hr (f3 z z z) mr (wk ln) ?_
  .intro I g H hr
   obtain⟨c,e⟩:=g
   have d:=H
   refine sr<|yy (ag' z z) z<|nx<|n'<|L' hr z (fun B hr=>?_) (fun B hr=>?_)
   .refine q'<|g'<|n'<|C'<|sr ?_
    obtain⟨L,p,hr⟩:=hr
    refine yy (Q' underlying203 sz178 (l.mono d) z z p) z ?_
    obtain⟨M,u,x⟩:=AtK.fnv (H' (ab' l p) d)
    refine yy (Y' sc178 z (u)) z<|sg z z<|nr<|mv z z ?_
    obtain⟨J,s,hr⟩:=hr
    refine WL.callFn (vs:=[]) (a:=()) z z x z z z s (fun F y o h=>?_)
    subst h
    refine sg z z<|nr<|mv z z<|yy (av' z z) z<|nx<|L' hr z (fun A hr=>?_) (fun A hr=>?_)
    .refine sr<|mv z z<|sg z z<|nx<|j'<|m'<|a'<|a'<|m'<|ae'<|a' ?_
     obtain rfl:_=r:=hr
     exact k' z z z
    refine q'<|J'<|g'<|A'<|yy (W' z z) z<|mv z z<|u'<|X' ⟨i64.wrap (c+1),y⟩ hr (mt d o) (f3 z z z) (wk ln)
   refine am'<|r'<|r'<|O'<|ao' e ⟨d,hr⟩ fn (wk ln)
 rintro f ⟨C,hr⟩
 refine g'<|sr<|sg z z<|nx<|j' ?_
 obtain rfl:_=r:=hr
 exact k' z z z
theorem ed'{r}(hr:(Zbt).Ret r):Ctr prog 127 #[] (fun G=>True) (fun G v=>v = .agg (vecG (Value.int .i64) 8 r).toArray):=by
 refine E' (args:=[]) (N:=10) func127 z z z fun m j D s=>sr<|T' 0 z z119 z fun l=>nx<|n'<|sr<|mv z z<|nx<|ak' (fun (⟨d,g⟩:(Fin 8->Int)×Mem)=>[(0,.pointer (some ⟨l,0,none⟩))]) (fun ⟨d,g⟩=>Mem.le j g/\(Zcf d).Ret r) (fun ⟨d,g⟩=>St m j g [(0,some ⟨l,.cells (vecG (Value.int .i64) 8 d).toArray 119 (0,0),0⟩)]) ?_ ?_
 .refine C' ?_
  let k:(Fin 8->Int)->Prop:=fun y=>((fun A=>match A with|d=>Zcf d:(Fin 8->Int)->Cq (Fin 8->Int)) y).wp (fun a=>a=r)
  replace hr:(Cq.loop _ _).wp k:=hr
  refine al' (Φ:=k) (fun (⟨c,e,f⟩:Int×(Fin 8->Int)×Mem)=>((c,e):Int×(Fin 8->Int))) (fun ⟨c,e,f⟩=>[(0,.pointer (some ⟨l,0,none⟩)),(2,i' c)]) (fun ⟨c,e,f⟩=>Mem.le j f) (fun ⟨c,e,f⟩=>St m j f [(0,some ⟨l,.cells (vecG (Value.int .i64) 8 e).toArray 119 (0,0),0⟩)]) ⟨0,(fun _=>0),j⟩ hr (f2 z z) mr (w1 z) ?_
  .intro C t B hr
   obtain⟨c,e,f⟩:=t
   have h:=B
   refine sr<|yy (ag' z z) z<|nx<|n'<|L' hr z (fun o hr=>?_) (fun o hr=>?_)
   .refine q'<|g'<|n'<|C'<|sr<|mv z z<|sg z z<|nx<|A'<|mv z z<|mv z z ?_
    obtain⟨p,hr⟩:=hr
    refine yy (bg' bc' sz3 z z p) z<|aG' 0 (vecG (Value.int .i64) 8 (setF e c.toNat c)).toArray z sz3 z z z (by first|(rw[Z']; omega)|(show _<(vecG _ _ _).toArray.size; rw[Z']; omega)) z (cf' _ _ _ _ _)<|u'<|J'<|g'<|A'<|yy (W' z z) z<|mv z z<|u'<|X' ⟨i64.wrap (c+1),setF e c.toNat c,f⟩ hr h (f2 z z) (w1 z)
   refine am'<|r'<|r'<|O'<|ao' ⟨e,f⟩ ⟨h,hr⟩ (f1 z) (w1 z)
 rintro⟨d,g⟩ ⟨q,hr⟩
 refine g'<|sr<|yy (o' 0 ag119 z z (Z' _ _ _)) z<|s' 0 z sz119 z z z (Z' _ _ _) (Z' _ _ _) (fun u n=>Rp.one (dv' .i64 8) (G:=g) (x:=d) (cs:=vecG (Value.int .i64) 8 d) z u (by first|simpa using n|simpa [Value.cells] using n))<|nx<|j' ?_
 obtain rfl:_=r:=hr
 exact k' z (ac' (i:=0) ag119 z z (Z' _ _ _)) z
theorem fz'{n r}(hr:(Zfc n).Ret r):Ctr prog 230 #[.int .u64 n] (fun G=>True) (fun G v=>v=i' r):=by
 refine E' (args:=[_]) (N:=25) func230 z z z fun m j B A=>sr<|sg z z<|nx<|aM' (fun (⟨i,f,d⟩:Int×Int×Mem)=>[(0,.int .u64 i),(2,i' f)]) (fun ⟨i,f,d⟩=>Mem.le j d/\(ZdO i f).Ret r) (fun ⟨i,f,d⟩=>St m j d []) ?_ ?_
 .refine sr<|mv z z<|yy (be' z z) z<|nx<|L' hr z (fun p hr=>?_) (fun p hr=>?_)
  .exact (show False from hr).elim
  refine q'<|ap' ⟨n,0,j⟩ ⟨mr,hr⟩ (f2 z z) (wk ln)
 rintro⟨i,f,d⟩ ⟨u,hr⟩
 refine aM' (fun (⟨h,g,c⟩:Int×Int×Mem)=>[(0,.int .u64 h),(2,i' g)]) (fun ⟨h,g,c⟩=>Mem.le d c/\(ZdN h g).Ret r) (fun ⟨h,g,c⟩=>St m j c []) ?_ ?_
 .refine sr<|mv z z<|yy (be' z z) z<|nx<|L' hr z (fun o hr=>?_) (fun o hr=>?_)
  .exact (show False from hr).elim
  refine q'<|ap' ⟨i,f,d⟩ ⟨mr,hr⟩ (f2 z z) (wk ln)
 rintro⟨h,g,c⟩ ⟨x,hr⟩
 refine aM' (fun (⟨l,k,e⟩:Int×Int×Mem)=>[(0,.int .u64 l),(2,i' k)]) (fun ⟨l,k,e⟩=>Mem.le c e/\(ZdM l k).Ret r) (fun ⟨l,k,e⟩=>St m j e []) ?_ ?_
 .refine sr<|mv z z<|yy (be' z z) z<|nx<|L' hr z (fun q hr=>?_) (fun q hr=>?_)
  .exact (show False from hr).elim
  refine q'<|ap' ⟨h,g,c⟩ ⟨mr,hr⟩ (f2 z z) (wk ln)
 rintro⟨l,k,e⟩ ⟨y,hr⟩
 refine sr<|mv z z<|mv z z<|yy (aO' az' aS' z) z ?_
 obtain⟨t,hr⟩:=hr
 refine yy (dM' (s:=ZeS) bl' z z t) z<|yy (aO' aS' aE' z) z<|yy (W' z z) z<|sg z z<|nx<|j' ?_
 obtain rfl:_=r:=hr
 exact k' z z z
theorem fX'{d r}(hr:(Zb7 d).Ret r):Ctr prog 220 #[.int .u64 d] (fun G=>True) (fun G v=>v=i' r):=by
 refine E' (args:=[_]) (N:=8) func220 z z z fun h i g e=>sr<|sg z z<|nx<|n'<|bb' z<|q'<|g'<|sr<|mv z z ?_
 obtain⟨f,c,hr⟩:=hr
 refine D' z z (t' E230 z) (fz' c) z (trivial)<|sg z z<|nx<|j' ?_
 obtain rfl:_=r:=hr
 exact k' z z z
theorem cI'{s h i e f r}(hr:(ZC s).Ret r):CtrL prog 210 #[.slice h e i,.func (.func 211) #[] #[]] [(5000,f)] (fun G=>RowR I' 133 G (.slice h e i) s f) (fun G L v=>∃ k,L=[(5000,k)]/\v = .tuple #[]/\RowR I' 133 G (.slice h e i) r k):=by
 refine bf' (args:=[_,_]) (N:=14) func210 z z z (fun o A u l=>?_)
 have j:=l
 have hz:o.L.zero:=by
  rw[u]; intro p t x C
  simp only[List.mem_cons,List.not_mem_nil,or_false] at t
  subst t; exact RowR.zero j C
 refine sr<|mv z z<|yy (ea' ai' j z) z<|sg z z<|nx<|A'<|mv z z<|mv z z<|mv z z<|yy (aO' aE' dN' z) z ?_
 obtain⟨E,n,hr⟩:=hr
 refine D' z z (t' E220 z) (fX' n) z (trivial)<|mv z z ?_
 obtain⟨F,m,hr⟩:=hr
 refine cJ' z z (t' E219 z) (cR' m) z (j) (lc z ln) hz (fun D q B y c=>?_)
 obtain⟨g,rfl,rfl,d⟩:=c
 refine u'<|WE.retN ?_
 obtain rfl:_=r:=hr
 refine aJ' (S':=St o A q [(5000,g)]) (w1 z)<|WE.ret0 z  ⟨_,z,z,d⟩
theorem fg'{A t h r}(hr:(Zb2 A).Ret r):CtrL prog 195 #[.map (some t)] [(5500,h)] (fun G=>MapR ky120 (RvA ee' G) (.map (some t)) A h) (fun G L v=>L=[(5500,h)]/\(∃ zp zc,v = .slice zp r.length zc/\sl I' G zp zc r)):=by
 refine bf' (args:=[_]) (N:=28) func195 z z z (fun w0 T J af=>?_)
 have D:=af
 have hz:w0.L.zero:=by
  rw[J]; intro p hp x hx
  simp only[List.mem_cons,List.not_mem_nil,or_false] at hp
  subst hp; exact MapR.zero D hx
 refine sr<|sg z z<|nr<|mv z z<|yy (Y0.lenM 5500 ev' D z z) z ?_
 obtain⟨aw,hr⟩:=hr
 refine WL.makeC (r:=I') (e:=133) (n:=(A.length:Int)) 4008 z z ai' el133 z (by decide) z z aw fun p1 aE ah ao=>sg z z<|nx<|n'<|sr<|mv z z<|WL.rangeM 5500 4010 z z ev' D z z fun ac aa al=>nx<|ak' (fun (⟨B,H,I,y,K⟩:(List Ze)×Option Addr×Nat×Option Ow×Mem)=>[(3,.slice H B.length I),(0,.map (some t))]) (fun ⟨B,H,I,y,K⟩=>Mem.le T K/\RowR I' 133 K (.slice H B.length I) B y/\(Zbo B).Ret r) (fun ⟨B,H,I,y,K⟩=>St w0 T K [(4003,y),(5500,h)]) ?_ ?_
 .refine C' ?_
  let Y:(List Ze)->Prop:=fun oo=>((fun ov=>match ov with|B=>Zbo B:(List Ze)->Cq (List Ze)) oo).wp (fun a=>a=r)
  replace hr:(Cq.loop _ _).wp Y:=hr
  refine al' (Φ:=Y) (fun (⟨o,s,q,l,S,C,m⟩:(List Ze)×Option Addr×Nat×Option Ow×List ((Fin 8->Int)×Zn)×Option Ow×Mem)=>((o,S):(List Ze)×List ((Fin 8->Int)×Zn))) (fun ⟨o,s,q,l,S,C,m⟩=>[(3,.slice s o.length q),(0,.map (some t)),(10,ac)]) (fun ⟨o,s,q,l,S,C,m⟩=>Mem.le T m/\RowR I' 133 m (.slice s o.length q) o l/\IterR ky120 (RvA ee' m) h ac S none C) (fun ⟨o,s,q,l,S,C,m⟩=>St w0 T m [(4003,l),(5500,h),(4010,C)]) ⟨([]:List Ze),p1,aE,ah,A,aa,T⟩ hr (f3 z z z) ⟨mr,ao,(IterR.forget al)⟩ ?_ ?_
  .intro w Q
   have Q:=Q.rekey (i:=4008) (j:=4003) z (by rw[J]; rfl)
   exact Q.weaken (lc z (lc z (lc z ln)))
  intro aY gx hx hr
  obtain⟨o,s,q,l,S,C,m⟩:=gx
  obtain⟨O,P,ap⟩:=hx
  refine sr<|WL.nextM 5500 4010 z z ap z z z (fun Ra k Rb W V R aL aK=>?_) (fun V=>?_)
  .replace hr:=hr.2 _ _ _ V
   generalize Ra++Rb=R2 at hr R
   refine yy (y' z z) z<|nx<|n'<|R' z<|q'<|g'<|C'<|sr<|WL.entryM 5500 4010 z z R z z z (fun u1 ax aU=>?_)
   obtain⟨aX,rfl,ar⟩:=ax
   obtain⟨d,f,c,g,rfl,F,E⟩:=Zm3 ar
   refine yy (y' z z) z<|yy (y' z z) z<|T' 4 z z120 z fun b1=>T' 5 z z130 z fun b2=>s' 4 z sz120 z z z (Z' _ _ _) (Z' _ _ _) (fun u hu=>Rp.one (dv' .i64 8) (G:=m) (x:=k.1) (cs:=vecG (Value.int .i64) 8 k.1) z u (by first|simpa using hu|simpa [Value.cells] using hu))<|s' 5 z sz130 z z z z z (List.all_eq_true.1 z)<|nr<|yy (o' 5 cN' z z z) z ?_
   obtain⟨aV,ad,hr⟩:=hr
   refine D' z z (t' E107 z) (eL' ad) z (⟨F,E⟩)<|yy (av' z z) z<|nx<|L' hr z (fun aD hr=>?_) (fun aD hr=>?_)
   .refine A'<|mv z z<|yy (o' 5 cN' z z z) z<|yy (o' 4 bP' z z (Z' _ _ _)) z<|yy (aw' (vs:=#[(0,.agg ((v130' k.2 d f c g)).toArray),(1,.agg (vecG (Value.int .i64) 8 k.1).toArray)]) (v:=.agg (((v130' k.2 d f c g):List Value)++(vecG (Value.int .i64) 8 k.1)).toArray) z z (fun _=>by kernel_rfl)) z<|bd' (e:=133) (r:=I') (vs:=#[(0,.agg (((v130' k.2 d f c g):List Value)++(vecG (Value.int .i64) 8 k.1)).toArray)]) (cs:=(((v130' k.2 d f c g):List Value)++(vecG (Value.int .i64) 8 k.1))++([])) ([(Ze.mk k.2 k.1)]:List Ze) z z z z z (by decide) (fun _=>by kernel_rfl) ⟨((v130' k.2 d f c g):List Value)++(vecG (Value.int .i64) 8 k.1),[],z,⟨(v130' k.2 d f c g),vecG (Value.int .i64) 8 k.1,z,⟨(v128' k.2.num d f),(v128' k.2.den c g),z,⟨[.bool k.2.num.neg],[.slice d k.2.num.mag.length f],z,z,⟨_,z,F⟩⟩,⟨[.bool k.2.den.neg],[.slice c k.2.den.mag.length g],z,z,⟨_,z,E⟩⟩⟩,z⟩,z⟩ (key:=999) z (by rw[J]; rfl) (fun p2 az M av=>?_)
    obtain⟨ai,hr⟩:=hr
    refine cx' (r:=I') (e:=133) 4003 z z ai' el133 z (by decide) z z (P.mono M) z av ai fun p3 aq ak an=>sg z z<|u'<|J'<|X' ⟨(o++[(Ze.mk k.2 k.1)]),p3,aq,ak,R2,W,az⟩ hr ⟨(mt O M),an,(IterR.forget (IterR.monoA R M))⟩ (f3 z z z) (w3 z z z)
   refine q'<|J'<|X' ⟨o,s,q,l,R2,W,m⟩ hr ⟨O,P,(IterR.forget R)⟩ (f3 z z z) (w3 z z z)
  replace hr:=hr.1 V
  refine yy (y' z z) z<|nx<|n'<|bb' z<|am'<|r'<|r'<|O'<|ao' ⟨o,s,q,l,m⟩ ⟨O,P,hr⟩ (f2 z z) (w2 z z)
 rintro⟨B,H,I,y,K⟩ ⟨aH,aj,hr⟩
 refine g'<|sr<|mv z z ?_
 obtain⟨aZ,ag,hr⟩:=hr
 refine bH' (fun w Q=>Q.rekey (i:=4003) (j:=5000) z (by rw[J]; rfl))<|cJ' z z (t' E210 z) (cI' ag) z (aj) (lc z ln) hz (fun aS a0 aJ aI U=>?_)
 obtain⟨aB,rfl,rfl,X⟩:=U
 refine bH' (fun w Q=>Q.rekey (i:=5000) (j:=4003) z (by rw[J]; rfl))<|nr<|mv z z<|sg z z<|nx<|j' ?_
 obtain rfl:_=r:=hr
 refine WE.freezeT (r:=I') (e:=133) 4003 X z (by rw[J]; rfl) fun aW au aG Z aF=>aJ' (S':=St w0 T au [(5500,h)]) (w1 z)<|k' z z ⟨z,⟨_,_,(dj' Z),(de' Z)⟩⟩
theorem eT'{F g P Q r}(hr:(ZbN F g).Ret r):Ctr prog 169 #[.slice P F.length Q,.agg (vecG (Value.int .i64) 8 g).toArray] (fun G=>sl I' G P Q F) (wlt' I' r):=by
 refine E' (args:=[_,_]) (N:=59) func169 z z z (fun X U ad av=>?_)
 have ab:=av
 have hz:X.L.zero:=by rw[ad]; intro p hp; simp at hp
 refine sr<|ad' 3 z z z fun R=>sg z z<|sg z z<|nr<|T' 6 z z216 z fun b2=>nx<|n'<|sr<|yy (o' 3 ag119 z z (Z' _ _ _)) z<|mv z z<|nx<|ak' (fun (o:Mem)=>match o with|E=>[(0,.slice P F.length Q),(3,.pointer (some ⟨R,0,none⟩))]) (fun (o:Mem)=>match o with|E=>Mem.le U E/\(Zay F g).Ret r) (fun (o:Mem)=>match o with|E=>St X U E [(3,some ⟨R,.cells (vecG (Value.int .i64) 8 g).toArray 119 (0,0),0⟩)]) ?_ ?_
 .refine C' ?_
  let ah:(((List Ze)×Int)⊕Unit)->Prop:=fun oo=>((fun ov=>match ov with | .inl rv1=>Cq.ret rv1 | .inr ()=>Zay F g:(((List Ze)×Int)⊕Unit)->Cq ((List Ze)×Int)) oo).wp (fun a=>a=r)
  replace hr:(Cq.loop _ _).wp ah:=hr
  refine al' (Φ:=ah) (fun (⟨s,H,J⟩:Int×(Fin 8->Bool)×Mem)=>((s,H):Int×(Fin 8->Bool))) (fun ⟨s,H,J⟩=>[(0,.slice P F.length Q),(3,.pointer (some ⟨R,0,none⟩)),(6,.pointer (some ⟨b2,0,none⟩)),(15,.agg (vecG (Value.int .i64) 8 g).toArray),(16,i' s)]) (fun ⟨s,H,J⟩=>Mem.le U J) (fun ⟨s,H,J⟩=>St X U J [(3,some ⟨R,.cells (vecG (Value.int .i64) 8 g).toArray 119 (0,0),0⟩),(6,some ⟨b2,.cells (vecG Value.bool 8 H).toArray 216 (0,0),0⟩)]) ⟨0,(fun _=>false),U⟩ hr (f5 z z z z z) mr (w2 z z) ?_
  .intro aX o hx hr
   obtain⟨s,H,J⟩:=o
   have Y:=hx
   refine sr<|yy (ag' z z) z<|nx<|n'<|L' hr z (fun aK hr=>?_) (fun aK hr=>?_)
   .refine q'<|g'<|n'<|C'<|sr ?_
    obtain⟨ar,hr⟩:=hr
    refine yy (Y0.index bc' sc3 sz3 z z ar (bj' _ _ _ ar)) z<|sg z z<|nx<|n'<|sr<|mv z z<|aa' hr z (ag' z z) z (fun aD hr=>?_) (fun aD hr=>?_)
    .refine mv z z<|sn2 z<|yy (h' z z) z<|mv z z<|sn3 z<|yy (h' z z) z<|nx<|R' z<|sr<|sg z z<|sg z z<|nx<|j'<|a'<|m'<|a'<|a'<|m'<|ae'<|a' ?_
     obtain rfl:_=r:=hr
     exact aC' z z z ⟨_,_,z,(V' I' _)⟩
    refine mv z z<|gy z z (e' z) z<|aa' hr (v' z z) (be' z z) z (fun aP hr=>?_) (fun aP hr=>?_)
    .refine yy (l' z z) z<|mv z z<|sn3 z<|yy (h' z z) z<|nx<|R' z<|sr<|sg z z<|sg z z<|nx<|j'<|a'<|m'<|a'<|a'<|m'<|ae'<|a' ?_
     obtain rfl:_=r:=hr
     exact aC' z z z ⟨_,_,z,(V' I' _)⟩
    refine yy (l' z z) z<|mv z z<|gy z z (e' z) z ?_
    obtain⟨am,hr⟩:=hr
    refine gy z z (bg' dO' sz4 z z am) z<|gy z z (f' 6 sc4 z z (bj' _ _ _ am)) z<|yy (l' z z) z<|nx<|aL' hr z (fun aJ hr=>?_) (fun aJ hr=>?_)
    .exact (show False from hr).elim
    refine q'<|g'<|A'<|mv z z ?_
    obtain⟨aE,hr⟩:=hr
    refine yy (bg' dO' sz4 z z aE) z<|aG' 6 (vecG Value.bool 8 (setF H ((getF g s).toNat) true)).toArray z sz4 z z z (by first|(rw[Z']; omega)|(show _<(vecG _ _ _).toArray.size; rw[Z']; omega)) z (cf' _ _ _ _ _)<|u'<|J'<|g'<|A'<|yy (W' z z) z<|mv z z<|u'<|X' ⟨i64.wrap (s+1),setF H ((getF g s).toNat) true,J⟩ hr Y (f5 z z z z z) (w2 z z)
   refine am'<|r'<|r'<|O'<|ao' J ⟨Y,hr⟩ (f2 z z) (w1 z)
 rintro E ⟨V,hr⟩
 refine g'<|sr<|WL.makeMap (ky:=ky120) (Rv:=RvA ee' E) 4033 z z fun T aj ax=>sg z z<|nx<|n'<|sr<|mv z z<|yy (M' ai' (ab.mono V) z) z<|mv z z<|nx<|ak' (fun (o:(List ((Fin 8->Int)×Zn))×Option Ow×Mem)=>match o with|⟨O,A,S⟩=>[(9,.map (some T))]) (fun (o:(List ((Fin 8->Int)×Zn))×Option Ow×Mem)=>match o with|⟨O,A,S⟩=>Mem.le E S/\MapR ky120 (RvA ee' S) (.map (some T)) O A/\(Za6 O).Ret r) (fun (o:(List ((Fin 8->Int)×Zn))×Option Ow×Mem)=>match o with|⟨O,A,S⟩=>St X U S [(4033,A)]) ?_ ?_
 .refine C' ?_
  let W:(((List ((Fin 8->Int)×Zn))))->Prop:=fun oo=>((fun ov=>match ov with|O=>Za6 O:(((List ((Fin 8->Int)×Zn))))->Cq ((List Ze)×Int)) oo).wp (fun a=>a=r)
  replace hr:(Cq.loop _ _).wp W:=hr
  refine al' (Φ:=W) (fun (o:Int×(List ((Fin 8->Int)×Zn))×Option Ow×Mem)=>match o with|⟨m,v,q,t⟩=>((m,v):Int×(List ((Fin 8->Int)×Zn)))) (fun (o:Int×(List ((Fin 8->Int)×Zn))×Option Ow×Mem)=>match o with|⟨m,v,q,t⟩=>[(3,.pointer (some ⟨R,0,none⟩)),(34,.slice P F.length Q),(35,i' (F.length:Int)),(36,i' m),(9,.map (some T))]) (fun (o:Int×(List ((Fin 8->Int)×Zn))×Option Ow×Mem)=>match o with|⟨m,v,q,t⟩=>Mem.le E t/\MapR ky120 (RvA ee' t) (.map (some T)) v q) (fun (o:Int×(List ((Fin 8->Int)×Zn))×Option Ow×Mem)=>match o with|⟨m,v,q,t⟩=>St X U t [(3,some ⟨R,.cells (vecG (Value.int .i64) 8 g).toArray 119 (0,0),0⟩),(4033,q)]) ⟨0,[],aj,E⟩ hr (f5 z z z z z) ⟨mr,ax⟩ (w2 z z) ?_
  .intro ap o hx hr
   obtain⟨m,v,q,t⟩:=o
   obtain⟨K,ae⟩:=hx
   refine sr<|yy (ag' z z) z<|nx<|n'<|L' hr z (fun aO hr=>?_) (fun aO hr=>?_)
   .refine q'<|g'<|n'<|C'<|sr ?_
    obtain⟨l,an,hr⟩:=hr
    refine yy (Q' ai' cd' (ab.mono (mt V K)) z z an) z ?_
    obtain⟨f,d,e,c,aF,D,B⟩:=dn' (H' (ab' ab an) (mt V K))
    refine yy (aA' _ ag133 z z aF) z<|T' 11 z z133 z fun b3=>s' 11 z cd' z z z z z (fun u hu=>Rp.one I' (G:=t) (x:=l) (cs:=((v130' l.c f d e c):List Value)++(vecG (Value.int .i64) 8 l.m)) ⟨(v130' l.c f d e c),vecG (Value.int .i64) 8 l.m,z,⟨(v128' l.c.num f d),(v128' l.c.den e c),z,⟨[.bool l.c.num.neg],[.slice f l.c.num.mag.length d],z,z,⟨_,z,D⟩⟩,⟨[.bool l.c.den.neg],[.slice e l.c.den.mag.length c],z,z,⟨_,z,B⟩⟩⟩,z⟩ u (by first|simpa using hu|simpa [Value.cells] using hu))<|nr<|T' 12 z z120 z fun b4=>nx<|n'<|sr<|yy (bz' z) z<|yy (aH' (vecG (Value.int .i64) 8 l.m).toArray 11 bP' z z (Z' _ _ _) (aT' ((v130' l.c f d e c)) (vecG (Value.int .i64) 8 l.m) ([]))) z<|mv z z<|nx<|ak' (fun (⟨y,M⟩:(Fin 8->Int)×Mem)=>[(3,.pointer (some ⟨R,0,none⟩)),(11,.pointer (some ⟨b3,0,none⟩)),(12,.pointer (some ⟨b4,0,none⟩)),(34,.slice P F.length Q),(35,i' (F.length:Int)),(36,i' m),(9,.map (some T))]) (fun ⟨y,M⟩=>Mem.le t M/\(Za7 m v l y).wp (Out ap W)) (fun ⟨y,M⟩=>St X U M [(3,some ⟨R,.cells (vecG (Value.int .i64) 8 g).toArray 119 (0,0),0⟩),(11,some ⟨b3,.cells (((v130' l.c f d e c):List Value)++(vecG (Value.int .i64) 8 l.m)).toArray 133 (0,0),0⟩),(12,some ⟨b4,.cells (vecG (Value.int .i64) 8 y).toArray 120 (0,0),0⟩),(4033,q)]) ?_ ?_
    .refine C' ?_
     let ai:(Fin 8->Int)->Prop:=fun oo=>((fun ov=>match ov with|y=>Za7 m v l y:(Fin 8->Int)->Cq ((Int×(List ((Fin 8->Int)×Zn)))⊕(((List ((Fin 8->Int)×Zn)))))) oo).wp (Out ap W)
     replace hr:(Cq.loop _ _).wp ai:=hr
     refine al' (Φ:=ai) (fun (⟨n,C,I⟩:Int×(Fin 8->Int)×Mem)=>((n,C):Int×(Fin 8->Int))) (fun ⟨n,C,I⟩=>[(3,.pointer (some ⟨R,0,none⟩)),(11,.pointer (some ⟨b3,0,none⟩)),(12,.pointer (some ⟨b4,0,none⟩)),(34,.slice P F.length Q),(35,i' (F.length:Int)),(36,i' m),(41,.agg (vecG (Value.int .i64) 8 l.m).toArray),(42,i' n),(9,.map (some T))]) (fun ⟨n,C,I⟩=>Mem.le t I) (fun ⟨n,C,I⟩=>St X U I [(3,some ⟨R,.cells (vecG (Value.int .i64) 8 g).toArray 119 (0,0),0⟩),(11,some ⟨b3,.cells (((v130' l.c f d e c):List Value)++(vecG (Value.int .i64) 8 l.m)).toArray 133 (0,0),0⟩),(12,some ⟨b4,.cells (vecG (Value.int .i64) 8 C).toArray 120 (0,0),0⟩),(4033,q)]) ⟨0,(fun _=>0),t⟩ hr (f9 z z z z z z z z z) mr (w4 z z z z) ?_
     .intro aW o hx hr
      obtain⟨n,C,I⟩:=o
      have Z:=hx
      refine sr<|yy (ag' z z) z<|nx<|n'<|L' hr z (fun aN hr=>?_) (fun aN hr=>?_)
      .refine q'<|g'<|n'<|C'<|sr<|mv z z ?_
       obtain⟨aq,hr⟩:=hr
       refine yy (Y0.index aN' sc3 sz3 z z aq (bj' _ _ _ aq)) z<|sg z z<|sg z z<|nx<|A'<|mv z z ?_
       obtain⟨ao,hr⟩:=hr
       refine yy (bg' bc' sz3 z z ao) z<|yy (f' 3 sc3 z z (bj' _ _ _ ao)) z<|mv z z ?_
       obtain⟨aC,hr⟩:=hr
       refine yy (bg' aN' sz3 z z aC) z<|aG' 12 (vecG (Value.int .i64) 8 (setF C ((getF g n).toNat) (getF l.m n))).toArray z sz3 z z z (by first|(rw[Z']; omega)|(show _<(vecG _ _ _).toArray.size; rw[Z']; omega)) z (cf' _ _ _ _ _)<|u'<|J'<|g'<|A'<|yy (W' z z) z<|mv z z<|u'<|X' ⟨i64.wrap (n+1),setF C ((getF g n).toNat) (getF l.m n),I⟩ hr Z (f9 z z z z z z z z z) (w4 z z z z)
      refine am'<|r'<|r'<|O'<|ao' ⟨C,I⟩ ⟨Z,hr⟩ (f7 z z z z z z z) (w4 z z z z)
    rintro⟨y,M⟩ ⟨L,hr⟩
    refine g'<|A'<|mv z z<|yy (o' 12 bP' z z (Z' _ _ _)) z<|yy (cM' z) z<|yy (aH' ((v130' l.c f d e c)).toArray 11 cN' z z z (aT' ([]) ((v130' l.c f d e c)) ((vecG (Value.int .i64) 8 l.m)))) z ?_
    obtain⟨⟨aI,au⟩,hr⟩:=hr
    refine WL.mapPut (Rv':=RvA ee' M) (k:=y) (z:=l.c) 4033 z ev' (MapR.monoA ae L) z z z z aI ⟨(v130' l.c f d e c),z,⟨(v128' l.c.num f d),(v128' l.c.den e c),z,⟨[.bool l.c.num.neg],[.slice f l.c.num.mag.length d],z,z,⟨_,z,(D.mono L)⟩⟩,⟨[.bool l.c.den.neg],[.slice e l.c.den.mag.length c],z,z,⟨_,z,(B.mono L)⟩⟩⟩⟩ (fun _ _ _ _ h=>h) au fun aH aA=>u'<|J'<|g'<|A'<|yy (W' z z) z<|mv z z<|u'<|X' ⟨i64.wrap (m+1),(mput v y l.c),aH,M⟩ hr ⟨(mt K L),aA⟩ (f5 z z z z z) (w2 z z)
   refine am'<|r'<|r'<|O'<|ao' ⟨v,q,t⟩ ⟨K,ae,hr⟩ (f1 z) (w1 z)
 rintro⟨O,A,S⟩ ⟨aQ,ay,hr⟩
 refine g'<|sr<|mv z z ?_
 obtain⟨aY,aw,hr⟩:=hr
 refine bH' (fun w hs=>hs.rekey (i:=4033) (j:=5500) z (by rw[ad]; rfl))<|WL.callRO z z (t' E195 z) (fg' aw) z (ay) (lc z ln) (fun i hi=>by simp only[List.map_cons,List.map_nil,List.mem_cons,List.not_mem_nil,or_false] at hi; subst hi; exact z) hz (fun aU aZ aR aa=>?_)
 obtain⟨aS,aT,rfl,aB⟩:=aa
 refine bH' (fun w hs=>hs.rekey (i:=5500) (j:=4033) z (by rw[ad]; rfl))<|sg z z<|sg z z<|nx<|j' ?_
 obtain rfl:_=r:=hr
 exact aC' z z z ⟨_,_,z,aB⟩
theorem fA'{f c g k p r}(hr:(Ze7 f c).Ret r):CtrL prog 168 #[.agg ((v110' f.id g f.p k)).toArray,.pointer (some ⟨p,0,none⟩)] [(125603,some ⟨p,.cells (vecG (Value.int .i64) 8 c).toArray 119 (0,0),0⟩)] (fun G=>sl I' G g k f.p) (fun G L v=>L=[(125603,some ⟨p,.cells (vecG (Value.int .i64) 8 c).toArray 119 (0,0),0⟩)]/\(∃ m l,v = .agg ((v110' r.id m r.p l)).toArray/\sl I' G m l r.p)):=by
 refine bf' (args:=[_,_]) (N:=13) func168 z z z (fun A C y n=>?_)
 have q:=n
 refine sr<|ad' 2 z z z fun B=>T' 3 z z110 z fun D=>nr<|yy (bT' z) z<|yy (f' 2 cA' z z z) z<|yy (o' 125603 ag119 z z (Z' _ _ _)) z ?_
 obtain⟨s,o,hr⟩:=hr
 refine P' z z (t' E169 z) (eT' o) z (q) (fun u x t d=>?_)
 obtain⟨e,j,rfl,h⟩:=d
 refine mv z z<|yy (y' z z) z<|yy (y' z z) z<|yy (bT' z) z<|aG' 2 ([i' f.id,.slice e s.1.length j]).toArray z sz46 z z z (show 1<2 by decide) z z<|nr<|yy (o' 2 bJ' z z z) z<|s' 3 z aR' z z z z z (List.all_eq_true.1 z)<|nx<|j' ?_
 obtain rfl:_=r:=hr
 exact WE.retW1 z (ac' (i:=3) bJ' z z z) (lc z ln) ⟨z,⟨_,_,z,h⟩⟩
theorem ct'{f h F E u r}(hr:(ZI f h).Ret r):CtrL prog 145 #[.slice F f.length E,.func (.func 168) #[] #[.pointer (some ⟨u,0,none⟩)]] [(125603,some ⟨u,.cells (vecG (Value.int .i64) 8 h).toArray 119 (0,0),0⟩)] (fun G=>sl b' G F E f) (fun G L v=>L=[(125603,some ⟨u,.cells (vecG (Value.int .i64) 8 h).toArray 119 (0,0),0⟩)]/\(∃ Y zc,v = .slice Y r.length zc/\sl b' G Y zc r)):=by
 refine bf' (args:=[_,_]) (N:=26) func145 z z z (fun J C Q R=>?_)
 have A:=R
 have hz:J.L.zero:=by
  rw[Q]; intro p hp x W
  simp only[List.mem_cons,List.not_mem_nil,or_false] at hp
  subst hp; cases W; rfl
 refine sr<|sg z z<|nr<|mv z z<|yy (M' w' A z) z ?_
 obtain⟨ae,hr⟩:=hr
 refine dP' (r:=b') (e:=110) (n:=(f.length:Int)) (zx:=(Zb.mk 0 [])) 4010 z z w' el110 z (by decide) (by decide) ⟨[i' 0],[.slice none 0 0],z,z,⟨_,z,(V' _ _)⟩⟩ z z ae fun K T af=>sg z z<|nx<|n'<|sr<|mv z z<|yy (M' w' A z) z<|mv z z<|nx<|ak' (fun (⟨m,g,q⟩:(List Zb)×Option Ow×Mem)=>[(5,.slice K (f.length:Int).toNat ((f.length:Int).toNat))]) (fun ⟨m,g,q⟩=>Mem.le C q/\RowR b' 110 q (.slice K (f.length:Int).toNat ((f.length:Int).toNat)) m g/\(ZO m).Ret r) (fun ⟨m,g,q⟩=>St J C q [(125603,some ⟨u,.cells (vecG (Value.int .i64) 8 h).toArray 119 (0,0),0⟩),(4010,g)]) ?_ ?_
 .refine C' ?_
  let I:(List Zb)->Prop:=fun oo=>((fun ov=>match ov with|m=>ZO m:(List Zb)->Cq (List Zb)) oo).wp (fun a=>a=r)
  replace hr:(Cq.loop _ _).wp I:=hr
  refine al' (Φ:=I) (fun (⟨j,d,c,k⟩:(List Zb)×Option Ow×Int×Mem)=>((j,c):(List Zb)×Int)) (fun ⟨j,d,c,k⟩=>[(1,.func (.func 168) #[] #[.pointer (some ⟨u,0,none⟩)]),(5,.slice K (f.length:Int).toNat ((f.length:Int).toNat)),(11,.slice F f.length E),(12,i' (f.length:Int)),(13,i' c)]) (fun ⟨j,d,c,k⟩=>Mem.le C k/\RowR b' 110 k (.slice K (f.length:Int).toNat ((f.length:Int).toNat)) j d) (fun ⟨j,d,c,k⟩=>St J C k [(125603,some ⟨u,.cells (vecG (Value.int .i64) 8 h).toArray 119 (0,0),0⟩),(4010,d)]) ⟨(List.replicate (f.length:Int).toNat (Zb.mk 0 [])),T,0,C⟩ hr (f5 z z z z z) ⟨mr,af⟩ (w2 z z) ?_
  .intro au gx W hr
   obtain⟨j,d,c,k⟩:=gx
   obtain⟨l,t⟩:=W
   refine sr<|yy (ag' z z) z<|nx<|n'<|L' hr z (fun ag hr=>?_) (fun ag hr=>?_)
   .refine q'<|g'<|n'<|C'<|sr<|mv z z ?_
    obtain⟨x1,O,hr⟩:=hr
    refine yy (Q' w' aR' (A.mono l) z z O) z ?_
    obtain⟨ap,ar,ab,U⟩:=bp' (H' (ab' A O) l)
    refine yy (aA' _ bJ' z z ab) z<|T' 7 z z110 z fun b2=>sg z z<|s' 7 z aR' z z z z z (List.all_eq_true.1 z)<|nx<|A'<|mv z z<|mv z z<|mv z z<|yy (o' 7 bJ' z z z) z ?_
    obtain⟨o,S,hr⟩:=hr
    refine WL.callRO z z (dh' E168 z z) (fA' S) z (U) (lc z ln) (fun i hi=>by simp only[List.map_cons,List.map_nil,List.mem_cons,List.not_mem_nil,or_false] at hi; subst hi; exact z) hz (fun aq Z s D=>?_)
    obtain⟨B,y,rfl,M⟩:=D
    obtain⟨x2,P,hr⟩:=hr
    refine yy (ba' w' aR' (t.mono s) z z P) z<|bv' (r:=b') (e:=110) (cs':=(v110' o.id B o.p y)) (i:=c) (z':=o) 4010 z aR' z (t.mono s) z z z z ⟨[i' o.id],[.slice B o.p.length y],z,z,⟨_,z,M⟩⟩ P fun ai X=>u'<|J'<|g'<|A'<|yy (W' z z) z<|mv z z<|u'<|X' ⟨(j.set c.toNat o),ai,i64.wrap (c+1),Z⟩ hr ⟨(mt l s),X⟩ (f5 z z z z z) (w2 z z)
   refine am'<|r'<|r'<|O'<|ao' ⟨j,d,k⟩ ⟨l,t,hr⟩ (f1 z) (w2 z z)
 rintro⟨m,g,q⟩ ⟨aj,V,hr⟩
 refine g'<|sr<|mv z z<|sg z z<|nx<|j' ?_
 obtain rfl:_=r:=hr
 refine WE.freezeT (r:=b') (e:=110) 4010 V z (by rw[Q]; rfl) fun av aa ak H al=>aJ' (S':=St J C aa [(125603,some ⟨u,.cells (vecG (Value.int .i64) 8 h).toArray 119 (0,0),0⟩)]) (w1 z)<|k' z z ⟨z,⟨_,_,(dj' H),(de' H)⟩⟩
theorem ep'{m l e g o n j k r}(hr:(ZbJ m l).Ret r):Ctr prog 128 #[.agg ((v31' m e g o n j k)).toArray,.agg (vecG (Value.int .i64) 8 l).toArray] (fun G=>sl Rp.str G e g m.vars/\sl b' G o n m.eqs/\sl b' G j k m.neqs) (w31' r):=by
 refine E' (args:=[_,_]) (N:=18) func128 z z z (fun S G0 R L=>?_)
 obtain⟨C,H,A⟩:=L
 have hz:S.L.zero:=by rw[R]; intro p U; simp at U
 refine sr<|ad' 2 z z z fun b1=>ad' 125603 z z z fun P=>T' 4 z z31 z fun b3=>nr<|yy (bO' z z) z<|sg z z<|nx<|n'<|ah' [ff,ff,ff,ff,ff,ff,ff,ff,ff] mix (by kernel_rfl) fun hb=>cn (fun _ c=>aX' z)<|cn (fun _ c=>f' 2 bq' z z z)<|cn (fun _ c=>e' z) ?_
 obtain⟨y,O,hr⟩:=hr
 refine ez' (f:=145) (φ:=wl' b' y) (L1:=[(125603,some ⟨P,.cells (vecG (Value.int .i64) 8 l).toArray 119 (0,0),0⟩)]) (fun _=>z) (fun v W X c h=>?_) (lc z ln) (fun i F=>by simp only[List.map_cons,List.map_nil,List.mem_cons,List.not_mem_nil,or_false] at F; subst F; exact z) hz (fun u V c Q=>?_) ?_
 .obtain⟨t,q,rfl,s⟩:=h
  exact⟨_,_,z,s.mono c⟩
 .exact⟨_,_,_,fun _=>t' E145 z,ct' O,z,(H.mono c)⟩
 refine cu (fun _ _ c=>aZ' z)<|cu (fun _ _ c=>f' 2 bq' z z z)<|cu (fun _ _ c=>e' z) ?_
 obtain⟨I,M,hr⟩:=hr
 refine ez' (f:=145) (φ:=wl' b' I) (L1:=[(125603,some ⟨P,.cells (vecG (Value.int .i64) 8 l).toArray 119 (0,0),0⟩)]) (fun _=>z) (fun v W X c h=>?_) (lc z ln) (fun i F=>by simp only[List.map_cons,List.map_nil,List.mem_cons,List.not_mem_nil,or_false] at F; subst F; exact z) hz (fun u V c Q=>?_) ?_
 .obtain⟨E,J,rfl,x⟩:=h
  exact⟨_,_,z,x.mono c⟩
 .obtain⟨_,_⟩:=(show True/\True from Q)
  exact⟨_,_,_,fun _=>t' E145 z,ct' M,z,(A.mono c)⟩
 refine cu (fun _ _ c=>aX' z)<|dt' (d:=14) (post:=wl' b' I) (d':=10) (post':=wl' b' y) (fun Y T Z K B D=>?_)
 obtain⟨E,J,rfl,x⟩:=B
 obtain⟨t,q,rfl,s⟩:=D
 refine aG' 2 ([.slice e m.vars.length g,.slice t y.length q,.slice j m.neqs.length k,i' m.next]).toArray z sz29 z z z (show 1<4 by decide) z z<|yy (aZ' z) z<|aG' 2 ([.slice e m.vars.length g,.slice t y.length q,.slice E I.length J,i' m.next]).toArray z sz29 z z z (show 2<4 by decide) z z<|u'<|aq'<|g'<|sr<|yy (o' 2 ar' z z z) z<|s' 4 z aU' z z z z z (List.all_eq_true.1 z)<|nx<|j' ?_
 obtain rfl:_=r:=hr
 exact k' z (ac' (i:=4) ar' z z z) ⟨_,_,_,_,_,_,z,(C.mono K),s,x⟩
theorem cl'{o c f r}(hr:(ZL o).Ret r):CtrL prog 130 #[.slice c o.length f] [] (fun G=>sl Rp.str G c f o) (fun G L v=>∃ t y g,L=[(7000,g)]/\v = .slice t r.length y/\RowR Rp.str 9 G (.slice t r.length y) r g):=by
 refine bf' (args:=[_]) (N:=8) func130 z z z (fun s d A l=>?_)
 have k:=l
 refine sr<|sg z z<|nx<|n'<|sr<|mv z z<|yy (Y0.eqlNil F' z z) z<|nx<|dA' (p:=c=none) z (fun h=>?_) (fun h=>?_)
 .replace hr:=hr.1 (SlR.Zji k h)
  refine sr<|sg z z<|nx<|j'<|a' ?_
  obtain rfl:_=r:=hr
  refine aJ' (S':=St s d d [(7000,none)]) (wk (lw ln))<|k' z z ⟨_,_,_,z,z,(RowR.nil (r:=Rp.str) (e:=9))⟩
 replace hr:=hr.2
 refine q'<|g'<|sr<|WL.litT (e:=9) (r:=Rp.str) (vs:=#[]) (cs:=[]) ([]:List ByteArray) 4005 z z z z z (by decide) (fun _=>by kernel_rfl) (z) fun D B x=>mv z z ?_
 obtain⟨n,hr⟩:=hr
 refine cx' (r:=Rp.str) (e:=9) 4005 z z F' el9 z (by decide) z z x z k n fun E C m u=>sg z z<|nx<|j' ?_
 obtain rfl:_=r:=hr
 refine aJ' (S':=St s d d [(7000,m)]) ?_ ?_
 .intro w q
  have q:=q.rekey (i:=4005) (j:=7000) z (by rw[A]; rfl)
  exact q.weaken (lc z ln)
 exact k' z z ⟨_,_,_,z,z,u⟩
theorem gs'{l c o q t s k h g d r}(hr:(ZfE l c).Ret r):Ctr prog 85 #[.agg ((v31' l o q t s k h)).toArray,.agg ((v48' c g d)).toArray] (fun G=>sl Rp.str G o q l.vars/\sl b' G t s l.eqs/\sl b' G k h l.neqs/\sl I' G g d c.p) (w31t' r):=by
 refine E' (args:=[_,_]) (N:=55) func85 z z z (fun w0 V H aP=>?_)
 obtain⟨D,T,L,ac⟩:=aP
 have hz:w0.L.zero:=by rw[H]; intro p hp; simp at hp
 refine sr<|ad' 117002 z z z fun b1=>ad' 117003 z z z fun b2=>T' 4 z z31 z fun b3=>sg z z<|nr<|yy (aF' z) z<|yy (f' 117002 bA' z z z) z<|yy (M' F' D z) z<|T' 117006 z z3 z fun b4=>aG' 117006 ([i' (l.vars.length:Int)]).toArray z sz3 z z z (by first|decide|simp) z z<|nx<|n'<|bC' 117006 z (by rw[H]; rfl) fun bU y ar aO=>bC' 117003 z (by rw[H]; rfl) fun bT n aD aM=>bC' 117002 z (by rw[H]; rfl) fun bg A aN a2=>A'<|yy (bO' z z) z ?_
 obtain⟨bc,aR,hr⟩:=hr
 refine P' z z (t' E121 z) (bx' aR) z ((show FnRd prog fa0 foB bg (.func (.func 122) #[] #[.pointer (some ⟨b4,0,none⟩)]) () (fun _=>ZaI (l.vars.length:Int)) from (dq' E122 (fun x W=>dr' (fk' _ _ x W) (fun G' m=>(H' (ch' (r:=(Rp.int .i64)) (cs:=[i' (l.vars.length:Int)]) ar z z) (mt (mt n A) m))))))) (fun bH bf B ah=>?_)
 obtain⟨bA,bu,rfl,aC⟩:=ah
 refine yy (bO' z z) z ?_
 obtain⟨a9,aK,hr⟩:=hr
 refine P' z z (t' E121 z) (bx' aK) z ((show FnRd prog fa0 foB bf (.func (.func 123) #[] #[.pointer (some ⟨b2,0,none⟩),.pointer (some ⟨b4,0,none⟩)]) () (fun _=>Zan c (l.vars.length:Int)) from (dq' E123 (fun x W=>dr' (fm' _ _ _ _ x W) (fun G' m=>⟨(H' (ch' (r:=af') (cs:=(v48' c g d)) aD z ⟨[i' c.kind],[.string c.name,i' c.at',i' c.to',i' c.id,.slice g c.p.length d,.bool c.neq],z,z,⟨[.string c.name],[i' c.at',i' c.to',i' c.id,.slice g c.p.length d,.bool c.neq],z,z,⟨[i' c.at'],[i' c.to',i' c.id,.slice g c.p.length d,.bool c.neq],z,z,⟨[i' c.to'],[i' c.id,.slice g c.p.length d,.bool c.neq],z,z,⟨[i' c.id],[.slice g c.p.length d,.bool c.neq],z,z,⟨[.slice g c.p.length d],[.bool c.neq],z,⟨_,z,(ac.mono (mt y n))⟩,z⟩⟩⟩⟩⟩⟩) (mt (mt A B) m)),(H' (ch' (r:=(Rp.int .i64)) (cs:=[i' (l.vars.length:Int)]) ar z z) (mt (mt (mt n A) B) m))⟩))))) (fun bN bi I ag=>?_)
 obtain⟨br,bG,rfl,ax⟩:=ag
 refine yy (bO' z z) z ?_
 obtain⟨bh,a5,hr⟩:=hr
 have N1:=mt (mt y n) A
 refine P' z z (t' E121 z) (bx' a5) z ((show FnRd prog fa0 foB bi (.func (.func 124) #[] #[.pointer (some ⟨b2,0,none⟩),.pointer (some ⟨b1,0,none⟩)]) () (fun _=>ZaJ c l) from (dq' E124 (fun x W=>dr' (fo' _ _ _ _ x W) (fun G' m=>⟨(H' (ch' (r:=af') (cs:=(v48' c g d)) aD z ⟨[i' c.kind],[.string c.name,i' c.at',i' c.to',i' c.id,.slice g c.p.length d,.bool c.neq],z,z,⟨[.string c.name],[i' c.at',i' c.to',i' c.id,.slice g c.p.length d,.bool c.neq],z,z,⟨[i' c.at'],[i' c.to',i' c.id,.slice g c.p.length d,.bool c.neq],z,z,⟨[i' c.to'],[i' c.id,.slice g c.p.length d,.bool c.neq],z,z,⟨[i' c.id],[.slice g c.p.length d,.bool c.neq],z,z,⟨[.slice g c.p.length d],[.bool c.neq],z,⟨_,z,(ac.mono (mt y n))⟩,z⟩⟩⟩⟩⟩⟩) (mt (mt (mt A B) I) m)),(H' (ch' (r:=aP') (cs:=(v31' l o q t s k h)) aN z ⟨[.slice o l.vars.length q],[.slice t l.eqs.length s,.slice k l.neqs.length h,i' l.next],z,⟨_,z,(D.mono N1)⟩,⟨[.slice t l.eqs.length s],[.slice k l.neqs.length h,i' l.next],z,⟨_,z,(T.mono N1)⟩,⟨[.slice k l.neqs.length h],[i' l.next],z,⟨_,z,(L.mono N1)⟩,z⟩⟩⟩) (mt (mt B I) m))⟩))))) (fun bq bR P al=>?_)
 obtain⟨bJ,bs,rfl,av⟩:=al
 obtain⟨az,ab,rfl⟩:=ce' aC
 obtain⟨ae,M,rfl⟩:=ce' ax
 obtain⟨S,J,rfl⟩:=ce' av
 refine bd' (e:=178) (r:=(Rp.fn prog fa0 foI)) (vs:=#[(0,(.func (.func az) #[] ab)),(1,(.func (.func ae) #[] M)),(2,(.func (.func S) #[] J))]) (cs:=[(.func (.func az) #[] ab)]++([(.func (.func ae) #[] M)]++([(.func (.func S) #[] J)]++([])))) ([bc,a9,bh]:List (Unit->Cq Int)) z z z z z (by decide) (fun _=>by kernel_rfl) ⟨[(.func (.func az) #[] ab)],[(.func (.func ae) #[] M)]++([(.func (.func S) #[] J)]++([])),z,⟨_,z,(aC.mono (mt I P))⟩,⟨[(.func (.func ae) #[] M)],[(.func (.func S) #[] J)]++([]),z,⟨_,z,(ax.mono P)⟩,⟨[(.func (.func S) #[] J)],[],z,⟨_,z,av⟩,z⟩⟩⟩ (key:=999) z (by rw[H]; rfl) (fun p1 bO aJ a7=>?_)
 obtain⟨bV,aS,hr⟩:=hr
 refine D' z z (t' E120 z) (cP' aS) z (a7)<|sg z z<|da' 117002 z a2 (mt y n) (mt (mt (mt (mt A B) I) P) aJ)<|da' 117003 z aM y n<|da' 117006 z aO mr y<|nx<|n'<|sr<|mv z z<|yy (av' z z) z<|nx<|L' hr z (fun bk hr=>?_) (fun bk hr=>?_)
 .refine sr<|yy (aw' (vs:=#[]) (v:=.agg ([.slice none 0 0,.slice none 0 0,.slice none 0 0,i' 0]).toArray) z z (fun _=>by kernel_rfl)) z<|mv z z<|s' 4 z aU' z z z z z (List.all_eq_true.1 z)<|sg z z<|nx<|j'<|a' ?_
  obtain rfl:_=r:=hr
  exact aC' z (ac' (i:=4) ar' z z z) z ⟨_,_,_,_,_,_,z,(V' Rp.str _),(V' b' _),(V' b' _)⟩
 refine q'<|g'<|sr ?_
 obtain⟨aw,aX,hr⟩:=hr
 refine D' z z (t' E127 z) (ed' aX) z (trivial)<|T' 8 z z119 z fun b5=>s' 8 z sz119 z z z (Z' _ _ _) (Z' _ _ _) (fun u hu=>Rp.one (dv' .i64 8) (G:=V) (x:=aw) (cs:=vecG (Value.int .i64) 8 aw) z u (by first|simpa using hu|simpa [Value.cells] using hu))<|nx<|n'<|sr<|yy (aI' z) z<|yy (f' 117003 sc3 z z z) z<|sg z z<|nx<|ak' (fun (⟨E,U⟩:(Fin 8->Int)×Mem)=>[(2,.pointer (some ⟨b1,0,none⟩)),(3,.pointer (some ⟨b2,0,none⟩)),(4,.pointer (some ⟨b3,0,none⟩)),(6,.pointer (some ⟨b4,0,none⟩)),(8,.pointer (some ⟨b5,0,none⟩))]) (fun ⟨E,U⟩=>Mem.le V U/\(Zdi l c E).Ret r) (fun ⟨E,U⟩=>St w0 V U [(117002,some ⟨b1,.cells ((v31' l o q t s k h)).toArray 31 (0,0),0⟩),(117003,some ⟨b2,.cells ((v48' c g d)).toArray 48 (0,0),0⟩),(4,some ⟨b3,.cells ([.slice none 0 0,.slice none 0 0,.slice none 0 0,i' 0]).toArray 31 (0,0),0⟩),(117006,some ⟨b4,.cells ([i' (l.vars.length:Int)]).toArray 3 (0,0),0⟩),(8,some ⟨b5,.cells (vecG (Value.int .i64) 8 E).toArray 119 (0,0),0⟩)]) ?_ ?_
 .refine C' ?_
  let aA:(Fin 8->Int)->Prop:=fun oo=>((fun ov=>match ov with|E=>Zdi l c E:(Fin 8->Int)->Cq (Za×Int)) oo).wp (fun a=>a=r)
  replace hr:(Cq.loop _ _).wp aA:=hr
  refine al' (Φ:=aA) (fun (⟨K,C,F⟩:Int×(Fin 8->Int)×Mem)=>((K,C):Int×(Fin 8->Int))) (fun ⟨K,C,F⟩=>[(2,.pointer (some ⟨b1,0,none⟩)),(3,.pointer (some ⟨b2,0,none⟩)),(4,.pointer (some ⟨b3,0,none⟩)),(6,.pointer (some ⟨b4,0,none⟩)),(8,.pointer (some ⟨b5,0,none⟩)),(9,i' K)]) (fun ⟨K,C,F⟩=>Mem.le V F) (fun ⟨K,C,F⟩=>St w0 V F [(117002,some ⟨b1,.cells ((v31' l o q t s k h)).toArray 31 (0,0),0⟩),(117003,some ⟨b2,.cells ((v48' c g d)).toArray 48 (0,0),0⟩),(4,some ⟨b3,.cells ([.slice none 0 0,.slice none 0 0,.slice none 0 0,i' 0]).toArray 31 (0,0),0⟩),(117006,some ⟨b4,.cells ([i' (l.vars.length:Int)]).toArray 3 (0,0),0⟩),(8,some ⟨b5,.cells (vecG (Value.int .i64) 8 C).toArray 119 (0,0),0⟩)]) ⟨c.at',aw,V⟩ hr (f6 z z z z z z) mr (w5 z z z z z) ?_
  .intro bS gx W hr
   obtain⟨K,C,F⟩:=gx
   have ad:=W
   refine n'<|sr<|mv z z<|yy (f' 117006 sc3 z z z) z<|yy (ag' z z) z<|nx<|L' hr z (fun bj hr=>?_) (fun bj hr=>?_)
   .refine q'<|g'<|n'<|C'<|A'<|mv z z<|mv z z<|yy (W' z z) z ?_
    obtain⟨a6,hr⟩:=hr
    refine yy (bg' bc' sz3 z z a6) z<|aG' 8 (vecG (Value.int .i64) 8 (setF C K.toNat (i64.wrap (K+1)))).toArray z sz3 z z z (by first|(rw[Z']; omega)|(show _<(vecG _ _ _).toArray.size; rw[Z']; omega)) z (cf' _ _ _ _ _)<|u'<|J'<|g'<|A'<|mv z z<|yy (W' z z) z<|sg z z<|u'<|X' ⟨i64.wrap (K+1),setF C K.toNat (i64.wrap (K+1)),F⟩ hr ad (f6 z z z z z z) (w5 z z z z z)
   refine am'<|r'<|r'<|O'<|ao' ⟨C,F⟩ ⟨ad,hr⟩ (f5 z z z z z) (w5 z z z z z)
 rintro⟨E,U⟩ ⟨O,hr⟩
 refine g'<|sr<|yy (f' 117006 sc3 z z z) z<|yy (aI' z) z<|yy (f' 117003 sc3 z z z) z ?_
 obtain⟨be,hr⟩:=hr
 refine yy (bg' bc' sz3 z z be) z<|aG' 8 (vecG (Value.int .i64) 8 (setF E ((l.vars.length:Int).toNat) c.at')).toArray z sz3 z z z (by first|(rw[Z']; omega)|(show _<(vecG _ _ _).toArray.size; rw[Z']; omega)) z (cf' _ _ _ _ _)<|nr<|yy (o' 117002 ar' z z z) z<|yy (o' 8 ag119 z z (Z' _ _ _)) z ?_
 obtain⟨aB,aU,hr⟩:=hr
 refine P' z z (t' E128 z) (ep' aU) z (⟨(D.mono O),(T.mono O),(L.mono O)⟩) (fun bp bx ba aj=>?_)
 obtain⟨a0,aY,ap,am,X,aa,rfl,Z,ai,Y⟩:=aj
 refine s' 117002 z aU' z z z z z (List.all_eq_true.1 z)<|nx<|n'<|ah' [ff,ff,ff,ff,ff,ff,ff,ff] mix (by kernel_rfl) fun hb=>cn (fun _ m=>aF' z)<|cn (fun _ m=>f' 117002 bA' z z z) ?_
 obtain⟨bb,aW,hr⟩:=hr
 refine Chain.callOwn (f:=130) (r:=Rp.str) (e:=9) (xs:=bb) (fun _=>z) (fun u G' m hu=>?_) ?_
 .exact⟨_,_,_,fun _=>t' E130 z,cl' aW,z,(Z.mono m)⟩
 refine cu (fun _ _ m=>aI' z)<|cu (fun _ _ m=>f' 117003 sc3 z z z)<|cu (fun _ _ m=>bW' z)<|cu (fun _ _ m=>f' 117003 sc9 z z z)<|Chain.litU (r:=Rp.str) (e:=9) ([c.name]:List ByteArray) (fun _=>z) z (by decide) (fun u G' m hu=>?_) ?_
 .exact⟨#[(0,.string c.name)],[.string c.name]++([]),z,z,fun _=>by kernel_rfl,⟨[.string c.name],[],z,z,z⟩⟩
 refine ef' (fun bB bD X1 ay aq an=>?_)
 obtain⟨p2,bP,rfl,bd⟩:=aq
 refine WL.adoptR an (fun bM bK bm aL a3 bC=>?_)
 subst aL
 refine cj' (show WL _ _ _ _ _ _ (St w0 V X1.m _) from ?_)
 obtain⟨a8,aQ,hr⟩:=hr
 refine bH' (fun w hs=>hs.rekey (i:=46) (j:=5000) z (by rw[H]; rfl))<|cJ' z z (t' E129 z) (el' aQ) z (⟨a3,bd⟩) (lc z ln) hz (fun bE bL bw R af=>?_)
 obtain⟨aV,aT,bn,rfl,rfl,a4⟩:=af
 refine bH' (fun w hs=>hs.rekey (i:=5000) (j:=4052) z (by rw[H]; rfl))<|bM' (r:=Rp.str) (e:=9) 4052 a4 z (by rw[H]; rfl) fun bQ bo Q a1 bl=>yy (aF' z) z<|aG' 117002 ([.slice aV a8.length aT,.slice ap aB.eqs.length am,.slice X aB.neqs.length aa,i' aB.next]).toArray z sz28 z z z (show 0<4 by decide) z z<|u'<|aq'<|g'<|sr<|yy (o' 117002 ar' z z z) z<|s' 4 z aU' z z z z z (List.all_eq_true.1 z)<|sg z z<|nx<|j' ?_
 obtain rfl:_=r:=hr
 exact aC' z (ac' (i:=4) ar' z z z) z ⟨_,_,_,_,_,_,z,a1,(ai.mono (mt (mt ay R) Q)),(Y.mono (mt (mt ay R) Q))⟩
theorem cw'{g s q r}(hr:(ZT g).Ret r):Ctr prog 132 #[.slice s g.length q] (fun G=>sl (Rp.sl b') G s q g) (wl' b' r):=by
 refine E' (args:=[_]) (N:=36) func132 z z z (fun O K L Y=>?_)
 have o:=Y
 have hz:O.L.zero:=by rw[L]; intro p hp; simp at hp
 refine sr<|sg z z<|nr<|sg z z<|nx<|n'<|sr<|mv z z<|yy (M' ci' o z) z<|mv z z<|nx<|ak' (fun (⟨x,J⟩:Int×Mem)=>[(0,.slice s g.length q),(3,i' x)]) (fun ⟨x,J⟩=>Mem.le K J/\(ZD g x).Ret r) (fun ⟨x,J⟩=>St O K J []) ?_ ?_
 .refine C' ?_
  let S:Int->Prop:=fun oo=>((fun ov=>match ov with|x=>ZD g x:Int->Cq (List Zb)) oo).wp (fun a=>a=r)
  replace hr:(Cq.loop _ _).wp S:=hr
  refine al' (Φ:=S) (fun (⟨t,u,B⟩:Int×Int×Mem)=>((t,u):Int×Int)) (fun ⟨t,u,B⟩=>[(0,.slice s g.length q),(3,i' t),(9,.slice s g.length q),(10,i' (g.length:Int)),(11,i' u)]) (fun ⟨t,u,B⟩=>Mem.le K B) (fun ⟨t,u,B⟩=>St O K B []) ⟨0,0,K⟩ hr (f5 z z z z z) mr (wk ln) ?_
  .intro aE Z X hr
   obtain⟨t,u,B⟩:=Z
   have D:=X
   refine sr<|yy (ag' z z) z<|nx<|n'<|L' hr z (fun aq hr=>?_) (fun aq hr=>?_)
   .refine q'<|g'<|n'<|C'<|sr ?_
    obtain⟨x2,V,hr⟩:=hr
    refine yy (Q' ci' sz29 (o.mono D) z z V) z ?_
    obtain⟨p3,aD,al,ai⟩:=bG' (H' (ab' o V) D)
    refine yy (Y' bq' z (al)) z<|sg z z<|nr<|mv z z<|mv z z<|yy (M' w' ai z) z<|yy (W' z z) z<|sg z z<|nr<|mv z z<|yy (ag' z z) z<|nx<|L' hr z (fun ap hr=>?_) (fun ap hr=>?_)
    .exact (show False from hr).elim
    refine q'<|J'<|g'<|A'<|yy (W' z z) z<|mv z z<|u'<|X' ⟨i64.wrap (t+(x2.length:Int)),i64.wrap (u+1),B⟩ hr D (f5 z z z z z) (wk ln)
   refine am'<|r'<|r'<|O'<|ao' ⟨t,B⟩ ⟨D,hr⟩ (f2 z z) (wk ln)
 rintro⟨x,J⟩ ⟨H,hr⟩
 refine g'<|sr<|mv z z ?_
 obtain⟨an,aa,hr⟩:=hr
 refine cJ' z z (t' E172 z) (do' aa) z trivial ln hz (fun aB R ax I M=>?_)
 obtain⟨ad,ae,T,rfl,rfl,ah⟩:=M
 refine bH' (fun w P=>P.rekey (i:=7000) (j:=4024) z (by rw[L]; rfl))<|sg z z<|nx<|n'<|sr<|mv z z<|yy (M' ci' (o.mono (mt H I)) z) z<|mv z z<|nx<|ak' (fun (⟨d,m,n,l,E⟩:(List Zb)×Option Addr×Nat×Option Ow×Mem)=>[(6,.slice m d.length n)]) (fun ⟨d,m,n,l,E⟩=>Mem.le R E/\RowR b' 110 E (.slice m d.length n) d l/\(ZP d).Ret r) (fun ⟨d,m,n,l,E⟩=>St O K E [(4006,l)]) ?_ ?_
 .refine C' ?_
  let Q:(List Zb)->Prop:=fun oo=>((fun ov=>match ov with|d=>ZP d:(List Zb)->Cq (List Zb)) oo).wp (fun a=>a=r)
  replace hr:(Cq.loop _ _).wp Q:=hr
  refine al' (Φ:=Q) (fun (⟨c,k,h,f,v,A⟩:(List Zb)×Option Addr×Nat×Option Ow×Int×Mem)=>((c,v):(List Zb)×Int)) (fun ⟨c,k,h,f,v,A⟩=>[(6,.slice k c.length h),(25,.slice s g.length q),(26,i' (g.length:Int)),(27,i' v)]) (fun ⟨c,k,h,f,v,A⟩=>Mem.le R A/\RowR b' 110 A (.slice k c.length h) c f) (fun ⟨c,k,h,f,v,A⟩=>St O K A [(4006,f)]) ⟨an,ad,ae,T,0,R⟩ hr (f4 z z z z) ⟨mr,ah⟩ ?_ ?_
  .intro w P
   have P:=P.rekey (i:=4024) (j:=4006) z (by rw[L]; rfl)
   exact P.weaken (lc z ln)
  intro aG Z X hr
  obtain⟨c,k,h,f,v,A⟩:=Z
  obtain⟨C,y⟩:=X
  refine sr<|yy (ag' z z) z<|nx<|n'<|L' hr z (fun ar hr=>?_) (fun ar hr=>?_)
  .refine q'<|g'<|n'<|C'<|sr ?_
   obtain⟨x1,U,hr⟩:=hr
   refine yy (Q' ci' sz29 (o.mono (mt (mt H I) C)) z z U) z ?_
   obtain⟨p1,aI,am,aj⟩:=bG' (H' (ab' o U) (mt (mt H I) C))
   refine yy (Y' bq' z (am)) z<|sg z z<|nx<|A'<|mv z z<|mv z z ?_
   obtain⟨ac,hr⟩:=hr
   refine cx' (r:=b') (e:=110) 4006 z z w' el110 z (by decide) z z y z aj ac fun p2 ak W ao=>sg z z<|u'<|J'<|g'<|A'<|yy (W' z z) z<|mv z z<|u'<|X' ⟨(c++x1),p2,ak,W,i64.wrap (v+1),A⟩ hr ⟨C,ao⟩ (f4 z z z z) (w1 z)
  refine am'<|r'<|r'<|O'<|ao' ⟨c,k,h,f,A⟩ ⟨C,y,hr⟩ (f1 z) (w1 z)
 rintro⟨d,m,n,l,E⟩ ⟨aw,F,hr⟩
 refine g'<|sr<|mv z z<|sg z z<|nx<|j' ?_
 obtain rfl:_=r:=hr
 refine WE.freezeT (r:=b') (e:=110) 4006 F z (by rw[L]; rfl) fun aF aH av af au=>k' z z ⟨_,_,z,af⟩
theorem fh'(c:Za)(p:Zc)(S:Nat)(D:Nat)(r:Bool)(hr:(ZaA c p).Ret r):Ctr prog 131 #[.pointer (some ⟨S,0,none⟩),.pointer (some ⟨D,0,none⟩)] (fun G=>At aP' G S 0 c/\At af' G D 0 p) (fun G v=>v = .bool r):=by
 refine E' (args:=[_,_]) (N:=25) func131 z z z (fun L M Y E=>?_)
 obtain⟨m,x⟩:=E
 refine sr<|sg z z<|nx<|n'<|sr<|yy (aX' z) z ?_
 obtain⟨I,q,W,V⟩:=bG' (aV' (ay' (ax' m)))
 refine yy (Y' bq' z (W)) z<|yy (aZ' z) z ?_
 obtain⟨y,l,P,Q⟩:=bG' (aV' (ay' (ay' (ax' m))))
 refine yy (Y' bq' z (P)) z<|bd' (e:=29) (r:=(Rp.sl b')) (vs:=#[(0,.slice I c.eqs.length q),(1,.slice y c.neqs.length l)]) (cs:=[.slice I c.eqs.length q]++([.slice y c.neqs.length l]++([]))) ([c.eqs,c.neqs]:List (List Zb)) z z z z z (by decide) (fun _=>by kernel_rfl) ⟨[.slice I c.eqs.length q],[.slice y c.neqs.length l]++([]),z,⟨_,z,V⟩,⟨[.slice y c.neqs.length l],[],z,⟨_,z,Q⟩,z⟩⟩ (key:=999) z (by rw[Y]; rfl) (fun p3 ai u O=>?_)
 obtain⟨B,H,hr⟩:=hr
 refine P' z z (t' E132 z) (cw' H) z (O) (fun ad o t n=>?_)
 obtain⟨K,C,rfl,k⟩:=n
 refine yy (M' w' k z) z<|mv z z<|nx<|ak' (fun (j:Mem)=>match j with|i=>[]) (fun (j:Mem)=>match j with|i=>Mem.le o i/\(Zbj).Ret r) (fun (j:Mem)=>match j with|i=>St L M i []) ?_ ?_
 .refine C' ?_
  let s:(Bool⊕Unit)->Prop:=fun oo=>((fun ov=>match ov with | .inl rv1=>Cq.ret rv1 | .inr ()=>Zbj:(Bool⊕Unit)->Cq Bool) oo).wp (fun a=>a=r)
  replace hr:(Cq.loop _ _).wp s:=hr
  refine al' (Φ:=s) (fun (⟨d,g⟩:Int×Mem)=>(d:Int)) (fun ⟨d,g⟩=>[(1,.pointer (some ⟨D,0,none⟩)),(10,.slice K B.length C),(11,i' (B.length:Int)),(12,i' d)]) (fun ⟨d,g⟩=>Mem.le o g) (fun ⟨d,g⟩=>St L M g []) ⟨0,o⟩ hr (f4 z z z z) mr (wk ln) ?_
  .intro ah j hx hr
   obtain⟨d,g⟩:=j
   have f:=hx
   refine sr<|yy (ag' z z) z<|nx<|n'<|L' hr z (fun X hr=>?_) (fun X hr=>?_)
   .refine q'<|g'<|n'<|C'<|sr ?_
    obtain⟨x1,A,hr⟩:=hr
    refine yy (Q' w' aR' (k.mono f) z z A) z ?_
    obtain⟨ac,ag,R,J⟩:=bp' (H' (ab' k A) f)
    refine yy (aA' _ bJ' z z R) z<|T' 4 z z110 z fun b3=>s' 4 z aR' z z z z z (List.all_eq_true.1 z)<|nx<|n'<|ah' [ff,ff,ff,ff,ff,ff] mix (by kernel_rfl) fun hb=>cn (fun _ h=>bT' z)<|cn (fun _ h=>f' 4 cA' z z z) ?_
    obtain⟨aj,F,hr⟩:=hr
    refine bB' z (fun _=>t' E78 z) (cW' F) z (fun G' h=>(J.mono h))<|cn (fun _ h=>aI' z)<|cn (fun _ h=>Y' sc3 z (aD' (H' (H' (aV' (ay' (ay' (ax' x)))) (mt (mt u t) f)) h))) ?_
    obtain⟨U,hr⟩:=hr
    refine cn (fun _ h=>Y0.shl z z U)<|U' hb<|yy (Y0.and z z) z<|yy (av' z z) z<|u'<|aq'<|g'<|L' hr z (fun T hr=>?_) (fun T hr=>?_)
    .refine sr<|sg z z<|nx<|j'<|m'<|a'<|a'<|m'<|ae'<|a' ?_
     obtain rfl:_=r:=hr
     exact k' z z z
    refine q'<|J'<|g'<|A'<|yy (W' z z) z<|mv z z<|u'<|X' ⟨i64.wrap (d+1),g⟩ hr f (f4 z z z z) (wk ln)
   refine am'<|r'<|r'<|O'<|ao' g ⟨f,hr⟩ fn (wk ln)
 rintro i ⟨Z,hr⟩
 refine g'<|sr<|sg z z<|nx<|j' ?_
 obtain rfl:_=r:=hr
 exact k' z z z
theorem fB'(e:Int)(d:Za)(j:Nat)(h:Nat)(r:Bool)(hr:(ZY e d).Ret r):Ctr prog 173 #[.pointer (some ⟨j,0,none⟩),.pointer (some ⟨h,0,none⟩)] (fun G=>At (Rp.int .i64) G j 0 e/\At aP' G h 0 d) (fun G v=>v = .bool r):=by
 refine E' (args:=[_,_]) (N:=12) func173 z z z (fun o p n g=>?_)
 obtain⟨c,f⟩:=g
 refine sr<|sg z z<|nr<|yy (Y' sc3 z (aD' c)) z<|aa' hr z (bK' z z) z (fun i hr=>?_) (fun i hr=>?_)
 .refine mv z z<|gy z z (Y' sc3 z (aD' c)) z<|gy z z (aF' z) z ?_
  obtain⟨q,m,l,k⟩:=bG' (aV' (ax' f))
  refine gy z z (Y' bA' z (l)) z<|gy z z (M' F' k z) z<|gy z z (ag' z z) z<|yy (h' z z) z<|sg z z<|nx<|j' ?_
  obtain rfl:_=r:=hr
  exact k' z z z
 refine mv z z<|sn5 z<|yy (l' z z) z<|sg z z<|nx<|j' ?_
 obtain rfl:_=r:=hr
 exact k' z z z
theorem eg'{i o g h f e c d r}(hr:(ZcQ i o).Ret r):Ctr prog 133 #[.agg ((v31' i g h f e c d)).toArray,i' o] (fun G=>sl Rp.str G g h i.vars/\sl b' G f e i.eqs/\sl b' G c d i.neqs) (fun G v=>∃ A C,v=A/\FnRd prog fa0 foB G A C r):=by
 refine E' (args:=[_,_]) (N:=6) func133 z z z (fun J K q s=>?_)
 obtain⟨m,n,l⟩:=s
 refine sr<|ad' 126602 z z z fun D=>ad' 126603 z z z fun B=>sg z z<|nx<|n'<|bC' 126603 z (by rw[q]; rfl) fun I k t H=>bC' 126602 z (by rw[q]; rfl) fun y j u E=>A'<|yy (bO' z z) z<|sg z z<|nx<|j' ?_
 obtain rfl:_=r:=hr
 exact k' z z ⟨_,_,z,(show FnRd prog fa0 foB y (.func (.func 173) #[] #[.pointer (some ⟨B,0,none⟩),.pointer (some ⟨D,0,none⟩)]) () (fun _=>ZY o i) from (dq' E173 (fun x F=>dr' (fB' _ _ _ _ x F) (fun L p=>⟨(H' (ch' (r:=(Rp.int .i64)) (cs:=[i' o]) t z z) (mt j p)),(H' (ch' (r:=aP') (cs:=(v31' i g h f e c d)) u z ⟨[.slice g i.vars.length h],[.slice f i.eqs.length e,.slice c i.neqs.length d,i' i.next],z,⟨_,z,(m.mono (mt k j))⟩,⟨[.slice f i.eqs.length e],[.slice c i.neqs.length d,i' i.next],z,⟨_,z,(n.mono (mt k j))⟩,⟨[.slice c i.neqs.length d],[i' i.next],z,⟨_,z,(l.mono (mt k j))⟩,z⟩⟩⟩) p)⟩))))⟩
theorem gh'{q c m n s o g d k h r}(hr:(ZeE q c).Ret r):Ctr prog 86 #[.agg ((v31' q m n s o g d)).toArray,.agg ((v48' c k h)).toArray] (fun G=>sl Rp.str G m n q.vars/\sl b' G s o q.eqs/\sl b' G g d q.neqs/\sl I' G k h c.p) (w31t' r):=by
 refine E' (args:=[_,_]) (N:=60) func86 z z z (fun w0 P F aF=>?_)
 obtain⟨y,H,C,au⟩:=aF
 have hz:w0.L.zero:=by rw[F]; intro p hp; simp at hp
 refine sr<|ad' 117202 z z z fun b1=>ad' 117203 z z z fun b2=>T' 4 z z31 z fun b3=>sg z z<|nr<|yy (aF' z) z<|yy (f' 117202 bA' z z z) z<|yy (M' F' y z) z<|sg z z<|nx<|n'<|bC' 117202 z (by rw[F]; rfl) fun bJ l aB aE=>bC' 117203 z (by rw[F]; rfl) fun a2 A aW aC=>A'<|yy (bO' z z) z<|sg z z<|nr<|yy (o' 117202 ar' z z z) z<|yy (aI' z) z<|yy (f' 117203 sc3 z z z) z ?_
 obtain⟨bE,aH,hr⟩:=hr
 refine P' z z (t' E133 z) (eg' aH) z (⟨(y.mono (mt l A)),(H.mono (mt l A)),(C.mono (mt l A))⟩) (fun bt bH aa ac=>?_)
 obtain⟨bl,bh,rfl,aU⟩:=ac
 obtain⟨a0,az,hr⟩:=hr
 refine P' z z (t' E121 z) (bx' az) z (aU) (fun bA bG V ab=>?_)
 obtain⟨be,bs,rfl,am⟩:=ab
 refine mv z z ?_
 obtain⟨a5,aX,hr⟩:=hr
 refine P' z z (t' E121 z) (bx' aX) z (((show FnRd prog fa0 foB a2 (.func (.func 131) #[] #[.pointer (some ⟨b1,0,none⟩),.pointer (some ⟨b2,0,none⟩)]) () (fun _=>ZaA q c) from (dq' E131 (fun x hx=>dr' (fh' _ _ _ _ x hx) (fun G' t=>⟨(H' (ch' (r:=aP') (cs:=(v31' q m n s o g d)) aB z ⟨[.slice m q.vars.length n],[.slice s q.eqs.length o,.slice g q.neqs.length d,i' q.next],z,⟨_,z,(y.mono l)⟩,⟨[.slice s q.eqs.length o],[.slice g q.neqs.length d,i' q.next],z,⟨_,z,(H.mono l)⟩,⟨[.slice g q.neqs.length d],[i' q.next],z,⟨_,z,(C.mono l)⟩,z⟩⟩⟩) (mt A t)),(H' (ch' (r:=af') (cs:=(v48' c k h)) aW z ⟨[i' c.kind],[.string c.name,i' c.at',i' c.to',i' c.id,.slice k c.p.length h,.bool c.neq],z,z,⟨[.string c.name],[i' c.at',i' c.to',i' c.id,.slice k c.p.length h,.bool c.neq],z,z,⟨[i' c.at'],[i' c.to',i' c.id,.slice k c.p.length h,.bool c.neq],z,z,⟨[i' c.to'],[i' c.id,.slice k c.p.length h,.bool c.neq],z,z,⟨[i' c.id],[.slice k c.p.length h,.bool c.neq],z,z,⟨[.slice k c.p.length h],[.bool c.neq],z,⟨_,z,(au.mono (mt l A))⟩,z⟩⟩⟩⟩⟩⟩) t)⟩)))).mono (mt aa V))) (fun bd bI Y af=>?_)
 obtain⟨bv,bf,rfl,al⟩:=af
 obtain⟨ao,U,rfl⟩:=ce' am
 obtain⟨Z,J,rfl⟩:=ce' al
 refine bd' (e:=178) (r:=(Rp.fn prog fa0 foI)) (vs:=#[(0,(.func (.func ao) #[] U)),(1,(.func (.func Z) #[] J))]) (cs:=[(.func (.func ao) #[] U)]++([(.func (.func Z) #[] J)]++([]))) ([a0,a5]:List (Unit->Cq Int)) z z z z z (by decide) (fun _=>by kernel_rfl) ⟨[(.func (.func ao) #[] U)],[(.func (.func Z) #[] J)]++([]),z,⟨_,z,(am.mono Y)⟩,⟨[(.func (.func Z) #[] J)],[],z,⟨_,z,al⟩,z⟩⟩ (key:=999) z (by rw[F]; rfl) (fun p1 bC ay aZ=>?_)
 obtain⟨bK,aI,hr⟩:=hr
 refine D' z z (t' E120 z) (cP' aI) z (aZ)<|sg z z<|da' 117203 z aC l (mt (mt (mt (mt A aa) V) Y) ay)<|da' 117202 z aE mr l<|nx<|n'<|sr<|mv z z<|yy (av' z z) z<|nx<|L' hr z (fun a7 hr=>?_) (fun a7 hr=>?_)
 .refine sr<|yy (aw' (vs:=#[]) (v:=.agg ([.slice none 0 0,.slice none 0 0,.slice none 0 0,i' 0]).toArray) z z (fun _=>by kernel_rfl)) z<|mv z z<|s' 4 z aU' z z z z z (List.all_eq_true.1 z)<|sg z z<|nx<|j'<|a' ?_
  obtain rfl:_=r:=hr
  exact aC' z (ac' (i:=4) ar' z z z) z ⟨_,_,_,_,_,_,z,(V' Rp.str _),(V' b' _),(V' b' _)⟩
 refine q'<|g'<|sr ?_
 obtain⟨W,aN,hr⟩:=hr
 refine D' z z (t' E127 z) (ed' aN) z (trivial)<|T' 9 z z119 z fun b4=>s' 9 z sz119 z z z (Z' _ _ _) (Z' _ _ _) (fun u hu=>Rp.one (dv' .i64 8) (G:=P) (x:=W) (cs:=vecG (Value.int .i64) 8 W) z u (by first|simpa using hu|simpa [Value.cells] using hu))<|nr<|yy (aI' z) z<|yy (f' 117203 sc3 z z z) z<|mv z z<|yy (bi' z z) z ?_
 obtain⟨a4,hr⟩:=hr
 refine yy (bg' bc' sz3 z z a4) z<|aG' 9 (vecG (Value.int .i64) 8 (setF W c.at'.toNat (i64.wrap ((q.vars.length:Int)-1)))).toArray z sz3 z z z (by first|(rw[Z']; omega)|(show _<(vecG _ _ _).toArray.size; rw[Z']; omega)) z (cf' _ _ _ _ _)<|nx<|n'<|sr<|yy (aI' z) z<|yy (f' 117203 sc3 z z z) z<|yy (W' z z) z<|sg z z<|nx<|ak' (fun (⟨E,O⟩:(Fin 8->Int)×Mem)=>[(2,.pointer (some ⟨b1,0,none⟩)),(3,.pointer (some ⟨b2,0,none⟩)),(4,.pointer (some ⟨b3,0,none⟩)),(9,.pointer (some ⟨b4,0,none⟩))]) (fun ⟨E,O⟩=>Mem.le P O/\(ZcP q c E).Ret r) (fun ⟨E,O⟩=>St w0 P O [(117202,some ⟨b1,.cells ((v31' q m n s o g d)).toArray 31 (0,0),0⟩),(117203,some ⟨b2,.cells ((v48' c k h)).toArray 48 (0,0),0⟩),(4,some ⟨b3,.cells ([.slice none 0 0,.slice none 0 0,.slice none 0 0,i' 0]).toArray 31 (0,0),0⟩),(9,some ⟨b4,.cells (vecG (Value.int .i64) 8 E).toArray 119 (0,0),0⟩)]) ?_ ?_
 .refine C' ?_
  let ap:(Fin 8->Int)->Prop:=fun oo=>((fun ov=>match ov with|E=>ZcP q c E:(Fin 8->Int)->Cq (Za×Int)) oo).wp (fun a=>a=r)
  replace hr:(Cq.loop _ _).wp ap:=hr
  refine al' (Φ:=ap) (fun (⟨I,B,D⟩:Int×(Fin 8->Int)×Mem)=>((I,B):Int×(Fin 8->Int))) (fun ⟨I,B,D⟩=>[(2,.pointer (some ⟨b1,0,none⟩)),(3,.pointer (some ⟨b2,0,none⟩)),(4,.pointer (some ⟨b3,0,none⟩)),(6,i' (q.vars.length:Int)),(9,.pointer (some ⟨b4,0,none⟩)),(10,i' I)]) (fun ⟨I,B,D⟩=>Mem.le P D) (fun ⟨I,B,D⟩=>St w0 P D [(117202,some ⟨b1,.cells ((v31' q m n s o g d)).toArray 31 (0,0),0⟩),(117203,some ⟨b2,.cells ((v48' c k h)).toArray 48 (0,0),0⟩),(4,some ⟨b3,.cells ([.slice none 0 0,.slice none 0 0,.slice none 0 0,i' 0]).toArray 31 (0,0),0⟩),(9,some ⟨b4,.cells (vecG (Value.int .i64) 8 B).toArray 119 (0,0),0⟩)]) ⟨i64.wrap (c.at'+1),setF W c.at'.toNat (i64.wrap ((q.vars.length:Int)-1)),P⟩ hr (f6 z z z z z z) mr (w4 z z z z) ?_
  .intro bD gx hx hr
   obtain⟨I,B,D⟩:=gx
   have X:=hx
   refine n'<|sr<|mv z z<|mv z z<|yy (ag' z z) z<|nx<|L' hr z (fun a6 hr=>?_) (fun a6 hr=>?_)
   .refine q'<|g'<|n'<|C'<|A'<|mv z z<|mv z z<|yy (bi' z z) z ?_
    obtain⟨aY,hr⟩:=hr
    refine yy (bg' bc' sz3 z z aY) z<|aG' 9 (vecG (Value.int .i64) 8 (setF B I.toNat (i64.wrap (I-1)))).toArray z sz3 z z z (by first|(rw[Z']; omega)|(show _<(vecG _ _ _).toArray.size; rw[Z']; omega)) z (cf' _ _ _ _ _)<|u'<|J'<|g'<|A'<|mv z z<|yy (W' z z) z<|sg z z<|u'<|X' ⟨i64.wrap (I+1),setF B I.toNat (i64.wrap (I-1)),D⟩ hr X (f6 z z z z z z) (w4 z z z z)
   refine am'<|r'<|r'<|O'<|ao' ⟨B,D⟩ ⟨X,hr⟩ (f4 z z z z) (w4 z z z z)
 rintro⟨E,O⟩ ⟨K,hr⟩
 refine g'<|sr<|yy (o' 117202 ar' z z z) z<|yy (o' 9 ag119 z z (Z' _ _ _)) z ?_
 obtain⟨ar,aL,hr⟩:=hr
 refine P' z z (t' E128 z) (ep' aL) z (⟨(y.mono K),(H.mono K),(C.mono K)⟩) (fun bc bF bb ae=>?_)
 obtain⟨aQ,aO,ai,ag,Q,T,rfl,S,ad,R⟩:=ae
 refine s' 117202 z aU' z z z z z (List.all_eq_true.1 z)<|nx<|n'<|ah' [ff,ff,ff,ff,ff,ff,ff,ff] mix (by kernel_rfl) fun hb=>cn (fun _ t=>aF' z)<|cn (fun _ t=>f' 117202 bA' z z z) ?_
 obtain⟨a3,aM,hr⟩:=hr
 refine Chain.callOwn (f:=130) (r:=Rp.str) (e:=9) (xs:=a3) (fun _=>z) (fun u G' t hu=>?_) ?_
 .exact⟨_,_,_,fun _=>t' E130 z,cl' aM,z,(S.mono t)⟩
 refine cu (fun _ _ t=>aI' z)<|cu (fun _ _ t=>f' 117203 sc3 z z z)<|cu (fun _ _ t=>aI' z)<|cu (fun _ _ t=>f' 117203 sc3 z z z)<|cu (fun _ _ t=>W' z z)<|Chain.tailX1 fun bo X1 an ah=>WL.adoptR ah (fun bz bw a9 aA aV bn=>?_)
 subst aA
 refine cj' (show WL _ _ _ _ _ _ (St w0 P X1.m _) from ?_)
 obtain⟨a1,aR,hr⟩:=hr
 refine bH' (fun w hs=>hs.rekey (i:=51) (j:=5000) z (by rw[F]; rfl))<|cJ' z z (t' E134 z) (em' aR) z (aV) (lc z ln) hz (fun bm bj bq M aj=>?_)
 obtain⟨aG,aJ,ba,rfl,rfl,aK⟩:=aj
 refine bH' (fun w hs=>hs.rekey (i:=5000) (j:=4057) z (by rw[F]; rfl))<|bM' (r:=Rp.str) (e:=9) 4057 aK z (by rw[F]; rfl) fun bB bx L aT a8=>yy (aF' z) z<|aG' 117202 ([.slice aG a1.length aJ,.slice ai ar.eqs.length ag,.slice Q ar.neqs.length T,i' ar.next]).toArray z sz28 z z z (show 0<4 by decide) z z<|u'<|aq'<|g'<|sr<|yy (o' 117202 ar' z z z) z<|s' 4 z aU' z z z z z (List.all_eq_true.1 z)<|sg z z<|nx<|j' ?_
 obtain rfl:_=r:=hr
 exact aC' z (ac' (i:=4) ar' z z z) z ⟨_,_,_,_,_,_,z,aT,(ad.mono (mt (mt an M) L)),(R.mono (mt (mt an M) L))⟩
theorem fp'(e:Za)(d:Zc)(l:Nat)(j:Nat)(r:Bool)(hr:(ZaK e d).Ret r):Ctr prog 135 #[.pointer (some ⟨l,0,none⟩),.pointer (some ⟨j,0,none⟩)] (fun G=>At aP' G l 0 e/\At af' G j 0 d) (fun G v=>v = .bool r):=by
 refine E' (args:=[_,_]) (N:=22) func135 z z z (fun t u s g=>?_)
 obtain⟨f,c⟩:=g
 refine sr<|sg z z<|nr<|yy (aF' z) z ?_
 obtain⟨x,q,n,m⟩:=bG' (aV' (ax' f))
 refine yy (Y' bA' z (n)) z<|yy (bW' z) z<|yy (Y' sc9 z (bZ' (aV' (ay' (ax' c))))) z ?_
 obtain⟨p,i,hr⟩:=hr
 refine D' z z (t' E136 z) (cH' i) z (m)<|sg z z<|nr<|yy (bW' z) z<|yy (Y' sc9 z (bZ' (aV' (ay' (ax' c))))) z ?_
 obtain⟨o,h,hr⟩:=hr
 refine D' z z (t' E125 z) (dW' h) z (trivial) ?_
 cases o
 .refine mv z z<|sn3 z<|N' (x' z z) z<|N' (x' z z) z<|N' (x' z z) z<|N' (x' z z) z<|sk z z z<|yy (l' z z) z<|sg z z<|nx<|j' ?_
  obtain rfl:_=r:=hr
  exact k' z z z
 refine mv z z<|gy z z (e' z) z<|aa' hr (v' z z) (ag' z z) z (fun k hr=>?_) (fun k hr=>?_)
 .refine gy z z (e' z) z<|sn4 z<|gy z z (h' z z) z<|yy (h' z z) z<|sg z z<|nx<|j' ?_
  obtain rfl:_=r:=hr
  exact k' z z z
 refine gy z z (e' z) z<|gy z z (e' z) z<|gy z z (aI' z) z<|gy z z (Y' sc3 z (aD' (aV' (ay' (ay' (ax' c)))))) z<|gy z z (at' z z) z<|gy z z (l' z z) z<|yy (h' z z) z<|sg z z<|nx<|j' ?_
 obtain rfl:_=r:=hr
 exact k' z z z
theorem gt'{n c o s m l f d h g r}(hr:(ZfF n c).Ret r):Ctr prog 87 #[.agg ((v31' n o s m l f d)).toArray,.agg ((v48' c h g)).toArray] (fun G=>sl Rp.str G o s n.vars/\sl b' G m l n.eqs/\sl b' G f d n.neqs/\sl I' G h g c.p) (w31t' r):=by
 refine E' (args:=[_,_]) (N:=34) func87 z z z (fun w0 G0 A ad=>?_)
 obtain⟨t,y,u,U⟩:=ad
 have hz:w0.L.zero:=by rw[A]; intro p hp; simp at hp
 refine sr<|ad' 117402 z z z fun b1=>ad' 117403 z z z fun b2=>T' 4 z z31 z fun b3=>sg z z<|nx<|n'<|bC' 117402 z (by rw[A]; rfl) fun aV k Z ac=>bC' 117403 z (by rw[A]; rfl) fun ap q ak aa=>A'<|yy (bO' z z) z<|sg z z<|nr<|yy (o' 117402 ar' z z z) z<|yy (aI' z) z<|yy (f' 117403 sc3 z z z) z ?_
 obtain⟨aQ,ae,hr⟩:=hr
 refine P' z z (t' E133 z) (eg' ae) z (⟨(t.mono (mt k q)),(y.mono (mt k q)),(u.mono (mt k q))⟩) (fun aJ aT J L=>?_)
 obtain⟨aE,az,rfl,ai⟩:=L
 obtain⟨ao,Y,hr⟩:=hr
 refine P' z z (t' E121 z) (bx' Y) z (ai) (fun aM aS D K=>?_)
 obtain⟨ax,aI,rfl,Q⟩:=K
 refine mv z z ?_
 obtain⟨aq,al,hr⟩:=hr
 refine P' z z (t' E121 z) (bx' al) z (((show FnRd prog fa0 foB ap (.func (.func 135) #[] #[.pointer (some ⟨b1,0,none⟩),.pointer (some ⟨b2,0,none⟩)]) () (fun _=>ZaK n c) from (dq' E135 (fun x hx=>dr' (fp' _ _ _ _ x hx) (fun G' X=>⟨(H' (ch' (r:=aP') (cs:=(v31' n o s m l f d)) Z z ⟨[.slice o n.vars.length s],[.slice m n.eqs.length l,.slice f n.neqs.length d,i' n.next],z,⟨_,z,(t.mono k)⟩,⟨[.slice m n.eqs.length l],[.slice f n.neqs.length d,i' n.next],z,⟨_,z,(y.mono k)⟩,⟨[.slice f n.neqs.length d],[i' n.next],z,⟨_,z,(u.mono k)⟩,z⟩⟩⟩) (mt q X)),(H' (ch' (r:=af') (cs:=(v48' c h g)) ak z ⟨[i' c.kind],[.string c.name,i' c.at',i' c.to',i' c.id,.slice h c.p.length g,.bool c.neq],z,z,⟨[.string c.name],[i' c.at',i' c.to',i' c.id,.slice h c.p.length g,.bool c.neq],z,z,⟨[i' c.at'],[i' c.to',i' c.id,.slice h c.p.length g,.bool c.neq],z,z,⟨[i' c.to'],[i' c.id,.slice h c.p.length g,.bool c.neq],z,z,⟨[i' c.id],[.slice h c.p.length g,.bool c.neq],z,z,⟨[.slice h c.p.length g],[.bool c.neq],z,⟨_,z,(U.mono (mt k q))⟩,z⟩⟩⟩⟩⟩⟩) X)⟩)))).mono (mt J D))) (fun aw aU H M=>?_)
 obtain⟨aL,ay,rfl,P⟩:=M
 obtain⟨R,C,rfl⟩:=ce' Q
 obtain⟨I,B,rfl⟩:=ce' P
 refine bd' (e:=178) (r:=(Rp.fn prog fa0 foI)) (vs:=#[(0,(.func (.func R) #[] C)),(1,(.func (.func I) #[] B))]) (cs:=[(.func (.func R) #[] C)]++([(.func (.func I) #[] B)]++([]))) ([ao,aq]:List (Unit->Cq Int)) z z z z z (by decide) (fun _=>by kernel_rfl) ⟨[(.func (.func R) #[] C)],[(.func (.func I) #[] B)]++([]),z,⟨_,z,(Q.mono H)⟩,⟨[(.func (.func I) #[] B)],[],z,⟨_,z,P⟩,z⟩⟩ (key:=999) z (by rw[A]; rfl) (fun p1 aP V am=>?_)
 obtain⟨aW,af,hr⟩:=hr
 refine D' z z (t' E120 z) (cP' af) z (am)<|sg z z<|da' 117403 z aa k (mt (mt (mt (mt q J) D) H) V)<|da' 117402 z ac mr k<|nx<|n'<|sr<|mv z z<|yy (av' z z) z<|nx<|L' hr z (fun ar hr=>?_) (fun ar hr=>?_)
 .refine sr<|yy (aw' (vs:=#[]) (v:=.agg ([.slice none 0 0,.slice none 0 0,.slice none 0 0,i' 0]).toArray) z z (fun _=>by kernel_rfl)) z<|mv z z<|s' 4 z aU' z z z z z (List.all_eq_true.1 z)<|sg z z<|nx<|j'<|a' ?_
  obtain rfl:_=r:=hr
  exact aC' z (ac' (i:=4) ar' z z z) z ⟨_,_,_,_,_,_,z,(V' Rp.str _),(V' b' _),(V' b' _)⟩
 refine q'<|g'<|sr<|yy (aF' z) z<|yy (f' 117402 bA' z z z) z ?_
 obtain⟨an,ag,hr⟩:=hr
 refine cJ' z z (t' E130 z) (cl' ag) z (t) ln hz (fun aC aN aH F O=>?_)
 obtain⟨aj,ab,au,rfl,rfl,T⟩:=O
 refine bH' (fun w hs=>hs.rekey (i:=7000) (j:=4024) z (by rw[A]; rfl))<|yy (aF' z) z<|aG' 117402 ([.slice aj an.length ab,.slice m n.eqs.length l,.slice f n.neqs.length d,i' n.next]).toArray z sz28 z z z (show 0<4 by decide) z z<|nr<|yy (aF' z) z<|yy (f' 117402 bA' z z z) z<|yy (aI' z) z<|yy (f' 117403 sc3 z z z) z<|yy (bW' z) z<|yy (f' 117403 sc9 z z z) z ?_
 obtain⟨x1,W,hr⟩:=hr
 refine yy (ba' F' sz9 T z z W) z<|bv' (r:=Rp.str) (e:=9) (cs':=[.string c.name]) (i:=c.at') (z':=c.name) 4024 z sz9 z T z z z z z W fun aO ah=>nr<|bM' (r:=Rp.str) (e:=9) 4024 ah z (by rw[A]; rfl) fun aX aR E S av=>yy (o' 117402 ar' z z z) z<|s' 4 z aU' z z z z z (List.all_eq_true.1 z)<|sg z z<|nx<|j' ?_
 obtain rfl:_=r:=hr
 exact aC' z (ac' (i:=4) ar' z z z) z ⟨_,_,_,_,_,_,(by rw[dj' S]),(de' S),(y.mono (mt F E)),(u.mono (mt F E))⟩
theorem gG'{O g D F K P E C B A r}(hr:(Zhg O g).Ret r):Ctr prog 88 #[.agg ((v31' O D F K P E C)).toArray,.agg ((v48' g B A)).toArray] (fun G=>sl Rp.str G D F O.vars/\sl b' G K P O.eqs/\sl b' G E C O.neqs/\sl I' G B A g.p) (w31t' r):=by
 refine E' (args:=[_,_]) (N:=65) func88 z z z (fun w0 G0 aa aF=>?_)
 obtain⟨o,y,l,aU⟩:=aF
 have hz:w0.L.zero:=by rw[aa]; intro p hp; simp at hp
 refine sr<|ad' 2 z z z fun b1=>ad' 3 z z z fun b2=>T' 4 z z31 z fun b3=>sg z z<|nx<|n'<|ah' [ff,ff,ff,ff,ff,ff,ff,ff] mix (by kernel_rfl) fun hb=>cn (fun _ c=>o' 2 ar' z z z)<|cn (fun _ c=>aI' z)<|cn (fun _ c=>f' 3 sc3 z z z) ?_
 obtain⟨aq,aH,hr⟩:=hr
 refine aW' (post:=fun G v=>∃ k m,v=k/\FnRd prog fa0 foB G k m aq) (fun _=>z) (fun _ _=>t' E133 z) (eg' aH) z (fun G' c=>⟨(o.mono c),(y.mono c),(l.mono c)⟩) (fun v G1 G2 c h=>?_) ?_
 .obtain⟨k,m,rfl,W⟩:=h
  exact⟨_,_,z,W.mono c⟩
 obtain⟨ap,aE,hr⟩:=hr
 refine cy' (f:=121) (φ:=fun G v=>∃ t M,v=t/\FnRd prog fa0 foI G t M ap) (fun _=>z) (fun v G1 G2 c h=>?_) (fun u G' c hu=>?_) ?_
 .obtain⟨t,M,rfl,V⟩:=h
  exact⟨_,_,z,V.mono c⟩
 .obtain⟨⟨k,m,ay,W⟩,_⟩:=(show (fun G v=>∃ k m,v=k/\FnRd prog fa0 foB G k m aq) G'.m (u 11)/\True from hu)
  exact⟨_,_,_,fun _=>t' E121 z,bx' aE,(by simp only[ay] <;> rfl),W⟩
 refine cu (fun _ _ c=>o' 2 ar' z z z)<|cu (fun _ _ c=>cu' z)<|cu (fun _ _ c=>f' 3 sc3 z z z)<|dt' (d:=12) (post:=fun G v=>∃ t M,v=t/\FnRd prog fa0 foI G t M ap) (d':=11) (post':=fun G v=>∃ k m,v=k/\FnRd prog fa0 foB G k m aq) (fun bk bg bt s ah ai=>?_)
 obtain⟨t,M,rfl,V⟩:=ah
 obtain⟨k,m,rfl,W⟩:=ai
 obtain⟨bs,aQ,hr⟩:=hr
 refine P' z z (t' E133 z) (eg' aQ) z (⟨(o.mono s),(y.mono s),(l.mono s)⟩) (fun a6 bp H aj=>?_)
 obtain⟨bi,a7,rfl,aI⟩:=aj
 obtain⟨a0,aJ,hr⟩:=hr
 refine P' z z (t' E121 z) (bx' aJ) z (aI) (fun be br I ag=>?_)
 obtain⟨a5,a8,rfl,am⟩:=ag
 obtain⟨ar,Z,rfl⟩:=ce' V
 obtain⟨ae,T,rfl⟩:=ce' am
 refine bd' (e:=178) (r:=(Rp.fn prog fa0 foI)) (vs:=#[(0,(.func (.func ar) #[] Z)),(1,(.func (.func ae) #[] T))]) (cs:=[(.func (.func ar) #[] Z)]++([(.func (.func ae) #[] T)]++([]))) ([ap,a0]:List (Unit->Cq Int)) z z z z z (by decide) (fun _=>by kernel_rfl) ⟨[(.func (.func ar) #[] Z)],[(.func (.func ae) #[] T)]++([]),z,⟨_,z,(V.mono (mt H I))⟩,⟨[(.func (.func ae) #[] T)],[],z,⟨_,z,am⟩,z⟩⟩ (key:=999) z (by rw[aa]; rfl) (fun p1 aX U aS=>?_)
 obtain⟨bm,aN,hr⟩:=hr
 refine D' z z (t' E120 z) (cP' aN) z (aS)<|sg z z<|u'<|aq'<|g'<|n'<|sr<|mv z z<|yy (av' z z) z<|nx<|L' hr z (fun a1 hr=>?_) (fun a1 hr=>?_)
 .refine sr<|yy (aw' (vs:=#[]) (v:=.agg ([.slice none 0 0,.slice none 0 0,.slice none 0 0,i' 0]).toArray) z z (fun _=>by kernel_rfl)) z<|mv z z<|s' 4 z aU' z z z z z (List.all_eq_true.1 z)<|sg z z<|nx<|j'<|a' ?_
  obtain rfl:_=r:=hr
  exact aC' z (ac' (i:=4) ar' z z z) z ⟨_,_,_,_,_,_,z,(V' Rp.str _),(V' b' _),(V' b' _)⟩
 refine q'<|g'<|sr ?_
 obtain⟨ad,aK,hr⟩:=hr
 refine D' z z (t' E127 z) (ed' aK) z (trivial)<|T' 7 z z119 z fun b4=>s' 7 z sz119 z z z (Z' _ _ _) (Z' _ _ _) (fun u hu=>Rp.one (dv' .i64 8) (G:=aX) (x:=ad) (cs:=vecG (Value.int .i64) 8 ad) z u (by first|simpa using hu|simpa [Value.cells] using hu))<|nx<|n'<|WC.drawnB [(3,some ⟨b2,.cells ((v48' g B A)).toArray 48 (0,0),0⟩)] (lc z ln) [ff,ff,tt,tt,ff,ff,tt,tt,ff] mix (by kernel_rfl) fun hb=>cn (fun _ c=>aI' z)<|cn (fun _ c=>f' 3 sc3 z z z)<|ck' z (cu' z)<|ck' z (f' 3 sc3 z z z)<|cn (fun _ c=>cu' z)<|cn (fun _ c=>f' 3 sc3 z z z)<|ck' z (aI' z)<|ck' z (f' 3 sc3 z z z) ?_
 obtain⟨aW,hr⟩:=hr
 refine cn (fun _ c=>bg' bc' sz3 z z aW)<|Chain.tailB hb<|WLT.storeL (fun w q=>q.weaken (lc z ln)) 7 (vecG (Value.int .i64) 8 (setF ad g.at'.toNat g.to')).toArray z sz3 z z z (by first|(rw[Z']; omega)|(show _<(vecG _ _ _).toArray.size; rw[Z']; omega)) z (cf' _ _ _ _ _) ?_
 obtain⟨aR,hr⟩:=hr
 refine WLT.y0 (fun w q=>q.weaken (lc z ln)) z (bg' bc' sz3 z z aR) z<|WLT.storeL (fun w q=>q.weaken (lc z ln)) 7 (vecG (Value.int .i64) 8 (setF (setF ad g.at'.toNat g.to') g.to'.toNat g.at')).toArray z sz3 z z z (by first|(rw[Z']; omega)|(show _<(vecG _ _ _).toArray.size; rw[Z']; omega)) z (cf' _ _ _ _ _)<|WLT.nil (fun w q=>q.weaken (lc z ln))<|aq'<|g'<|sr<|yy (o' 2 ar' z z z) z<|yy (o' 7 ag119 z z (Z' _ _ _)) z ?_
 obtain⟨R,aM,hr⟩:=hr
 have N1:=mt (mt (mt s H) I) U
 refine P' z z (t' E128 z) (ep' aM) z (⟨(o.mono N1),(y.mono N1),(l.mono N1)⟩) (fun bc bl a4 ak=>?_)
 obtain⟨aL,aG,Q,S,L,J,rfl,X,af,Y⟩:=ak
 refine s' 2 z aU' z z z z z (List.all_eq_true.1 z)<|nr<|yy (aF' z) z<|yy (f' 2 bA' z z z) z ?_
 obtain⟨aC,aP,hr⟩:=hr
 refine cJ' z z (t' E130 z) (cl' aP) z (X) ln hz (fun bb bn bf ac al=>?_)
 obtain⟨an,ao,a3,rfl,rfl,n⟩:=al
 refine bH' (fun w q=>q.rekey (i:=7000) (j:=4040) z (by rw[aa]; rfl))<|yy (aF' z) z<|aG' 2 ([.slice an aC.length ao,.slice Q R.eqs.length S,.slice L R.neqs.length J,i' R.next]).toArray z sz28 z z z (show 0<4 by decide) z z<|nx<|n'<|WC.drawnB [(2,some ⟨b1,.cells ([.slice an aC.length ao,.slice Q R.eqs.length S,.slice L R.neqs.length J,i' R.next]).toArray 31 (0,0),0⟩),(3,some ⟨b2,.cells ((v48' g B A)).toArray 48 (0,0),0⟩)] (lc z (lc z ln)) [ff,ff,ff,ff,tt,tt,tt,tt,ff,ff,ff,ff,ff,ff,ff,ff,ff,ff,ff,ff,ff] mix (by kernel_rfl) fun hb=>cn (fun _ c=>aF' z)<|cn (fun _ c=>f' 2 bA' z z z)<|cn (fun _ c=>aI' z)<|cn (fun _ c=>f' 3 sc3 z z z)<|ck' z (aF' z)<|ck' z (f' 2 bA' z z z)<|ck' z (cu' z)<|ck' z (f' 3 sc3 z z z)<|cn (fun _ c=>aF' z)<|cn (fun _ c=>f' 2 bA' z z z)<|cn (fun _ c=>cu' z)<|cn (fun _ c=>f' 3 sc3 z z z) ?_
 obtain⟨x1,az,hr⟩:=hr
 refine cn (fun _ c=>ba' F' sz9 (n.mono c) z z az)<|cn (fun _ c=>dQ' sc9 (n.mono c) (key:=4040) z z (bZ' (cS' n az)))<|cn (fun _ c=>aF' z)<|cn (fun _ c=>f' 2 bA' z z z)<|cn (fun _ c=>aI' z)<|cn (fun _ c=>f' 3 sc3 z z z) ?_
 obtain⟨x2,aA,hr⟩:=hr
 refine cn (fun _ c=>ba' F' sz9 (n.mono c) z z aA)<|cn (fun _ c=>dQ' sc9 (n.mono c) (key:=4040) z z (bZ' (cS' n aA))) ?_
 obtain⟨x3,aD,hr⟩:=hr
 refine cn (fun _ c=>ba' F' sz9 (n.mono c) z z aD)<|Chain.tailB hb<|WLT.one (fun w q=>q.weaken (lc z (lc z ln)))<|bv' (r:=Rp.str) (e:=9) (cs':=[.string x1]) (i:=g.at') (z':=x1) 4040 z sz9 z n z z z z z aD fun bo au=>WLT.back ?_
 obtain⟨x4,aB,hr⟩:=hr
 refine WLT.y0 (fun w q=>q.weaken (lc z (lc z ln))) z (ba' F' sz9 au z z aB) z<|WLT.one (fun w q=>q.weaken (lc z (lc z ln)))<|bv' (r:=Rp.str) (e:=9) (cs':=[.string x2]) (i:=g.to') (z':=x2) 4040 z sz9 z au z z z z z aB fun bv aO=>WLT.back<|WLT.nil (fun w q=>q.weaken (lc z (lc z ln)))<|aq'<|g'<|sr<|bM' (r:=Rp.str) (e:=9) 4040 aO z (by rw[aa]; rfl) fun bu bq ab av a2=>yy (o' 2 ar' z z z) z<|s' 4 z aU' z z z z z (List.all_eq_true.1 z)<|sg z z<|nx<|j' ?_
 obtain rfl:_=r:=hr
 exact aC' z (ac' (i:=4) ar' z z z) z ⟨_,_,_,_,_,_,(by rw[dj' av]),(de' av),(af.mono (mt ac ab)),(Y.mono (mt ac ab))⟩
theorem dX'{l M H I p n d f r}(hr:(Zb5 l M).Ret r):Ctr prog 66 #[.agg ((v31' l H I p n d f)).toArray,i' M] (fun G=>sl Rp.str G H I l.vars/\sl b' G p n l.eqs/\sl b' G d f l.neqs) (fun G v=>∃ O Q,v = .tuple #[.agg ((v110' r.1.id O r.1.p Q)).toArray,.bool r.2.1,.bool r.2.2]/\sl I' G O Q r.1.p):=by
 refine E' (args:=[_,_]) (N:=38) func66 z z z (fun Y Z aw af=>?_)
 obtain⟨am,W,S⟩:=af
 refine sr<|ad' 2 z z z fun b1=>T' 4 z z110 z fun L=>sg z z<|sg z z<|nx<|n'<|sr<|yy (aX' z) z<|yy (f' 2 bq' z z z) z<|yy (aZ' z) z<|yy (f' 2 bq' z z z) z<|bd' (e:=29) (r:=(Rp.sl b')) (vs:=#[(0,.slice p l.eqs.length n),(1,.slice d l.neqs.length f)]) (cs:=[.slice p l.eqs.length n]++([.slice d l.neqs.length f]++([]))) ([l.eqs,l.neqs]:List (List Zb)) z z z z z (by decide) (fun _=>by kernel_rfl) ⟨[.slice p l.eqs.length n],[.slice d l.neqs.length f]++([]),z,⟨_,z,W⟩,⟨[.slice d l.neqs.length f],[],z,⟨_,z,S⟩,z⟩⟩ (key:=999) z (by rw[aw]; rfl) fun p1 T ay X=>yy (M' ci' X z) z<|mv z z<|nx<|ak' (fun (⟨E,y,A,J⟩:Zb×Option Addr×Nat×Mem)=>[(4,.pointer (some ⟨L,0,none⟩))]) (fun ⟨E,y,A,J⟩=>Mem.le T J/\sl I' J y A E.p/\(Zdq).Ret r) (fun ⟨E,y,A,J⟩=>St Y Z J [(4,some ⟨L,.cells ((v110' E.id y E.p A)).toArray 110 (0,0),0⟩)]) ?_ ?_
 .refine C' ?_
  let K:((Zb×Bool×Bool)⊕Zb)->Prop:=fun oo=>((fun ov=>match ov with | .inl rv1=>Cq.ret rv1 | .inr E=>Zdq:((Zb×Bool×Bool)⊕Zb)->Cq (Zb×Bool×Bool)) oo).wp (fun a=>a=r)
  replace hr:(Cq.loop _ _).wp K:=hr
  refine al' (Φ:=K) (fun (⟨c,x,h,k,o⟩:Int×Zb×Option Addr×Nat×Mem)=>((c,x):Int×Zb)) (fun ⟨c,x,h,k,o⟩=>[(1,i' M),(4,.pointer (some ⟨L,0,none⟩)),(15,.slice p1 2 2),(16,i' ([l.eqs,l.neqs].length:Int)),(17,i' c)]) (fun ⟨c,x,h,k,o⟩=>Mem.le T o/\sl I' o h k x.p) (fun ⟨c,x,h,k,o⟩=>St Y Z o [(4,some ⟨L,.cells ((v110' x.id h x.p k)).toArray 110 (0,0),0⟩)]) ⟨0,(Zb.mk 0 []),none,0,T⟩ hr (f5 z z z z z) ⟨mr,(V' _ _)⟩ (w1 z) ?_
  .intro ac gx hx hr
   obtain⟨c,x,h,k,o⟩:=gx
   obtain⟨D,R⟩:=hx
   refine sr<|yy (ag' z z) z<|nx<|n'<|L' hr z (fun av hr=>?_) (fun av hr=>?_)
   .refine q'<|g'<|n'<|C'<|sr<|mv z z ?_
    obtain⟨x1,ad,hr⟩:=hr
    refine yy (Q' ci' sz29 (X.mono D) z z ad) z ?_
    obtain⟨p2,an,ap,U⟩:=bG' (H' (ab' X ad) D)
    refine yy (Y' bq' z (ap)) z<|sg z z<|sg z z<|nr<|mv z z<|yy (M' w' U z) z<|mv z z<|nx<|ak' (fun (⟨u,q,s,F⟩:Zb×Option Addr×Nat×Mem)=>[(1,i' M),(4,.pointer (some ⟨L,0,none⟩)),(15,.slice p1 2 2),(16,i' ([l.eqs,l.neqs].length:Int)),(17,i' c)]) (fun ⟨u,q,s,F⟩=>Mem.le o F/\sl I' F q s u.p/\(Zdr c u).wp (Out ac K)) (fun ⟨u,q,s,F⟩=>St Y Z F [(4,some ⟨L,.cells ((v110' u.id q u.p s)).toArray 110 (0,0),0⟩)]) ?_ ?_
    .refine C' ?_
     let V:((Zb×Bool×Bool)⊕Zb)->Prop:=fun oo=>((fun ov=>match ov with | .inl rv2=>Cq.ret (.inr (.inl rv2)) | .inr u=>Zdr c u:((Zb×Bool×Bool)⊕Zb)->Cq ((Int×Zb)⊕((Zb×Bool×Bool)⊕Zb))) oo).wp (Out ac K)
     replace hr:(Cq.loop _ _).wp V:=hr
     refine al' (Φ:=V) (fun (⟨m,t,j,g,B⟩:Int×Zb×Option Addr×Nat×Mem)=>((m,t):Int×Zb)) (fun ⟨m,t,j,g,B⟩=>[(1,i' M),(4,.pointer (some ⟨L,0,none⟩)),(7,i' c),(15,.slice p1 2 2),(16,i' ([l.eqs,l.neqs].length:Int)),(17,i' c),(22,.slice p2 x1.length an),(23,i' (x1.length:Int)),(24,i' m)]) (fun ⟨m,t,j,g,B⟩=>Mem.le o B/\sl I' B j g t.p) (fun ⟨m,t,j,g,B⟩=>St Y Z B [(4,some ⟨L,.cells ((v110' t.id j t.p g)).toArray 110 (0,0),0⟩)]) ⟨0,x,h,k,o⟩ hr (f9 z z z z z z z z z) ⟨mr,R⟩ (w1 z) ?_
     .intro aD gx hx hr
      obtain⟨m,t,j,g,B⟩:=gx
      obtain⟨C,P⟩:=hx
      refine sr<|yy (ag' z z) z<|nx<|n'<|L' hr z (fun ar hr=>?_) (fun ar hr=>?_)
      .refine q'<|g'<|n'<|C'<|sr ?_
       obtain⟨x2,ae,hr⟩:=hr
       refine yy (Q' w' aR' (U.mono C) z z ae) z ?_
       obtain⟨aA,aC,aq,ak⟩:=bp' (H' (ab' U ae) C)
       refine yy (aA' _ bJ' z z aq) z<|T' 10 z z110 z fun b3=>s' 10 z aR' z z z z z (List.all_eq_true.1 z)<|nr<|yy (bn' z) z<|yy (f' 10 sc3 z z z) z<|mv z z<|yy (at' z z) z<|nx<|L' hr z (fun au hr=>?_) (fun au hr=>?_)
       .refine sr<|yy (o' 10 bJ' z z z) z<|mv z z<|yy (at' z z) z<|s' 4 z aR' z z z z z (List.all_eq_true.1 z)<|sg z z<|sg z z<|nx<|j'<|m'<|a'<|a'<|m'<|ae'<|m'<|a'<|a'<|m'<|ae'<|a' ?_
        obtain rfl:_=r:=hr
        exact cT' z (ac' (i:=4) bJ' z z z) z z ⟨_,_,z,ak⟩
       refine q'<|J'<|g'<|A'<|yy (W' z z) z<|mv z z<|u'<|X' ⟨i64.wrap (m+1),t,j,g,B⟩ hr ⟨C,P⟩ (f9 z z z z z z z z z) (w1 z)
      refine am'<|r'<|r'<|O'<|ao' ⟨t,j,g,B⟩ ⟨C,P,hr⟩ (f5 z z z z z) (w1 z)
    rintro⟨u,q,s,F⟩ ⟨ab,aa,hr⟩
    refine J'<|g'<|A'<|yy (W' z z) z<|mv z z<|u'<|X' ⟨i64.wrap (c+1),u,q,s,F⟩ hr ⟨(mt D ab),aa⟩ (f5 z z z z z) (w1 z)
   refine am'<|r'<|r'<|O'<|ao' ⟨x,h,k,o⟩ ⟨D,R,hr⟩ (f1 z) (w1 z)
 rintro⟨E,y,A,J⟩ ⟨ax,az,hr⟩
 refine g'<|sr<|yy (aw' (vs:=#[]) (v:=.agg ([i' 0,.slice none 0 0]).toArray) z z (fun _=>by kernel_rfl)) z<|s' 4 z aR' z z z z z (List.all_eq_true.1 z)<|sg z z<|sg z z<|nx<|j' ?_
 obtain rfl:_=r:=hr
 exact cT' z (ac' (i:=4) bJ' z z z) z z ⟨_,_,z,(V' I' _)⟩
theorem fi'(h:Za)(g:Int)(A:Nat)(u:Nat)(r:Bool)(hr:(ZV h g).Ret r):Ctr prog 174 #[.pointer (some ⟨A,0,none⟩),.pointer (some ⟨u,0,none⟩)] (fun G=>At aP' G A 0 h/\At (Rp.int .i64) G u 0 g) (fun G v=>v = .bool r):=by
 refine E' (args:=[_,_]) (N:=14) func174 z z z (fun I J H k=>?_)
 obtain⟨j,i⟩:=k
 refine sr<|sg z z<|nr ?_
 obtain⟨t,m,B,x,o,q,y,e,f,c⟩:=cV' j
 refine yy (aA' _ ar' z z y) z<|yy (Y' sc3 z (aD' i)) z ?_
 obtain⟨E,l,hr⟩:=hr
 refine P' z z (t' E66 z) (dX' l) z (⟨e,f,c⟩) (fun D F C d=>?_)
 obtain⟨p,s,rfl,n⟩:=d
 refine mv z z<|yy (y' z z) z<|yy (y' z z) z<|yy (y' z z) z<|T' 3 z z110 z fun K=>s' 3 z aR' z z z z z (List.all_eq_true.1 z)<|sg z z<|sg z z<|nr<|mv z z<|sg z z<|nx<|j' ?_
 obtain rfl:_=r:=hr
 exact k' z z z
theorem dw'{i k g h f e c d r}(hr:(ZbI i k).Ret r):Ctr prog 138 #[.agg ((v31' i g h f e c d)).toArray,i' k] (fun G=>sl Rp.str G g h i.vars/\sl b' G f e i.eqs/\sl b' G c d i.neqs) (fun G v=>∃ A C,v=A/\FnRd prog fa0 foB G A C r):=by
 refine E' (args:=[_,_]) (N:=6) func138 z z z (fun J K q s=>?_)
 obtain⟨m,n,l⟩:=s
 refine sr<|ad' 127602 z z z fun D=>ad' 127603 z z z fun B=>sg z z<|nx<|n'<|bC' 127602 z (by rw[q]; rfl) fun I j t H=>bC' 127603 z (by rw[q]; rfl) fun y o u E=>A'<|yy (bO' z z) z<|sg z z<|nx<|j' ?_
 obtain rfl:_=r:=hr
 exact k' z z ⟨_,_,z,(show FnRd prog fa0 foB y (.func (.func 174) #[] #[.pointer (some ⟨D,0,none⟩),.pointer (some ⟨B,0,none⟩)]) () (fun _=>ZV i k) from (dq' E174 (fun x F=>dr' (fi' _ _ _ _ x F) (fun L p=>⟨(H' (ch' (r:=aP') (cs:=(v31' i g h f e c d)) t z ⟨[.slice g i.vars.length h],[.slice f i.eqs.length e,.slice c i.neqs.length d,i' i.next],z,⟨_,z,(m.mono j)⟩,⟨[.slice f i.eqs.length e],[.slice c i.neqs.length d,i' i.next],z,⟨_,z,(n.mono j)⟩,⟨[.slice c i.neqs.length d],[i' i.next],z,⟨_,z,(l.mono j)⟩,z⟩⟩⟩) (mt o p)),(H' (ch' (r:=(Rp.int .i64)) (cs:=[i' k]) u z z) p)⟩))))⟩
theorem fY'(j:Zc)(i:Za)(B:Nat)(u:Nat)(r:Bool)(hr:(Zaz j i).Ret r):Ctr prog 137 #[.pointer (some ⟨B,0,none⟩),.pointer (some ⟨u,0,none⟩)] (fun G=>At af' G B 0 j/\At aP' G u 0 i) (fun G v=>v = .bool r):=by
 refine E' (args:=[_,_]) (N:=19) func137 z z z (fun R S Q l=>?_)
 obtain⟨c,k⟩:=l
 refine sr<|sg z z<|nr<|yy (aQ' z) z<|yy (Y' sc3 z (aD' (aV' (ay' (ay' (ay' (ay' (ax' c)))))))) z<|aa' hr z (bK' z z) z (fun y hr=>?_) (fun y hr=>?_)
 .refine mv z z<|gy z z (aQ' z) z<|gy z z (Y' sc3 z (aD' (aV' (ay' (ay' (ay' (ay' (ax' c)))))))) z<|aa' hr (v' z z) (ag' z z) z (fun D hr=>?_) (fun D hr=>?_)
  .refine yy (h' z z) z<|mv z z ?_
   obtain⟨t,p,C,x,q,s,A,g,h,d⟩:=cV' k
   refine gy z z (aA' _ ar' z z A) z<|gy z z (aQ' z) z<|gy z z (Y' sc3 z (aD' (aV' (ay' (ay' (ay' (ay' (ax' c)))))))) z ?_
   obtain⟨M,o,hr⟩:=hr
   refine P' (v' z z) z (t' E138 z) (dw' o) z (⟨g,h,d⟩) (fun I O F f=>?_)
   obtain⟨H,J,rfl,m⟩:=f
   obtain⟨P,n,hr⟩:=hr
   refine WL.callFn (vs:=[]) (a:=()) (v' z z) z m z z z n (fun K L E e=>?_)
   subst e
   refine gy z z (aj' z) z<|yy (h' z z) z<|sg z z<|nx<|j' ?_
   obtain rfl:_=r:=hr
   exact k' z z z
  refine yy (h' z z) z<|mv z z<|sn6 z<|yy (l' z z) z<|sg z z<|nx<|j' ?_
  obtain rfl:_=r:=hr
  exact k' z z z
 refine mv z z<|sn3 z<|yy (l' z z) z<|mv z z<|sn6 z<|yy (l' z z) z<|sg z z<|nx<|j' ?_
 obtain rfl:_=r:=hr
 exact k' z z z
theorem dU'{k l c d h g e f r}(hr:(Zct k l).Ret r):Ctr prog 140 #[.agg ((v31' k c d h g e f)).toArray,.bool l] (fun G=>sl Rp.str G c d k.vars/\sl b' G h g k.eqs/\sl b' G e f k.neqs) (wl' b' r):=by
 refine E' (args:=[_,_]) (N:=10) func140 z z z (fun q s p m=>?_)
 obtain⟨n,j,i⟩:=m
 refine sr<|ad' 2 z z z fun t=>sg z z<|nx<|n'<|sr<|mv z z<|nx<|aL' hr z (fun o hr=>?_) (fun o hr=>?_)
 .refine sr<|yy (aZ' z) z<|yy (f' 2 bq' z z z) z<|sg z z<|nx<|j'<|a' ?_
  obtain rfl:_=r:=hr
  exact k' z z ⟨_,_,z,i⟩
 refine q'<|g'<|sr<|yy (aX' z) z<|yy (f' 2 bq' z z z) z<|sg z z<|nx<|j' ?_
 obtain rfl:_=r:=hr
 exact k' z z ⟨_,_,z,j⟩
theorem fZ'(k:Za)(j:Zc)(A:Nat)(t:Nat)(r:Bool)(hr:(ZaP k j).Ret r):Ctr prog 139 #[.pointer (some ⟨A,0,none⟩),.pointer (some ⟨t,0,none⟩)] (fun G=>At aP' G A 0 k/\At af' G t 0 j) (fun G v=>v = .bool r):=by
 refine E' (args:=[_,_]) (N:=20) func139 z z z (fun K L J l=>?_)
 obtain⟨e,d⟩:=l
 refine sr<|sg z z<|nr ?_
 obtain⟨s,o,B,u,p,q,y,h,i,f⟩:=cV' e
 refine yy (aA' _ ar' z z y) z<|yy (dz' z) z<|yy (Y' sc4 z (AtK.bool (ay' (ay' (ay' (ay' (ay' (ay' (ax' d))))))))) z ?_
 obtain⟨H,n,hr⟩:=hr
 refine P' z z (t' E140 z) (dU' n) z (⟨h,i,f⟩) (fun E I c g=>?_)
 obtain⟨F,D,rfl,m⟩:=g
 refine yy (M' w' m z) z<|aa' hr z (ag' z z) z (fun x hr=>?_) (fun x hr=>?_)
 .refine mv z z<|gy z z (aQ' z) z<|gy z z (Y' sc3 z (aD' (H' (aV' (ay' (ay' (ay' (ay' (ax' d)))))) c))) z<|aa' hr (v' z z) (at' z z) z (fun C hr=>?_) (fun C hr=>?_)
  .refine gy z z (e' z) z<|gy z z (bw' z) z<|gy z z (Y' sc3 z (aD' (H' (ay' (ay' (ay' (ax' e)))) c))) z<|gy z z (be' z z) z<|gy z z (h' z z) z<|gy z z (Y0.notD z) z<|yy (h' z z) z<|sg z z<|nx<|j' ?_
   obtain rfl:_=r:=hr
   exact k' z z z
  refine gy z z (e' z) z<|sn3 z<|gy z z (l' z z) z<|gy z z (aj' z) z<|yy (h' z z) z<|sg z z<|nx<|j' ?_
  obtain rfl:_=r:=hr
  exact k' z z z
 refine mv z z<|sn4 z<|N' (x' z z) z<|N' (x' z z) z<|N' (x' z z) z<|sn2 z<|yy (l' z z) z<|sg z z<|nx<|j' ?_
 obtain rfl:_=r:=hr
 exact k' z z z
theorem fS'(f:(List Ze))(e:Za)(t:Nat)(l:Nat)(r:Bool)(hr:(Zao f e).Ret r):Ctr prog 175 #[.pointer (some ⟨t,0,none⟩),.pointer (some ⟨l,0,none⟩)] (fun G=>At (Rp.sl I') G t 0 f/\At aP' G l 0 e) (fun G v=>v = .bool r):=by
 refine E' (args:=[_,_]) (N:=20) func175 z z z (fun M O L h=>?_)
 obtain⟨d,g⟩:=h
 refine sr<|sg z z<|nx<|n'<|ah' [ff,ff,ff,ff,ff,ff,ff,ff,ff] mix (by kernel_rfl) (fun y=>?_)
 obtain⟨R,J,C,B⟩:=bG' d
 refine cn (fun _ c=>Y' cA' z (c _ _ _ C)) ?_
 obtain⟨n,j,hr⟩:=hr
 refine bB' z (fun _=>t' E77 z) (dL' j) z (fun D c=>(B.mono c)) ?_
 cases n
 .refine cn (fun _ c=>e' z)<|ct z z<|ct z z<|ct z z<|ct z z<|ct z z<|ct z z<|U' y<|sn2 z<|yy (l' z z) z<|mv z z<|sn3 z<|yy (l' z z) z<|sg z z<|u'<|aq'<|g'<|j' ?_
  obtain rfl:_=r:=hr
  exact k' z z z
 refine cn (fun _ c=>e' z) ?_
 obtain⟨S,E,o,q⟩:=bG' d
 refine cy z z (fun _ c=>Y' cA' z (c _ _ _ o)) ?_
 obtain⟨I,i,hr⟩:=hr
 refine bB' (v' z z) (fun _=>t' E78 z) (cW' i) z (fun D c=>(q.mono c))<|cy z z (fun _ c=>aO' aS' aE' z)<|cy z z (fun _ c=>aF' z) ?_
 obtain⟨P,F,x,m⟩:=bG' (aV' (ax' g))
 refine cy z z (fun _ c=>Y' bA' z (c _ _ _ x))<|cy z z (fun _ c=>M' F' (m.mono c) z)<|U' y ?_
 obtain⟨A,hr⟩:=hr
 refine gy z z (Y0.shr z z A) z<|aa' hr (v' z z) (at' z z) z (fun p hr=>?_) (fun p hr=>?_)
 .refine yy (h' z z) z<|mv z z ?_
  obtain⟨Q,K,u,s⟩:=bG' d
  refine gy z z (Y' cA' z (u)) z ?_
  obtain⟨H,k,hr⟩:=hr
  refine D' (v' z z) z (t' E79 z) (dI' k) z (s)<|gy z z (bK' z z) z<|yy (h' z z) z<|sg z z<|u'<|aq'<|g'<|j' ?_
  obtain rfl:_=r:=hr
  exact k' z z z
 refine yy (h' z z) z<|mv z z<|sn3 z<|yy (l' z z) z<|sg z z<|u'<|aq'<|g'<|j' ?_
 obtain rfl:_=r:=hr
 exact k' z z z
theorem fE'{i n g h f e c d p q r}(hr:(Zhe i n).Ret r):Ctr prog 141 #[.agg ((v31' i g h f e c d)).toArray,.slice p n.length q] (fun G=>sl Rp.str G g h i.vars/\sl b' G f e i.eqs/\sl b' G c d i.neqs/\sl I' G p q n) (fun G v=>∃ C F,v=C/\FnRd prog fa0 foB G C F r):=by
 refine E' (args:=[_,_]) (N:=6) func141 z z z (fun M O t u=>?_)
 obtain⟨m,o,l,D⟩:=u
 refine sr<|ad' 128202 z z z fun H=>ad' 128203 z z z fun E=>sg z z<|nx<|n'<|bC' 128203 z (by rw[t]; rfl) fun L k y K=>bC' 128202 z (by rw[t]; rfl) fun B j A I=>A'<|yy (bO' z z) z<|sg z z<|nx<|j' ?_
 obtain rfl:_=r:=hr
 exact k' z z ⟨_,_,z,(show FnRd prog fa0 foB B (.func (.func 175) #[] #[.pointer (some ⟨E,0,none⟩),.pointer (some ⟨H,0,none⟩)]) () (fun _=>Zao n i) from (dq' E175 (fun x J=>dr' (fS' _ _ _ _ x J) (fun P s=>⟨(H' (ch' (r:=(Rp.sl I')) (cs:=[.slice p n.length q]) y z ⟨_,z,(D.mono k)⟩) (mt j s)),(H' (ch' (r:=aP') (cs:=(v31' i g h f e c d)) A z ⟨[.slice g i.vars.length h],[.slice f i.eqs.length e,.slice c i.neqs.length d,i' i.next],z,⟨_,z,(m.mono (mt k j))⟩,⟨[.slice f i.eqs.length e],[.slice c i.neqs.length d,i' i.next],z,⟨_,z,(o.mono (mt k j))⟩,⟨[.slice c i.neqs.length d],[i' i.next],z,⟨_,z,(l.mono (mt k j))⟩,z⟩⟩⟩) s)⟩))))⟩
theorem fc'{l k d e h g c f i j r}(hr:(Zb4 l k).Ret r):Ctr prog 65 #[.agg ((v31' l d e h g c f)).toArray,.agg ((v48' k i j)).toArray] (fun G=>sl Rp.str G d e l.vars/\sl b' G h g l.eqs/\sl b' G c f l.neqs/\sl I' G i j k.p) (fun G v=>v=i' r):=by
 refine E' (args:=[_,_]) (N:=12) func65 z z z (fun u y t m=>?_)
 obtain⟨o,p,n,s⟩:=m
 refine sr<|ad' 2 z z z fun A=>ad' 3 z z z fun x=>sg z z<|nx<|n'<|sr<|yy (aQ' z) z<|yy (f' 3 sc3 z z z) z<|yy (at' z z) z<|nx<|L' hr z (fun q hr=>?_) (fun q hr=>?_)
 .refine sr<|yy (bw' z) z<|yy (f' 2 sc3 z z z) z<|sg z z<|nx<|j'<|a' ?_
  obtain rfl:_=r:=hr
  exact k' z z z
 refine q'<|g'<|sr<|yy (aQ' z) z<|yy (f' 3 sc3 z z z) z<|sg z z<|nx<|j' ?_
 obtain rfl:_=r:=hr
 exact k' z z z
theorem ca'{o c f r}(hr:(ZB o).Ret r):CtrL prog 176 #[.slice c o.length f] [] (fun G=>sl b' G c f o) (fun G L v=>∃ t y g,L=[(7000,g)]/\v = .slice t r.length y/\RowR b' 110 G (.slice t r.length y) r g):=by
 refine bf' (args:=[_]) (N:=8) func176 z z z (fun s d A l=>?_)
 have k:=l
 refine sr<|sg z z<|nx<|n'<|sr<|mv z z<|yy (Y0.eqlNil w' z z) z<|nx<|dA' (p:=c=none) z (fun h=>?_) (fun h=>?_)
 .replace hr:=hr.1 (SlR.Zji k h)
  refine sr<|sg z z<|nx<|j'<|a' ?_
  obtain rfl:_=r:=hr
  refine aJ' (S':=St s d d [(7000,none)]) (wk (lw ln))<|k' z z ⟨_,_,_,z,z,(RowR.nil (r:=b') (e:=110))⟩
 replace hr:=hr.2
 refine q'<|g'<|sr<|WL.litT (e:=110) (r:=b') (vs:=#[]) (cs:=[]) ([]:List Zb) 4005 z z z z z (by decide) (fun _=>by kernel_rfl) (z) fun D B x=>mv z z ?_
 obtain⟨n,hr⟩:=hr
 refine cx' (r:=b') (e:=110) 4005 z z w' el110 z (by decide) z z x z k n fun E C m u=>sg z z<|nx<|j' ?_
 obtain rfl:_=r:=hr
 refine aJ' (S':=St s d d [(7000,m)]) ?_ ?_
 .intro w q
  have q:=q.rekey (i:=4005) (j:=7000) z (by rw[A]; rfl)
  exact q.weaken (lc z ln)
 exact k' z z ⟨_,_,_,z,z,u⟩
theorem eM'{c r}(hr:(cmp_isNaN_int c).Ret r):Ctr prog 197 #[i' c] (fun G=>True) (fun G v=>v = .bool r):=by
 refine E' (args:=[_]) (N:=6) func197 z z z fun f g e d=>sr<|sg z z<|nr<|mv z z<|mv z z<|yy (av' z z) z<|sg z z<|nx<|j' ?_
 obtain rfl:_=r:=hr
 exact k' z z z
theorem fC'{f c r}(hr:(ZcN f c).Ret r):Ctr prog 179 #[i' f,i' c] (fun G=>True) (fun G v=>v=i' r):=by
 refine E' (args:=[_,_]) (N:=20) func179 z z z fun o p n k=>sr<|sg z z<|nr<|mv z z ?_
 obtain⟨l,e,hr⟩:=hr
 refine D' z z (t' E197 z) (eM' e) z (trivial)<|sg z z<|nr<|mv z z ?_
 obtain⟨m,d,hr⟩:=hr
 refine D' z z (t' E197 z) (eM' d) z (trivial)<|sg z z<|nx<|n'<|sr<|mv z z<|nx<|aL' hr z (fun h hr=>?_) (fun h hr=>?_)
 .exact (show False from hr).elim
 refine q'<|g'<|n'<|sr<|mv z z<|nx<|aL' hr z (fun i hr=>?_) (fun i hr=>?_)
 .exact (show False from hr).elim
 refine q'<|g'<|n'<|sr<|mv z z<|mv z z<|yy (ag' z z) z<|nx<|L' hr z (fun g hr=>?_) (fun g hr=>?_)
 .refine sr<|sg z z<|nx<|j'<|a' ?_
  obtain rfl:_=r:=hr
  exact k' z z z
 refine q'<|g'<|n'<|sr<|mv z z<|mv z z<|yy (bh' z z) z<|nx<|L' hr z (fun j hr=>?_) (fun j hr=>?_)
 .refine sr<|sg z z<|nx<|j'<|a' ?_
  obtain rfl:_=r:=hr
  exact k' z z z
 refine q'<|g'<|sr<|sg z z<|nx<|j' ?_
 obtain rfl:_=r:=hr
 exact k' z z z
theorem eH'{e f c d r}(hr:(ZbU e f).Ret r):Ctr prog 178 #[.agg ((v110' e.id c e.p d)).toArray,i' f] (fun G=>sl I' G c d e.p) (fun G v=>v=i' r):=by
 refine E' (args:=[_,_]) (N:=9) func178 z z z (fun l m k g=>?_)
 have i:=g
 refine sr<|ad' 2 z z z fun n=>sg z z<|nr<|yy (bn' z) z<|yy (f' 2 sc3 z z z) z<|mv z z ?_
 obtain⟨j,h,hr⟩:=hr
 refine D' z z (t' E179 z) (fC' h) z (trivial)<|sg z z<|nx<|j' ?_
 obtain rfl:_=r:=hr
 exact k' z z z
theorem cm'{f c m n r}(hr:(Zo f c).Ret r):Ctr prog 177 #[.slice m f.length n,i' c,.func (.func 178) #[] #[]] (fun G=>sl b' G m n f) (fun G v=>v = .tuple #[i' r.1,.bool r.2]):=by
 refine E' (args:=[_,_,_]) (N:=49) func177 z z z (fun B o U t=>?_)
 have i:=t
 refine sr<|sg z z<|sg z z<|nr<|mv z z<|yy (M' w' i z) z<|sg z z<|nr<|mv z z<|sg z z<|sg z z<|nx<|n'<|ak' (fun (⟨k,j⟩:Int×Mem)=>[(0,.slice m f.length n),(1,i' c),(2,.func (.func 178) #[] #[]),(8,i' (f.length:Int)),(9,i' k)]) (fun ⟨k,j⟩=>Mem.le o j/\(Zq f c k).Ret r) (fun ⟨k,j⟩=>St B o j []) ?_ ?_
 .refine C' ?_
  let p:Int->Prop:=fun J=>((fun K=>match K with|k=>Zq f c k:Int->Cq (Int×Bool)) J).wp (fun a=>a=r)
  replace hr:(Cq.loop _ _).wp p:=hr
  refine al' (Φ:=p) (fun (⟨g,h,e⟩:Int×Int×Mem)=>((g,h):Int×Int)) (fun ⟨g,h,e⟩=>[(0,.slice m f.length n),(1,i' c),(2,.func (.func 178) #[] #[]),(8,i' (f.length:Int)),(9,i' g),(10,i' h)]) (fun ⟨g,h,e⟩=>Mem.le o e) (fun ⟨g,h,e⟩=>St B o e []) ⟨0,(f.length:Int),o⟩ hr (f6 z z z z z z) mr (wk ln) ?_
  .intro R I P hr
   obtain⟨g,h,e⟩:=I
   have d:=P
   refine n'<|sr<|mv z z<|mv z z<|yy (ag' z z) z<|nx<|L' hr z (fun H hr=>?_) (fun H hr=>?_)
   .refine q'<|g'<|C'<|sr<|mv z z<|mv z z<|yy (W' z z) z<|yy (aO' aE' dN' z) z<|yy (Y0.shr z z (by decide)) z<|yy (aO' dN' aE' z) z<|sg z z<|nr<|mv z z<|mv z z<|mv z z ?_
    obtain⟨V,q,hr⟩:=hr
    refine yy (Q' w' aR' (i.mono d) z z q) z ?_
    obtain⟨M,L,C,u⟩:=bp' (H' (ab' i q) d)
    refine yy (aA' _ bJ' z z C) z<|mv z z ?_
    obtain⟨T,x,hr⟩:=hr
    refine D' z z (dh' E178 z z) (eH' x) z (u)<|yy (ag' z z) z<|nx<|L' hr z (fun F hr=>?_) (fun F hr=>?_)
    .refine A'<|mv z z<|yy (W' z z) z<|sg z z<|u'<|J'<|X' ⟨i64.wrap ((i64.wrap (Int.fdiv (u64.wrap (i64.wrap (g+h))) (2 ^ (min (1:Int).toNat u64.bits))))+1),h,e⟩ hr d (f6 z z z z z z) (wk ln)
    refine A'<|mv z z<|sg z z<|u'<|J'<|X' ⟨g,i64.wrap (Int.fdiv (u64.wrap (i64.wrap (g+h))) (2 ^ (min (1:Int).toNat u64.bits))),e⟩ hr d (f6 z z z z z z) (wk ln)
   refine am'<|r'<|r'<|O'<|ao' ⟨g,e⟩ ⟨d,hr⟩ (f5 z z z z z) (wk ln)
 rintro⟨k,j⟩ ⟨l,hr⟩
 refine g'<|sr<|mv z z<|mv z z<|mv z z<|aa' hr z (ag' z z) z (fun D hr=>?_) (fun D hr=>?_)
 .refine mv z z<|gy z z (e' z) z<|gy z z (e' z) z<|gy z z (e' z) z ?_
  obtain⟨W,s,hr⟩:=hr
  refine gy z z (Q' w' aR' (i.mono l) z z s) z ?_
  obtain⟨O,Q,E,A⟩:=bp' (H' (ab' i s) l)
  refine gy z z (aA' _ bJ' z z E) z<|gy z z (e' z) z ?_
  obtain⟨S,y,hr⟩:=hr
  refine D' (v' z z) z (dh' E178 z z) (eH' y) z (A)<|gy z z (at' z z) z<|yy (h' z z) z<|sg z z<|sg z z<|nx<|j' ?_
  obtain rfl:_=r:=hr
  exact aC' z z z z
 refine mv z z<|sn8 z<|yy (l' z z) z<|sg z z<|sg z z<|nx<|j' ?_
 obtain rfl:_=r:=hr
 exact aC' z z z z
theorem fd'{v q I c d x t o l n m r}(hr:(Zdw v q I).Ret r):Ctr prog 142 #[.agg ((v31' v c d x t o l)).toArray,.agg ((v110' q.id n q.p m)).toArray,.bool I] (fun G=>sl Rp.str G c d v.vars/\sl b' G x t v.eqs/\sl b' G o l v.neqs/\sl I' G n m q.p) (w31' r):=by
 refine E' (args:=[_,_,_]) (N:=32) func142 z z z (fun w0 G0 u R=>?_)
 obtain⟨k,A,y,Q⟩:=R
 have hz:w0.L.zero:=by rw[u]; intro p hp; simp at hp
 refine sr<|ad' 3 z z z fun b1=>ad' 4 z z z fun b2=>T' 6 z z31 z fun b3=>nr<|yy (o' 3 ar' z z z) z<|mv z z ?_
 obtain⟨ay,S,hr⟩:=hr
 refine P' z z (t' E140 z) (dU' S) z (⟨k,A,y⟩) (fun am aD g F=>?_)
 obtain⟨ak,al,rfl,W⟩:=F
 obtain⟨au,P,hr⟩:=hr
 refine cJ' z z (t' E176 z) (ca' P) z (W) ln hz (fun aq ax ao f E=>?_)
 obtain⟨ag,ap,ae,rfl,rfl,K⟩:=E
 refine bH' (fun w L=>L.rekey (i:=7000) (j:=4013) z (by rw[u]; rfl))<|sg z z<|nr<|mv z z<|yy (bn' z) z<|yy (f' 4 sc3 z z z) z ?_
 obtain⟨aB,X,hr⟩:=hr
 refine WL.peekROZ (L1:=[]) (r:=b') (e:=110) 4013 K z hz z z (fun _=>t' E177 z) (Ctr.ro (cm' X)) z (fun G' ar Z=>Z) ln (fun i hi=>by simp at hi) hz<|mv z z<|yy (y' z z) z<|yy (y' z z) z<|sg z z<|sg z z<|nr<|mv z z<|mv z z<|yy (o' 4 bJ' z z z) z<|bd' (e:=110) (r:=b') (vs:=#[(0,.agg ((v110' q.id n q.p m)).toArray)]) (cs:=(v110' q.id n q.p m)++([])) ([q]:List Zb) z z z z z (by decide) (fun _=>by kernel_rfl) ⟨(v110' q.id n q.p m),[],z,⟨[i' q.id],[.slice n q.p.length m],z,z,⟨_,z,(Q.mono (mt g f))⟩⟩,z⟩ (key:=999) z (by rw[u]; rfl) (fun p1 aA h Y=>?_)
 obtain⟨O,T,hr⟩:=hr
 refine bH' (fun w L=>L.rekey (i:=4013) (j:=5000) z (by rw[u]; rfl))<|cJ' z z (t' E180 z) (dy' T) z (⟨(K.mono h),Y⟩) (lc z ln) hz (fun aj az ai s D=>?_)
 obtain⟨J,M,ac,rfl,rfl,H⟩:=D
 refine bH' (fun w L=>L.rekey (i:=5000) (j:=4025) z (by rw[u]; rfl))<|sg z z<|nx<|n'<|sr<|mv z z<|nx<|aL' hr z (fun aa hr=>?_) (fun aa hr=>?_)
 .refine A'<|mv z z<|yy (aZ' z) z<|aG' 3 ([.slice c v.vars.length d,.slice x v.eqs.length t,.slice J O.length M,i' v.next]).toArray z sz29 z z z (show 2<4 by decide) z z<|nr<|bM' (r:=b') (e:=110) 4025 H z (by rw[u]; rfl) fun av aC B V ab=>yy (o' 3 ar' z z z) z<|s' 6 z aU' z z z z z (List.all_eq_true.1 z)<|nx<|j' ?_
  obtain rfl:_=r:=hr
  have N1:=mt (mt (mt (mt g f) h) s) B
  exact k' z (ac' (i:=6) ar' z z z) ⟨_,_,_,_,_,_,z,(k.mono N1),(A.mono N1),V⟩
 refine A'<|mv z z<|yy (aX' z) z<|aG' 3 ([.slice c v.vars.length d,.slice J O.length M,.slice o v.neqs.length l,i' v.next]).toArray z sz29 z z z (show 1<4 by decide) z z<|nr<|bM' (r:=b') (e:=110) 4025 H z (by rw[u]; rfl) fun aE aw C U ad=>yy (o' 3 ar' z z z) z<|s' 6 z aU' z z z z z (List.all_eq_true.1 z)<|nx<|j' ?_
 obtain rfl:_=r:=hr
 have N2:=mt (mt (mt (mt g f) h) s) C
 exact k' z (ac' (i:=6) ar' z z z) ⟨_,_,_,_,_,_,z,(k.mono N2),U,(y.mono N2)⟩
theorem gQ'{o c s t q p k j g f r}(hr:(ZiA o c).Ret r):Ctr prog 89 #[.agg ((v31' o s t q p k j)).toArray,.agg ((v48' c g f)).toArray] (fun G=>sl Rp.str G s t o.vars/\sl b' G q p o.eqs/\sl b' G k j o.neqs/\sl I' G g f c.p) (w31t' r):=by
 refine E' (args:=[_,_]) (N:=41) func89 z z z (fun w0 G0 ak ax=>?_)
 obtain⟨u,A,y,D⟩:=ax
 refine sr<|ad' 117802 z z z fun b1=>ad' 117803 z z z fun b2=>T' 4 z z31 z fun b3=>sg z z<|nx<|n'<|bC' 117803 z (by rw[ak]; rfl) fun a4 l ai aw=>bC' 117802 z (by rw[ak]; rfl) fun aq m ao au=>ah' [ff,ff,ff,ff,ff,ff,ff] mix (by kernel_rfl) fun hb=>cn (fun _ n=>bO' z z) ?_
 obtain⟨am,ay,hr⟩:=hr
 refine aW' (post:=fun G v=>∃ C F,v=C/\FnRd prog fa0 foI G C F am) (fun _=>z) (fun _ _=>t' E121 z) (bx' ay) z (fun G' n=>((show FnRd prog fa0 foB aq (.func (.func 137) #[] #[.pointer (some ⟨b2,0,none⟩),.pointer (some ⟨b1,0,none⟩)]) () (fun _=>Zaz c o) from (dq' E137 (fun x hx=>dr' (fY' _ _ _ _ x hx) (fun G' n=>⟨(H' (ch' (r:=af') (cs:=(v48' c g f)) ai z ⟨[i' c.kind],[.string c.name,i' c.at',i' c.to',i' c.id,.slice g c.p.length f,.bool c.neq],z,z,⟨[.string c.name],[i' c.at',i' c.to',i' c.id,.slice g c.p.length f,.bool c.neq],z,z,⟨[i' c.at'],[i' c.to',i' c.id,.slice g c.p.length f,.bool c.neq],z,z,⟨[i' c.to'],[i' c.id,.slice g c.p.length f,.bool c.neq],z,z,⟨[i' c.id],[.slice g c.p.length f,.bool c.neq],z,z,⟨[.slice g c.p.length f],[.bool c.neq],z,⟨_,z,(D.mono l)⟩,z⟩⟩⟩⟩⟩⟩) (mt m n)),(H' (ch' (r:=aP') (cs:=(v31' o s t q p k j)) ao z ⟨[.slice s o.vars.length t],[.slice q o.eqs.length p,.slice k o.neqs.length j,i' o.next],z,⟨_,z,(u.mono (mt l m))⟩,⟨[.slice q o.eqs.length p],[.slice k o.neqs.length j,i' o.next],z,⟨_,z,(A.mono (mt l m))⟩,⟨[.slice k o.neqs.length j],[i' o.next],z,⟨_,z,(y.mono (mt l m))⟩,z⟩⟩⟩) n)⟩)))).mono n)) (fun v G1 G2 n h=>?_) ?_
 .obtain⟨C,F,rfl,O⟩:=h
  exact⟨_,_,z,O.mono n⟩
 refine cu (fun _ _ n=>bO' z z) ?_
 obtain⟨al,ar,hr⟩:=hr
 refine aW' (post:=fun G v=>∃ B I,v=B/\FnRd prog fa0 foI G B I al) (fun _=>z) (fun _ _=>t' E121 z) (bx' ar) z (fun G' n=>((show FnRd prog fa0 foB aq (.func (.func 139) #[] #[.pointer (some ⟨b1,0,none⟩),.pointer (some ⟨b2,0,none⟩)]) () (fun _=>ZaP o c) from (dq' E139 (fun x hx=>dr' (fZ' _ _ _ _ x hx) (fun G' n=>⟨(H' (ch' (r:=aP') (cs:=(v31' o s t q p k j)) ao z ⟨[.slice s o.vars.length t],[.slice q o.eqs.length p,.slice k o.neqs.length j,i' o.next],z,⟨_,z,(u.mono (mt l m))⟩,⟨[.slice q o.eqs.length p],[.slice k o.neqs.length j,i' o.next],z,⟨_,z,(A.mono (mt l m))⟩,⟨[.slice k o.neqs.length j],[i' o.next],z,⟨_,z,(y.mono (mt l m))⟩,z⟩⟩⟩) n),(H' (ch' (r:=af') (cs:=(v48' c g f)) ai z ⟨[i' c.kind],[.string c.name,i' c.at',i' c.to',i' c.id,.slice g c.p.length f,.bool c.neq],z,z,⟨[.string c.name],[i' c.at',i' c.to',i' c.id,.slice g c.p.length f,.bool c.neq],z,z,⟨[i' c.at'],[i' c.to',i' c.id,.slice g c.p.length f,.bool c.neq],z,z,⟨[i' c.to'],[i' c.id,.slice g c.p.length f,.bool c.neq],z,z,⟨[i' c.id],[.slice g c.p.length f,.bool c.neq],z,z,⟨[.slice g c.p.length f],[.bool c.neq],z,⟨_,z,(D.mono l)⟩,z⟩⟩⟩⟩⟩⟩) (mt m n))⟩)))).mono n)) (fun v G1 G2 n h=>?_) ?_
 .obtain⟨B,I,rfl,L⟩:=h
  exact⟨_,_,z,L.mono n⟩
 refine cu (fun _ _ n=>o' 117802 ar' z z z)<|cu (fun _ _ n=>dl' z)<|cu (fun _ _ n=>f' 117803 cA' z z z)<|dt' (d:=11) (post:=fun G v=>∃ B I,v=B/\FnRd prog fa0 foI G B I al) (d':=9) (post':=fun G v=>∃ C F,v=C/\FnRd prog fa0 foI G C F am) (fun aW aT a1 E ad ae=>?_)
 obtain⟨B,I,rfl,L⟩:=ad
 obtain⟨C,F,rfl,O⟩:=ae
 obtain⟨a2,aF,hr⟩:=hr
 have N1:=mt (mt l m) E
 refine P' z z (t' E141 z) (fE' aF) z (⟨(u.mono N1),(A.mono N1),(y.mono N1),(D.mono N1)⟩) (fun aN a0 K af=>?_)
 obtain⟨aU,aO,rfl,az⟩:=af
 obtain⟨aJ,aA,hr⟩:=hr
 refine P' z z (t' E121 z) (bx' aA) z (az) (fun aS a3 M ac=>?_)
 obtain⟨aM,aP,rfl,aj⟩:=ac
 obtain⟨an,X,rfl⟩:=ce' O
 obtain⟨Z,J,rfl⟩:=ce' L
 obtain⟨P,H,rfl⟩:=ce' aj
 refine bd' (e:=178) (r:=(Rp.fn prog fa0 foI)) (vs:=#[(0,(.func (.func an) #[] X)),(1,(.func (.func Z) #[] J)),(2,(.func (.func P) #[] H))]) (cs:=[(.func (.func an) #[] X)]++([(.func (.func Z) #[] J)]++([(.func (.func P) #[] H)]++([])))) ([am,al,aJ]:List (Unit->Cq Int)) z z z z z (by decide) (fun _=>by kernel_rfl) ⟨[(.func (.func an) #[] X)],[(.func (.func Z) #[] J)]++([(.func (.func P) #[] H)]++([])),z,⟨_,z,(O.mono (mt K M))⟩,⟨[(.func (.func Z) #[] J)],[(.func (.func P) #[] H)]++([]),z,⟨_,z,(L.mono (mt K M))⟩,⟨[(.func (.func P) #[] H)],[],z,⟨_,z,aj⟩,z⟩⟩⟩ (key:=999) z (by rw[ak]; rfl) (fun p1 aY ap aG=>?_)
 obtain⟨aX,aD,hr⟩:=hr
 refine D' z z (t' E120 z) (cP' aD) z (aG)<|sg z z<|da' 117802 z au l (mt (mt (mt (mt m E) K) M) ap)<|da' 117803 z aw mr l<|u'<|aq'<|g'<|n'<|sr<|mv z z<|yy (av' z z) z<|nx<|L' hr z (fun aK hr=>?_) (fun aK hr=>?_)
 .refine sr<|yy (aw' (vs:=#[]) (v:=.agg ([.slice none 0 0,.slice none 0 0,.slice none 0 0,i' 0]).toArray) z z (fun _=>by kernel_rfl)) z<|mv z z<|s' 4 z aU' z z z z z (List.all_eq_true.1 z)<|sg z z<|nx<|j'<|a' ?_
  obtain rfl:_=r:=hr
  exact aC' z (ac' (i:=4) ar' z z z) z ⟨_,_,_,_,_,_,z,(V' Rp.str _),(V' b' _),(V' b' _)⟩
 refine q'<|g'<|sr<|yy (o' 117802 ar' z z z) z<|yy (o' 117803 bL' z z z) z ?_
 obtain⟨Y,aB,hr⟩:=hr
 refine D' z z (t' E65 z) (fc' aB) z (⟨u,A,y,D⟩)<|sg z z<|nr<|yy (o' 117802 ar' z z z) z<|mv z z<|yy (dl' z) z<|yy (f' 117803 cA' z z z) z<|yy (aw' (vs:=#[(0,i' Y),(1,.slice g c.p.length f)]) (v:=.agg ([i' Y,.slice g c.p.length f]).toArray) z z (fun _=>by kernel_rfl)) z<|yy (dz' z) z<|yy (f' 117803 sc4 z z z) z ?_
 obtain⟨Q,aC,hr⟩:=hr
 refine P' z z (t' E142 z) (fd' aC) z (⟨u,A,y,D⟩) (fun aQ aZ aL ag=>?_)
 obtain⟨U,T,aa,ah,W,S,rfl,R,ab,V⟩:=ag
 refine s' 117802 z aU' z z z z z (List.all_eq_true.1 z)<|nr<|yy (bw' z) z<|yy (f' 117802 sc3 z z z) z<|mv z z<|yy (W' z z) z<|yy (en' z z) z<|yy (bw' z) z<|aG' 117802 ([.slice U Q.vars.length T,.slice aa Q.eqs.length ah,.slice W Q.neqs.length S,i' (if Q.next<(i64.wrap (Y+1)) then (i64.wrap (Y+1)) else Q.next)]).toArray z sz3 z z z (show 3<4 by decide) z z<|nr<|yy (o' 117802 ar' z z z) z<|s' 4 z aU' z z z z z (List.all_eq_true.1 z)<|sg z z<|nx<|j' ?_
 obtain rfl:_=r:=hr
 exact aC' z (ac' (i:=4) ar' z z z) z ⟨_,_,_,_,_,_,z,R,ab,V⟩
theorem eB'{f c e d g r}(hr:(ZcS f c).Ret r):CtrL prog 181 #[.agg ((v110' f.id e f.p d)).toArray,.pointer (some ⟨g,0,none⟩)] [(128603,some ⟨g,.cells ([i' c]).toArray 3 (0,0),0⟩)] (fun G=>sl I' G e d f.p) (fun G L v=>L=[(128603,some ⟨g,.cells ([i' c]).toArray 3 (0,0),0⟩)]/\v = .bool r):=by
 refine bf' (args:=[_,_]) (N:=8) func181 z z z (fun j i l h=>?_)
 have k:=h
 refine sr<|ad' 2 z z z fun m=>sg z z<|nr<|yy (bn' z) z<|yy (f' 2 sc3 z z z) z<|yy (f' 128603 sc3 z z z) z<|yy (at' z z) z<|sg z z<|nx<|j' ?_
 obtain rfl:_=r:=hr
 refine aJ' (S':=St j i i [(128603,some ⟨g,.cells ([i' c]).toArray 3 (0,0),0⟩)]) (w1 z)<|k' z z ⟨z,z⟩
theorem cB'{o d q n h r}(hr:(Zz o d).Ret r):CtrL prog 200 #[.slice q o.length n,.func (.func 181) #[] #[.pointer (some ⟨h,0,none⟩)]] [(128603,some ⟨h,.cells ([i' d]).toArray 3 (0,0),0⟩)] (fun G=>sl b' G q n o) (fun G L v=>L=[(128603,some ⟨h,.cells ([i' d]).toArray 3 (0,0),0⟩)]/\v=i' r):=by
 refine bf' (args:=[_,_]) (N:=19) func200 z z z (fun m j M B=>?_)
 have t:=B
 have hz:m.L.zero:=by
  rw[M]; intro p I x E
  simp only[List.mem_cons,List.not_mem_nil,or_false] at I
  subst I; cases E; rfl
 refine sr<|sg z z<|nx<|n'<|sr<|mv z z<|yy (M' w' t z) z<|mv z z<|nx<|ak' (fun (k:Mem)=>match k with|g=>[]) (fun (k:Mem)=>match k with|g=>Mem.le j g/\(Zy).Ret r) (fun (k:Mem)=>match k with|g=>St m j g [(128603,some ⟨h,.cells ([i' d]).toArray 3 (0,0),0⟩)]) ?_ ?_
 .refine C' ?_
  let s:(Int⊕Unit)->Prop:=fun P=>((fun Q=>match Q with | .inl rv1=>Cq.ret rv1 | .inr ()=>Zy:(Int⊕Unit)->Cq Int) P).wp (fun a=>a=r)
  replace hr:(Cq.loop _ _).wp s:=hr
  refine al' (Φ:=s) (fun (⟨c,f⟩:Int×Mem)=>(c:Int)) (fun ⟨c,f⟩=>[(0,.slice q o.length n),(1,.func (.func 181) #[] #[.pointer (some ⟨h,0,none⟩)]),(7,i' (o.length:Int)),(8,i' c)]) (fun ⟨c,f⟩=>Mem.le j f) (fun ⟨c,f⟩=>St m j f [(128603,some ⟨h,.cells ([i' d]).toArray 3 (0,0),0⟩)]) ⟨0,j⟩ hr (f4 z z z z) mr (w1 z) ?_
  .intro U k E hr
   obtain⟨c,f⟩:=k
   have e:=E
   refine sr<|yy (ag' z z) z<|nx<|n'<|L' hr z (fun K hr=>?_) (fun K hr=>?_)
   .refine q'<|g'<|n'<|C'<|sr<|mv z z<|sg z z<|nr<|mv z z<|mv z z<|mv z z ?_
    obtain⟨W,y,hr⟩:=hr
    refine yy (Q' w' aR' (t.mono e) z z y) z ?_
    obtain⟨R,T,F,D⟩:=bp' (H' (ab' t y) e)
    refine yy (aA' _ bJ' z z F) z ?_
    obtain⟨V,C,hr⟩:=hr
    refine WL.callRO z z (dh' E181 z z) (eB' C) z (D) (lc z ln) (fun i H=>by simp only[List.map_cons,List.map_nil,List.mem_cons,List.not_mem_nil,or_false] at H; subst H; exact z) hz (fun S A u l=>?_)
    subst l
    refine nx<|aL' hr z (fun J hr=>?_) (fun J hr=>?_)
    .refine sr<|mv z z<|sg z z<|nx<|j'<|m'<|a'<|a'<|m'<|ae'<|a' ?_
     obtain rfl:_=r:=hr
     refine aJ' (S':=St m j A [(128603,some ⟨h,.cells ([i' d]).toArray 3 (0,0),0⟩)]) (w1 z)<|k' z z ⟨z,z⟩
    refine q'<|J'<|g'<|A'<|yy (W' z z) z<|mv z z<|u'<|X' ⟨i64.wrap (c+1),A⟩ hr (mt e u) (f4 z z z z) (w1 z)
   refine am'<|r'<|r'<|O'<|ao' f ⟨e,hr⟩ fn (w1 z)
 rintro g ⟨O,hr⟩
 refine g'<|sr<|sg z z<|nx<|j' ?_
 obtain rfl:_=r:=hr
 refine aJ' (S':=St m j g [(128603,some ⟨h,.cells ([i' d]).toArray 3 (0,0),0⟩)]) (w1 z)<|k' z z ⟨z,z⟩
theorem bN'{Z f n m o t C r}(hr:(Zw Z f).Ret r):CtrL prog 182 #[.slice n o m,.func (.func 181) #[] #[.pointer (some ⟨C,0,none⟩)]] [(5000,t),(128603,some ⟨C,.cells ([i' f]).toArray 3 (0,0),0⟩)] (fun G=>RowR b' 110 G (.slice n o m) Z t) (fun G L v=>∃ zp zc U,L=[(5000,U),(128603,some ⟨C,.cells ([i' f]).toArray 3 (0,0),0⟩)]/\v = .slice zp r.length zc/\RowR b' 110 G (.slice zp r.length zc) r U):=by
 refine bf' (args:=[_,_]) (N:=42) func182 z z z (fun H A ao V=>?_)
 have q:=V
 have hz:H.L.zero:=by
  rw[ao]; intro p hp x O
  simp only[List.mem_cons,List.not_mem_nil,or_false] at hp
  rcases hp with rfl|rfl
  .exact RowR.zero q O
  cases O; rfl
 refine sr<|sg z z<|nr<|mv z z<|mv z z ?_
 obtain⟨Q,Y,hr⟩:=hr
 refine WL.peekROZ (r:=b') (e:=110) 5000 q z hz z z (fun _=>t' E200 z) (cB' Y) (by rw[RowR.eqv q]) (fun G' ay ae=>(de' ae)) (lc z ln) (fun i hi=>by simp only[List.map_cons,List.map_nil,List.mem_cons,List.not_mem_nil,or_false] at hi; subst hi; exact⟨z,by decide⟩) hz<|sg z z<|nx<|n'<|sr<|mv z z<|yy (at' z z) z<|nx<|L' hr z (fun aj hr=>?_) (fun aj hr=>?_)
 .refine sr<|mv z z<|sg z z<|nx<|j'<|a' ?_
  obtain rfl:_=r:=hr
  refine aJ' (S':=St H A A [(5000,t),(128603,some ⟨C,.cells ([i' f]).toArray 3 (0,0),0⟩)]) (w2 z z)<|k' z z ⟨_,_,_,z,(RowR.eqv q),(RowR.std q)⟩
 refine q'<|g'<|n'<|sr<|mv z z<|yy (W' z z) z<|sg z z<|nx<|ak' (fun (⟨D,j,y,l⟩:(List Zb)×Option Ow×Int×Mem)=>[(0,.slice n o m),(5,i' y)]) (fun ⟨D,j,y,l⟩=>Mem.le A l/\RowR b' 110 l (.slice n o m) D j/\(Zu D y).Ret r) (fun ⟨D,j,y,l⟩=>St H A l [(128603,some ⟨C,.cells ([i' f]).toArray 3 (0,0),0⟩),(5000,j)]) ?_ ?_
 .refine C' ?_
  let M:(((List Zb)×Int))->Prop:=fun oo=>((fun ov=>match ov with|(D,y)=>Zu D y:(((List Zb)×Int))->Cq (List Zb)) oo).wp (fun a=>a=r)
  replace hr:(Cq.loop _ _).wp M:=hr
  refine al' (Φ:=M) (fun (⟨u,c,k,B,h⟩:(List Zb)×Option Ow×Int×Int×Mem)=>((u,k,B):(List Zb)×Int×Int)) (fun ⟨u,c,k,B,h⟩=>[(0,.slice n o m),(1,.func (.func 181) #[] #[.pointer (some ⟨C,0,none⟩)]),(5,i' k),(6,i' B)]) (fun ⟨u,c,k,B,h⟩=>Mem.le A h/\RowR b' 110 h (.slice n o m) u c) (fun ⟨u,c,k,B,h⟩=>St H A h [(128603,some ⟨C,.cells ([i' f]).toArray 3 (0,0),0⟩),(5000,c)]) ⟨Z,t,Q,i64.wrap (Q+1),A⟩ hr (f4 z z z z) ⟨mr,q⟩ (w2 z z) ?_
  .intro ax gx O hr
   obtain⟨u,c,k,B,h⟩:=gx
   obtain⟨s,g⟩:=O
   refine n'<|sr<|mv z z<|mv z z<|yy (ea' w' g z) z<|yy (ag' z z) z<|nx<|L' hr z (fun ah hr=>?_) (fun ah hr=>?_)
   .refine q'<|g'<|n'<|C'<|sr<|mv z z<|mv z z ?_
    obtain⟨E,P,hr⟩:=hr
    refine yy (ba' w' aR' g z z P) z ?_
    obtain⟨I,K,ad,J⟩:=bp' (cS' g P)
    refine yy (ew' _ bJ' g (key:=5000) z z z (by decide) ad) z<|T' 7 z z110 z fun b2=>s' 7 z aR' z z z z z (List.all_eq_true.1 z)<|nr<|mv z z<|yy (o' 7 bJ' z z z) z ?_
    obtain⟨az,X,hr⟩:=hr
    refine WL.callRO z z (dh' E181 z z) (eB' X) z (J) (lc z ln) (fun i hi=>by simp only[List.map_cons,List.map_nil,List.mem_cons,List.not_mem_nil,or_false] at hi; subst hi; exact z) hz (fun av S d F=>?_)
    subst F
    refine yy (aj' z) z<|nx<|aL' hr z (fun ai hr=>?_) (fun ai hr=>?_)
    .refine sr<|mv z z<|mv z z<|yy (o' 7 bJ' z z z) z ?_
     obtain⟨x2,R,hr⟩:=hr
     refine yy (ba' w' aR' (g.mono d) z z R) z<|bv' (r:=b') (e:=110) (cs':=(v110' E.id I E.p K)) (i:=k) (z':=E) 5000 z aR' z (g.mono d) z z z z ⟨[i' E.id],[.slice I E.p.length K],z,z,⟨_,z,(J.mono d)⟩⟩ R fun an aa=>nx<|A'<|mv z z<|yy (W' z z) z<|sg z z<|u'<|J'<|g'<|A'<|mv z z<|yy (W' z z) z<|sg z z<|u'<|X' ⟨(u.set k.toNat E),an,i64.wrap (k+1),i64.wrap (B+1),S⟩ hr ⟨(mt s d),aa⟩ (f4 z z z z) (w2 z z)
    refine q'<|J'<|g'<|A'<|mv z z<|yy (W' z z) z<|sg z z<|u'<|X' ⟨u,c,k,i64.wrap (B+1),S⟩ hr ⟨(mt s d),(g.mono d)⟩ (f4 z z z z) (w2 z z)
   refine am'<|r'<|r'<|O'<|ao' ⟨u,c,k,h⟩ ⟨s,g,hr⟩ (f2 z z) (w2 z z)
 rintro⟨D,j,y,l⟩ ⟨ap,ak,hr⟩
 refine g'<|sr<|mv z z<|mv z z ?_
 obtain⟨ab,hr⟩:=hr
 refine WL.clearTail (r:=b') (e:=110) (lo:=y) (zx:=(Zb.mk 0 [])) 5000 z w' el110 z z (List.all_eq_true.1 z) (by decide) ⟨[i' 0],[.slice none 0 0],z,z,⟨_,z,(V' _ _)⟩⟩ ak z z z ab fun aw am W=>nr<|mv z z<|mv z z ?_
 obtain⟨af,hr⟩:=hr
 refine WL.takeRow (r:=b') (e:=110) (hi:=y) z z w' aR' z W z z af fun T=>sg z z<|nx<|j' ?_
 obtain rfl:_=r:=hr
 refine aJ' (S':=St H A l [(5000,am),(128603,some ⟨C,.cells ([i' f]).toArray 3 (0,0),0⟩)]) (w2 z z)<|k' z z ⟨_,_,_,z,(RowR.eqv T),(RowR.std T)⟩
theorem eQ'{l I c d n m g h r}(hr:(ZcR l I).Ret r):Ctr prog 143 #[.agg ((v31' l c d n m g h)).toArray,i' I] (fun G=>sl Rp.str G c d l.vars/\sl b' G n m l.eqs/\sl b' G g h l.neqs) (w31' r):=by
 refine E' (args:=[_,_]) (N:=20) func143 z z z (fun w0 G0 f K=>?_)
 obtain⟨B,F,y⟩:=K
 have hz:w0.L.zero:=by rw[f]; intro p hp; simp at hp
 refine sr<|ad' 2 z z z fun b1=>ad' 128603 z z z fun b2=>T' 4 z z31 z fun b3=>nr<|yy (bO' z z) z<|sg z z<|nr<|yy (aX' z) z<|yy (f' 2 bq' z z z) z ?_
 obtain⟨ax,Q,hr⟩:=hr
 refine cJ' z z (t' E176 z) (ca' Q) z (F) ln hz (fun aj az an q C=>?_)
 obtain⟨aq,af,Z,rfl,rfl,O⟩:=C
 refine bH' (fun w k=>k.rekey (i:=7000) (j:=4009) z (by rw[f]; rfl))<|mv z z ?_
 obtain⟨J,P,hr⟩:=hr
 refine bH' (fun w k=>k.rekey (i:=4009) (j:=5000) z (by rw[f]; rfl))<|cJ' z z (t' E182 z) (bN' P) z (O) (lc z (lc z ln)) hz (fun ar aw am o A=>?_)
 obtain⟨E,H,ad,rfl,rfl,V⟩:=A
 refine bH' (fun w k=>k.rekey (i:=5000) (j:=4011) z (by rw[f]; rfl))<|bM' (r:=b') (e:=110) 4011 V z (by rw[f]; rfl) fun aA aD u M ae=>yy (aX' z) z<|aG' 2 ([.slice c l.vars.length d,.slice E J.length H,.slice g l.neqs.length h,i' l.next]).toArray z sz29 z z z (show 1<4 by decide) z z<|nr<|yy (aZ' z) z<|yy (f' 2 bq' z z z) z ?_
 obtain⟨av,W,hr⟩:=hr
 refine cJ' z z (t' E176 z) (ca' W) z ((y.mono (mt (mt q o) u))) ln hz (fun ah aC ai t x=>?_)
 obtain⟨ao,au,aa,rfl,rfl,R⟩:=x
 refine bH' (fun w k=>k.rekey (i:=7000) (j:=4015) z (by rw[f]; rfl))<|mv z z ?_
 obtain⟨Y,S,hr⟩:=hr
 refine bH' (fun w k=>k.rekey (i:=4015) (j:=5000) z (by rw[f]; rfl))<|cJ' z z (t' E182 z) (bN' S) z (R) (lc z (lc z ln)) hz (fun ap ay al s D=>?_)
 obtain⟨L,U,ac,rfl,rfl,T⟩:=D
 refine bH' (fun w k=>k.rekey (i:=5000) (j:=4017) z (by rw[f]; rfl))<|bM' (r:=b') (e:=110) 4017 T z (by rw[f]; rfl) fun aB aE v X ab=>yy (aZ' z) z<|aG' 2 ([.slice c l.vars.length d,.slice E J.length H,.slice L Y.length U,i' l.next]).toArray z sz29 z z z (show 2<4 by decide) z z<|nr<|yy (o' 2 ar' z z z) z<|s' 4 z aU' z z z z z (List.all_eq_true.1 z)<|nx<|j' ?_
 obtain rfl:_=r:=hr
 exact k' z (ac' (i:=4) ar' z z z) ⟨_,_,_,_,_,_,z,(B.mono (mt (mt (mt (mt (mt q o) u) t) s) v)),(M.mono (mt (mt t s) v)),X⟩
theorem gH'{E D f g p n c j u x r}(hr:(Zhd E D).Ret r):Ctr prog 90 #[.agg ((v31' E f g p n c j)).toArray,.agg ((v48' D u x)).toArray] (fun G=>sl Rp.str G f g E.vars/\sl b' G p n E.eqs/\sl b' G c j E.neqs/\sl I' G u x D.p) (w31t' r):=by
 refine E' (args:=[_,_]) (N:=22) func90 z z z (fun w0 G0 Y I=>?_)
 obtain⟨h,o,d,aa⟩:=I
 refine sr<|ad' 2 z z z fun b1=>ad' 3 z z z fun b2=>T' 4 z z31 z fun b3=>sg z z<|nx<|n'<|sr<|yy (o' 2 ar' z z z) z<|yy (aQ' z) z<|yy (f' 3 sc3 z z z) z ?_
 obtain⟨ak,L,hr⟩:=hr
 refine P' z z (t' E138 z) (dw' L) z (⟨h,o,d⟩) (fun ae am l A=>?_)
 obtain⟨ab,af,rfl,J⟩:=A
 obtain⟨W,K,hr⟩:=hr
 refine P' z z (t' E121 z) (bx' K) z (J) (fun ah aj k y=>?_)
 obtain⟨ad,ac,rfl,F⟩:=y
 obtain⟨H,s,rfl⟩:=ce' F
 refine bd' (e:=178) (r:=(Rp.fn prog fa0 foI)) (vs:=#[(0,(.func (.func H) #[] s))]) (cs:=[(.func (.func H) #[] s)]++([])) ([W]:List (Unit->Cq Int)) z z z z z (by decide) (fun _=>by kernel_rfl) ⟨[(.func (.func H) #[] s)],[],z,⟨_,z,F⟩,z⟩ (key:=999) z (by rw[Y]; rfl) (fun p1 ao m V=>?_)
 obtain⟨ai,Q,hr⟩:=hr
 refine D' z z (t' E120 z) (cP' Q) z (V)<|sg z z<|nr<|mv z z<|yy (av' z z) z<|nx<|L' hr z (fun X hr=>?_) (fun X hr=>?_)
 .refine sr<|yy (aw' (vs:=#[]) (v:=.agg ([.slice none 0 0,.slice none 0 0,.slice none 0 0,i' 0]).toArray) z z (fun _=>by kernel_rfl)) z<|mv z z<|s' 4 z aU' z z z z z (List.all_eq_true.1 z)<|sg z z<|nx<|j'<|a' ?_
  obtain rfl:_=r:=hr
  exact aC' z (ac' (i:=4) ar' z z z) z ⟨_,_,_,_,_,_,z,(V' Rp.str _),(V' b' _),(V' b' _)⟩
 refine q'<|g'<|sr<|yy (o' 2 ar' z z z) z<|yy (aQ' z) z<|yy (f' 3 sc3 z z z) z ?_
 obtain⟨an,M,hr⟩:=hr
 have N1:=mt (mt l k) m
 refine P' z z (t' E143 z) (eQ' M) z (⟨(h.mono N1),(o.mono N1),(d.mono N1)⟩) (fun ag al Z C=>?_)
 obtain⟨S,R,T,U,O,P,rfl,q,B,t⟩:=C
 refine s' 4 z aU' z z z z z (List.all_eq_true.1 z)<|sg z z<|nx<|j' ?_
 obtain rfl:_=r:=hr
 exact aC' z (ac' (i:=4) ar' z z z) z ⟨_,_,_,_,_,_,z,q,B,t⟩
theorem gu'{f e g j c d n r}(hr:(ZfG f e).Ret r):CtrL prog 144 #[.agg ((v110' f.id g f.p j)).toArray,.pointer (some ⟨n,0,none⟩)] [(118203,some ⟨n,.cells ((v48' e c d)).toArray 48 (0,0),0⟩)] (fun G=>sl I' G g j f.p/\sl I' G c d e.p) (fun G L v=>L=[(118203,some ⟨n,.cells ((v48' e c d)).toArray 48 (0,0),0⟩)]/\(∃ l k,v = .agg ((v110' r.id l r.p k)).toArray/\sl I' G l k r.p)):=by
 refine bf' (args:=[_,_]) (N:=13) func144 z z z (fun s u q m=>?_)
 obtain⟨o,h⟩:=m
 refine sr<|ad' 2 z z z fun t=>T' 3 z z110 z fun x=>nx<|n'<|sr<|yy (bn' z) z<|yy (f' 2 sc3 z z z) z<|yy (aQ' z) z<|yy (f' 118203 sc3 z z z) z<|yy (at' z z) z<|nx<|L' hr z (fun p hr=>?_) (fun p hr=>?_)
 .refine A'<|yy (dl' z) z<|yy (f' 118203 cA' z z z) z<|yy (bT' z) z<|aG' 2 ([i' f.id,.slice c e.p.length d]).toArray z sz46 z z z (show 1<2 by decide) z z<|nr<|yy (o' 2 bJ' z z z) z<|s' 3 z aR' z z z z z (List.all_eq_true.1 z)<|nx<|j' ?_
  obtain rfl:_=r:=hr
  exact WE.retW1 z (ac' (i:=3) bJ' z z z) (lc z ln) ⟨z,⟨_,_,z,h⟩⟩
 refine q'<|g'<|sr<|yy (o' 2 bJ' z z z) z<|s' 3 z aR' z z z z z (List.all_eq_true.1 z)<|nx<|j' ?_
 obtain rfl:_=r:=hr
 exact WE.retW1 z (ac' (i:=3) bJ' z z z) (lc z ln) ⟨z,⟨_,_,z,o⟩⟩
theorem cG'{h j I H d f A r}(hr:(ZM h j).Ret r):CtrL prog 145 #[.slice I h.length H,.func (.func 144) #[] #[.pointer (some ⟨A,0,none⟩)]] [(118203,some ⟨A,.cells ((v48' j d f)).toArray 48 (0,0),0⟩)] (fun G=>sl b' G I H h/\sl I' G d f j.p) (fun G L v=>L=[(118203,some ⟨A,.cells ((v48' j d f)).toArray 48 (0,0),0⟩)]/\(∃ zp zc,v = .slice zp r.length zc/\sl b' G zp zc r)):=by
 refine bf' (args:=[_,_]) (N:=26) func145 z z z (fun O E T U=>?_)
 obtain⟨C,K⟩:=U
 have hz:O.L.zero:=by
  rw[T]; intro p hp x Z
  simp only[List.mem_cons,List.not_mem_nil,or_false] at hp
  subst hp; cases Z; rfl
 refine sr<|sg z z<|nr<|mv z z<|yy (M' w' C z) z ?_
 obtain⟨ah,hr⟩:=hr
 refine dP' (r:=b') (e:=110) (n:=(h.length:Int)) (zx:=(Zb.mk 0 [])) 4010 z z w' el110 z (by decide) (by decide) ⟨[i' 0],[.slice none 0 0],z,z,⟨_,z,(V' _ _)⟩⟩ z z ah fun P W ai=>sg z z<|nx<|n'<|sr<|mv z z<|yy (M' w' C z) z<|mv z z<|nx<|ak' (fun (⟨q,l,t⟩:(List Zb)×Option Ow×Mem)=>[(5,.slice P (h.length:Int).toNat ((h.length:Int).toNat))]) (fun ⟨q,l,t⟩=>Mem.le E t/\RowR b' 110 t (.slice P (h.length:Int).toNat ((h.length:Int).toNat)) q l/\(ZS q).Ret r) (fun ⟨q,l,t⟩=>St O E t [(118203,some ⟨A,.cells ((v48' j d f)).toArray 48 (0,0),0⟩),(4010,l)]) ?_ ?_
 .refine C' ?_
  let M:(List Zb)->Prop:=fun oo=>((fun ov=>match ov with|q=>ZS q:(List Zb)->Cq (List Zb)) oo).wp (fun a=>a=r)
  replace hr:(Cq.loop _ _).wp M:=hr
  refine al' (Φ:=M) (fun (⟨m,g,c,o⟩:(List Zb)×Option Ow×Int×Mem)=>((m,c):(List Zb)×Int)) (fun ⟨m,g,c,o⟩=>[(1,.func (.func 144) #[] #[.pointer (some ⟨A,0,none⟩)]),(5,.slice P (h.length:Int).toNat ((h.length:Int).toNat)),(11,.slice I h.length H),(12,i' (h.length:Int)),(13,i' c)]) (fun ⟨m,g,c,o⟩=>Mem.le E o/\RowR b' 110 o (.slice P (h.length:Int).toNat ((h.length:Int).toNat)) m g) (fun ⟨m,g,c,o⟩=>St O E o [(118203,some ⟨A,.cells ((v48' j d f)).toArray 48 (0,0),0⟩),(4010,g)]) ⟨(List.replicate (h.length:Int).toNat (Zb.mk 0 [])),W,0,E⟩ hr (f5 z z z z z) ⟨mr,ai⟩ (w2 z z) ?_
  .intro ax gx Z hr
   obtain⟨m,g,c,o⟩:=gx
   obtain⟨k,y⟩:=Z
   refine sr<|yy (ag' z z) z<|nx<|n'<|L' hr z (fun aj hr=>?_) (fun aj hr=>?_)
   .refine q'<|g'<|n'<|C'<|sr<|mv z z ?_
    obtain⟨x1,R,hr⟩:=hr
    refine yy (Q' w' aR' (C.mono k) z z R) z ?_
    obtain⟨au,aw,ae,X⟩:=bp' (H' (ab' C R) k)
    refine yy (aA' _ bJ' z z ae) z<|T' 7 z z110 z fun b2=>sg z z<|s' 7 z aR' z z z z z (List.all_eq_true.1 z)<|nx<|A'<|mv z z<|mv z z<|mv z z<|yy (o' 7 bJ' z z z) z ?_
    obtain⟨s,V,hr⟩:=hr
    refine WL.callRO z z (dh' E144 z z) (gu' V) z (⟨X,(K.mono k)⟩) (lc z ln) (fun i hi=>by simp only[List.map_cons,List.map_nil,List.mem_cons,List.not_mem_nil,or_false] at hi; subst hi; exact z) hz (fun av ac u F=>?_)
    obtain⟨D,B,rfl,Q⟩:=F
    obtain⟨x2,S,hr⟩:=hr
    refine yy (ba' w' aR' (y.mono u) z z S) z<|bv' (r:=b') (e:=110) (cs':=(v110' s.id D s.p B)) (i:=c) (z':=s) 4010 z aR' z (y.mono u) z z z z ⟨[i' s.id],[.slice D s.p.length B],z,z,⟨_,z,Q⟩⟩ S fun al aa=>u'<|J'<|g'<|A'<|yy (W' z z) z<|mv z z<|u'<|X' ⟨(m.set c.toNat s),al,i64.wrap (c+1),ac⟩ hr ⟨(mt k u),aa⟩ (f5 z z z z z) (w2 z z)
   refine am'<|r'<|r'<|O'<|ao' ⟨m,g,o⟩ ⟨k,y,hr⟩ (f1 z) (w2 z z)
 rintro⟨q,l,t⟩ ⟨am,Y,hr⟩
 refine g'<|sr<|mv z z<|sg z z<|nx<|j' ?_
 obtain rfl:_=r:=hr
 refine WE.freezeT (r:=b') (e:=110) 4010 Y z (by rw[T]; rfl) fun ay ad an J ao=>aJ' (S':=St O E ad [(118203,some ⟨A,.cells ((v48' j d f)).toArray 48 (0,0),0⟩)]) (w1 z)<|k' z z ⟨z,⟨_,_,(dj' J),(de' J)⟩⟩
theorem gR'{F O l n M L A x C B r}(hr:(ZiC F O).Ret r):Ctr prog 91 #[.agg ((v31' F l n M L A x)).toArray,.agg ((v48' O C B)).toArray] (fun G=>sl Rp.str G l n F.vars/\sl b' G M L F.eqs/\sl b' G A x F.neqs/\sl I' G C B O.p) (w31t' r):=by
 refine E' (args:=[_,_]) (N:=36) func91 z z z (fun w0 G0 ao aq=>?_)
 obtain⟨t,D,y,H⟩:=aq
 have hz:w0.L.zero:=by rw[ao]; intro p hp; simp at hp
 refine sr<|ad' 2 z z z fun b1=>ad' 118203 z z z fun b2=>T' 4 z z31 z fun b3=>sg z z<|nx<|n'<|ah' [ff,ff,ff,ff,ff,ff,ff,ff] mix (by kernel_rfl) fun hb=>cn (fun _ c=>o' 2 ar' z z z)<|cn (fun _ c=>aQ' z)<|cn (fun _ c=>f' 118203 sc3 z z z) ?_
 obtain⟨ag,ar,hr⟩:=hr
 refine aW' (post:=fun G v=>∃ j k,v=j/\FnRd prog fa0 foB G j k ag) (fun _=>z) (fun _ _=>t' E138 z) (dw' ar) z (fun G' c=>⟨(t.mono c),(D.mono c),(y.mono c)⟩) (fun v G1 G2 c h=>?_) ?_
 .obtain⟨j,k,rfl,K⟩:=h
  exact⟨_,_,z,K.mono c⟩
 obtain⟨ae,ap,hr⟩:=hr
 refine cy' (f:=121) (φ:=fun G v=>∃ q E,v=q/\FnRd prog fa0 foI G q E ae) (fun _=>z) (fun v G1 G2 c h=>?_) (fun u G' c hu=>?_) ?_
 .obtain⟨q,E,rfl,J⟩:=h
  exact⟨_,_,z,J.mono c⟩
 .obtain⟨⟨j,k,am,K⟩,_⟩:=(show (fun G v=>∃ j k,v=j/\FnRd prog fa0 foB G j k ag) G'.m (u 11)/\True from hu)
  exact⟨_,_,_,fun _=>t' E121 z,bx' ap,(by simp only[am] <;> rfl),K⟩
 refine cu (fun _ _ c=>o' 2 ar' z z z)<|cu (fun _ _ c=>dl' z)<|cu (fun _ _ c=>f' 118203 cA' z z z)<|dt' (d:=12) (post:=fun G v=>∃ q E,v=q/\FnRd prog fa0 foI G q E ae) (d':=11) (post':=fun G v=>∃ j k,v=j/\FnRd prog fa0 foB G j k ag) (fun aS aP aZ g X Y=>?_)
 obtain⟨q,E,rfl,J⟩:=X
 obtain⟨j,k,rfl,K⟩:=Y
 obtain⟨aY,aA,hr⟩:=hr
 refine P' z z (t' E141 z) (fE' aA) z (⟨(t.mono g),(D.mono g),(y.mono g),(H.mono g)⟩) (fun aI aV m aa=>?_)
 obtain⟨aR,aJ,rfl,au⟩:=aa
 obtain⟨aE,av,hr⟩:=hr
 refine P' z z (t' E121 z) (bx' av) z (au) (fun aO aX o W=>?_)
 obtain⟨aH,aK,rfl,ac⟩:=W
 obtain⟨ah,R,rfl⟩:=ce' J
 obtain⟨V,I,rfl⟩:=ce' ac
 refine bd' (e:=178) (r:=(Rp.fn prog fa0 foI)) (vs:=#[(0,(.func (.func ah) #[] R)),(1,(.func (.func V) #[] I))]) (cs:=[(.func (.func ah) #[] R)]++([(.func (.func V) #[] I)]++([]))) ([ae,aE]:List (Unit->Cq Int)) z z z z z (by decide) (fun _=>by kernel_rfl) ⟨[(.func (.func ah) #[] R)],[(.func (.func V) #[] I)]++([]),z,⟨_,z,(J.mono (mt m o))⟩,⟨[(.func (.func V) #[] I)],[],z,⟨_,z,ac⟩,z⟩⟩ (key:=999) z (by rw[ao]; rfl) (fun p1 aW s aC=>?_)
 obtain⟨aT,ay,hr⟩:=hr
 refine D' z z (t' E120 z) (cP' ay) z (aC)<|sg z z<|u'<|aq'<|g'<|n'<|sr<|mv z z<|yy (av' z z) z<|nx<|L' hr z (fun aF hr=>?_) (fun aF hr=>?_)
 .refine sr<|yy (aw' (vs:=#[]) (v:=.agg ([.slice none 0 0,.slice none 0 0,.slice none 0 0,i' 0]).toArray) z z (fun _=>by kernel_rfl)) z<|mv z z<|s' 4 z aU' z z z z z (List.all_eq_true.1 z)<|sg z z<|nx<|j'<|a' ?_
  obtain rfl:_=r:=hr
  exact aC' z (ac' (i:=4) ar' z z z) z ⟨_,_,_,_,_,_,z,(V' Rp.str _),(V' b' _),(V' b' _)⟩
 refine q'<|g'<|sr<|yy (bO' z z) z<|sg z z<|nx<|n'<|ah' [ff,ff,ff,ff,ff,ff,ff,ff,ff] mix (by kernel_rfl) fun hb=>cn (fun _ c=>aX' z)<|cn (fun _ c=>f' 2 bq' z z z)<|cn (fun _ c=>e' z) ?_
 obtain⟨U,aw,hr⟩:=hr
 refine ez' (f:=145) (φ:=wl' b' U) (L1:=[(118203,some ⟨b2,.cells ((v48' O C B)).toArray 48 (0,0),0⟩)]) (fun _=>z) (fun v G1 G2 c h=>?_) (lc z ln) (fun i hi=>by simp only[List.map_cons,List.map_nil,List.mem_cons,List.not_mem_nil,or_false] at hi; subst hi; exact z) hz (fun u G' c hu=>?_) ?_
 .obtain⟨S,T,rfl,P⟩:=h
  exact⟨_,_,z,P.mono c⟩
 .have N1:=mt (mt (mt g m) o) s
  exact⟨_,_,_,fun _=>t' E145 z,cG' aw,z,⟨((D.mono N1).mono c),((H.mono N1).mono c)⟩⟩
 refine cu (fun _ _ c=>aZ' z)<|cu (fun _ _ c=>f' 2 bq' z z z)<|cu (fun _ _ c=>e' z) ?_
 obtain⟨af,ax,hr⟩:=hr
 refine ez' (f:=145) (φ:=wl' b' af) (L1:=[(118203,some ⟨b2,.cells ((v48' O C B)).toArray 48 (0,0),0⟩)]) (fun _=>z) (fun v G1 G2 c h=>?_) (lc z ln) (fun i hi=>by simp only[List.map_cons,List.map_nil,List.mem_cons,List.not_mem_nil,or_false] at hi; subst hi; exact z) hz (fun u G' c hu=>?_) ?_
 .obtain⟨aj,ai,rfl,Q⟩:=h
  exact⟨_,_,z,Q.mono c⟩
 .obtain⟨_,_⟩:=(show True/\True from hu)
  have N2:=mt (mt (mt g m) o) s
  exact⟨_,_,_,fun _=>t' E145 z,cG' ax,z,⟨((y.mono N2).mono c),((H.mono N2).mono c)⟩⟩
 refine cu (fun _ _ c=>aX' z)<|dt' (d:=32) (post:=wl' b' af) (d':=28) (post':=wl' b' U) (fun aN aG aU an ab Z=>?_)
 obtain⟨aj,ai,rfl,Q⟩:=ab
 obtain⟨S,T,rfl,P⟩:=Z
 refine aG' 2 ([.slice l F.vars.length n,.slice S U.length T,.slice A F.neqs.length x,i' F.next]).toArray z sz29 z z z (show 1<4 by decide) z z<|yy (aZ' z) z<|aG' 2 ([.slice l F.vars.length n,.slice S U.length T,.slice aj af.length ai,i' F.next]).toArray z sz29 z z z (show 2<4 by decide) z z<|u'<|aq'<|g'<|sr<|yy (o' 2 ar' z z z) z<|s' 4 z aU' z z z z z (List.all_eq_true.1 z)<|sg z z<|nx<|j' ?_
 obtain rfl:_=r:=hr
 exact aC' z (ac' (i:=4) ar' z z z) z ⟨_,_,_,_,_,_,z,(t.mono (mt (mt (mt (mt g m) o) s) an)),P,Q⟩
theorem fT'(h:Za)(g:Bool)(x:Nat)(s:Nat)(r:Bool)(hr:(ZaD h g).Ret r):Ctr prog 146 #[.pointer (some ⟨x,0,none⟩),.pointer (some ⟨s,0,none⟩)] (fun G=>At aP' G x 0 h/\At Rp.bool G s 0 g) (fun G v=>v = .bool r):=by
 refine E' (args:=[_,_]) (N:=9) func146 z z z (fun I J H k=>?_)
 obtain⟨j,i⟩:=k
 refine sr<|sg z z<|nr ?_
 obtain⟨q,n,y,t,o,p,u,e,f,c⟩:=cV' j
 refine yy (aA' _ ar' z z u) z<|yy (Y' sc4 z (AtK.bool i)) z<|yy (aj' z) z ?_
 obtain⟨E,m,hr⟩:=hr
 refine P' z z (t' E140 z) (dU' m) z (⟨e,f,c⟩) (fun C F A d=>?_)
 obtain⟨D,B,rfl,l⟩:=d
 refine yy (M' w' l z) z<|yy (ag' z z) z<|sg z z<|nx<|j' ?_
 obtain rfl:_=r:=hr
 exact k' z z z
theorem gI'{s af n q m l j g P O r}(hr:(Zhf s af).Ret r):Ctr prog 92 #[.agg ((v31' s n q m l j g)).toArray,.agg ((v48' af P O)).toArray] (fun G=>sl Rp.str G n q s.vars/\sl b' G m l s.eqs/\sl b' G j g s.neqs/\sl I' G P O af.p) (w31t' r):=by
 refine E' (args:=[_,_]) (N:=39) func92 z z z (fun w0 G0 ad ap=>?_)
 obtain⟨o,y,p,aO⟩:=ap
 refine sr<|ad' 118402 z z z fun b1=>ad' 3 z z z fun b2=>T' 4 z z31 z fun b3=>sg z z<|nr<|yy (o' 118402 ar' z z z) z<|yy (aQ' z) z<|yy (f' 3 sc3 z z z) z ?_
 obtain⟨ag,ar,hr⟩:=hr
 refine P' z z (t' E66 z) (dX' ar) z (⟨o,y,p⟩) (fun a3 bf c V=>?_)
 obtain⟨aE,aG,rfl,aa⟩:=V
 refine mv z z<|yy (y' z z) z<|yy (y' z z) z<|yy (y' z z) z<|T' 6 z z110 z fun b4=>T' 118407 z z4 z fun b5=>s' 6 z aR' z z z z z (List.all_eq_true.1 z)<|aG' 118407 ([.bool ag.2.1]).toArray z sz4 z z z (by first|decide|simp) z z<|sg z z<|nx<|n'<|bC' 118402 z (by rw[ad]; rfl) fun ba k aC am=>bC' 118407 z (by rw[ad]; rfl) fun be A ao aB=>A'<|yy (o' 118402 ar' z z z) z<|yy (aQ' z) z<|yy (f' 3 sc3 z z z) z ?_
 obtain⟨a8,al,hr⟩:=hr
 have N1:=mt (mt c k) A
 refine P' z z (t' E138 z) (dw' al) z (⟨(o.mono N1),(y.mono N1),(p.mono N1)⟩) (fun a5 bd D U=>?_)
 obtain⟨aS,a2,rfl,aw⟩:=U
 obtain⟨aK,aD,hr⟩:=hr
 refine P' z z (t' E121 z) (bx' aD) z (aw) (fun aR aL E X=>?_)
 obtain⟨a4,aT,rfl,ae⟩:=X
 refine yy (bO' z z) z ?_
 obtain⟨aM,au,hr⟩:=hr
 refine P' z z (t' E121 z) (bx' au) z ((show FnRd prog fa0 foB aL (.func (.func 146) #[] #[.pointer (some ⟨b1,0,none⟩),.pointer (some ⟨b5,0,none⟩)]) () (fun _=>ZaD s ag.2.1) from (dq' E146 (fun x hx=>dr' (fT' _ _ _ _ x hx) (fun G' f=>⟨(H' (ch' (r:=aP') (cs:=(v31' s n q m l j g)) aC z ⟨[.slice n s.vars.length q],[.slice m s.eqs.length l,.slice j s.neqs.length g,i' s.next],z,⟨_,z,(o.mono (mt c k))⟩,⟨[.slice m s.eqs.length l],[.slice j s.neqs.length g,i' s.next],z,⟨_,z,(y.mono (mt c k))⟩,⟨[.slice j s.neqs.length g],[i' s.next],z,⟨_,z,(p.mono (mt c k))⟩,z⟩⟩⟩) (mt (mt (mt A D) E) f)),(H' (ch' (r:=Rp.bool) (cs:=[.bool ag.2.1]) ao z z) (mt (mt D E) f))⟩))))) (fun a0 a9 R T=>?_)
 obtain⟨aQ,aU,rfl,ac⟩:=T
 obtain⟨ah,M,rfl⟩:=ce' ae
 obtain⟨Q,C,rfl⟩:=ce' ac
 refine bd' (e:=178) (r:=(Rp.fn prog fa0 foI)) (vs:=#[(0,(.func (.func ah) #[] M)),(1,(.func (.func Q) #[] C))]) (cs:=[(.func (.func ah) #[] M)]++([(.func (.func Q) #[] C)]++([]))) ([aK,aM]:List (Unit->Cq Int)) z z z z z (by decide) (fun _=>by kernel_rfl) ⟨[(.func (.func ah) #[] M)],[(.func (.func Q) #[] C)]++([]),z,⟨_,z,(ae.mono R)⟩,⟨[(.func (.func Q) #[] C)],[],z,⟨_,z,ac⟩,z⟩⟩ (key:=999) z (by rw[ad]; rfl) (fun p1 a6 aj aI=>?_)
 obtain⟨a7,aA,hr⟩:=hr
 refine D' z z (t' E120 z) (cP' aA) z (aI)<|sg z z<|da' 118407 z aB (mt c k) (mt (mt (mt (mt A D) E) R) aj)<|da' 118402 z am c k<|nx<|n'<|sr<|mv z z<|yy (av' z z) z<|nx<|L' hr z (fun aN hr=>?_) (fun aN hr=>?_)
 .refine sr<|yy (aw' (vs:=#[]) (v:=.agg ([.slice none 0 0,.slice none 0 0,.slice none 0 0,i' 0]).toArray) z z (fun _=>by kernel_rfl)) z<|mv z z<|s' 4 z aU' z z z z z (List.all_eq_true.1 z)<|sg z z<|nx<|j'<|a' ?_
  obtain rfl:_=r:=hr
  exact aC' z (ac' (i:=4) ar' z z z) z ⟨_,_,_,_,_,_,z,(V' Rp.str _),(V' b' _),(V' b' _)⟩
 refine q'<|g'<|n'<|ah' [ff,ff,ff,ff,ff,ff,ff] mix (by kernel_rfl) fun hb=>cn (fun _ f=>o' 118402 ar' z z z)<|cn (fun _ f=>aQ' z)<|cn (fun _ f=>f' 3 sc3 z z z) ?_
 obtain⟨ak,av,hr⟩:=hr
 refine aW' (post:=w31' ak) (fun _=>z) (fun _ _=>t' E143 z) (eQ' av) z (fun G' f=>⟨((o.mono c).mono f),((y.mono c).mono f),((p.mono c).mono f)⟩) (fun v G1 G2 f h=>?_) ?_
 .obtain⟨L,J,ab,Y,H,K,rfl,u,B,t⟩:=h
  exact⟨_,_,_,_,_,_,z,u.mono f,B.mono f,t.mono f⟩
 refine cu (fun _ _ f=>o' 6 bJ' z z z)<|cu (fun _ _ f=>f' 118407 sc4 z z z)<|cu (fun _ _ f=>aj' z)<|cQ' (d:=34) (post:=w31' ak) (fun aP bc ai W=>?_)
 obtain⟨L,J,ab,Y,H,K,rfl,u,B,t⟩:=W
 obtain⟨bb,ay,hr⟩:=hr
 refine P' z z (t' E142 z) (fd' ay) z (⟨u,B,t,(aa.mono ai)⟩) (fun aY aX aJ Z=>?_)
 obtain⟨ax,aq,aF,aH,az,an,rfl,F,S,I⟩:=Z
 refine s' 4 z aU' z z z z z (List.all_eq_true.1 z)<|sg z z<|u'<|aq'<|g'<|j' ?_
 obtain rfl:_=r:=hr
 exact aC' z (ac' (i:=4) ar' z z z) z ⟨_,_,_,_,_,_,z,F,S,I⟩
theorem eI'{s1 g l o Q M n m Y X r}(hr:(ZcO s1 g).Ret r):Ctr prog 50 #[.agg ((v31' s1 l o Q M n m)).toArray,.agg ((v48' g Y X)).toArray] (fun G=>sl Rp.str G l o s1.vars/\sl b' G Q M s1.eqs/\sl b' G n m s1.neqs/\sl I' G Y X g.p) (w31t' r):=by
 refine E' (args:=[_,_]) (N:=24) func50 z z z (fun w0 G0 bO a9=>?_)
 obtain⟨d,j,e,k⟩:=a9
 refine sr<|ad' 2 z z z fun b1=>ad' 3 z z z fun b2=>T' 4 z z31 z fun b3=>sg z z<|nx<|n'<|ah' [ff,ff,ff,ff,ff,ff,tt] mix (by kernel_rfl) fun hb=>Chain.callMap (f:=67) (ky:=ky3) (Rv:=RvF) Zv (fun _=>z) (fun u G' O hu=>⟨_,_,_,fun _=>t' E67 z,gB',z,trivial⟩)<|cu (fun _ _ O=>cv' z)<|cu (fun _ _ O=>f' 3 sc3 z z z) ?_
 obtain⟨bo,hr⟩:=hr
 refine Chain.lookF (ky:=ky3) (dm:=9) Zv g.kind (fun _=>z) bV' zv104 bo (fun u G' O hu=>?_) ?_
 .obtain⟨h,_⟩:=(show MapX ky3 RvF 9 Zv (u 9) G'/\True from hu)
  exact⟨u 9,h,z,z⟩
 refine cu (fun _ _ O=>e' z)<|cu (fun _ _ O=>y' z z)<|Chain.floatU (fun _=>z) (fun _=>y' z z)<|Chain.tailX1 fun bL X1 c bn=>cj' (show WL _ _ _ _ _ _ (St w0 G0 X1.m _) from ?_)
 refine sg z z<|sg z z<|u'<|aq'<|g'<|n'<|sr<|mv z z<|yy (aj' z) z<|nx<|aL' hr z (fun br hr=>?_) (fun br hr=>?_)
 .refine sr<|yy (aw' (vs:=#[]) (v:=.agg ([.slice none 0 0,.slice none 0 0,.slice none 0 0,i' 0]).toArray) z z (fun _=>by kernel_rfl)) z<|s' 4 z aU' z z z z z (List.all_eq_true.1 z)<|sg z z<|nx<|j'<|a' ?_
  obtain rfl:_=r:=hr
  exact aC' z (ac' (i:=4) ar' z z z) z ⟨_,_,_,_,_,_,z,(V' Rp.str _),(V' b' _),(V' b' _)⟩
 refine q'<|g'<|sr<|mv z z<|yy (o' 2 ar' z z z) z<|yy (o' 3 bL' z z z) z ?_
 by_cases hf1:(1:Int)=g.kind
 .replace hr:=hr.pos hf1
  have bl:selV Value.nilFunc (mget Zv g.kind) = .func (.func 85) #[] #[]:=by simp only[Zv,mget,selV,if_pos hf1]
  rw[bl]
  obtain⟨bR,a7,hr⟩:=hr
  refine P' z z (dh' E85 z z) (gs' a7) z (⟨(d.mono c),(j.mono c),(e.mono c),(k.mono c)⟩) (fun bM b5 bv ab=>?_)
  obtain⟨aL,aM,aW,a1,ak,an,rfl,D,V,y⟩:=ab
  refine yy (y' z z) z<|yy (y' z z) z<|s' 4 z aU' z z z z z (List.all_eq_true.1 z)<|sg z z<|nx<|j' ?_
  obtain rfl:_=r:=hr
  exact aC' z (ac' (i:=4) ar' z z z) z ⟨_,_,_,_,_,_,z,D,V,y⟩
 replace hr:=hr.neg hf1
 by_cases hf2:(2:Int)=g.kind
 .replace hr:=hr.pos hf2
  have a8:selV Value.nilFunc (mget Zv g.kind) = .func (.func 86) #[] #[]:=by simp only[Zv,mget,selV,if_pos hf2,if_neg hf1]
  rw[a8]
  obtain⟨bZ,bm,hr⟩:=hr
  refine P' z z (dh' E86 z z) (gh' bm) z (⟨(d.mono c),(j.mono c),(e.mono c),(k.mono c)⟩) (fun bD bV bt ad=>?_)
  obtain⟨aB,ar,aX,aY,am,aF,rfl,x,P,J⟩:=ad
  refine yy (y' z z) z<|yy (y' z z) z<|s' 4 z aU' z z z z z (List.all_eq_true.1 z)<|sg z z<|nx<|j' ?_
  obtain rfl:_=r:=hr
  exact aC' z (ac' (i:=4) ar' z z z) z ⟨_,_,_,_,_,_,z,x,P,J⟩
 replace hr:=hr.neg hf2
 by_cases hf3:(3:Int)=g.kind
 .replace hr:=hr.pos hf3
  have a6:selV Value.nilFunc (mget Zv g.kind) = .func (.func 87) #[] #[]:=by simp only[Zv,mget,selV,if_pos hf3,if_neg hf1,if_neg hf2]
  rw[a6]
  obtain⟨b6,bb,hr⟩:=hr
  refine P' z z (dh' E87 z z) (gt' bb) z (⟨(d.mono c),(j.mono c),(e.mono c),(k.mono c)⟩) (fun bK bY bx aa=>?_)
  obtain⟨aq,ax,aU,aS,aP,aG,rfl,E,L,t⟩:=aa
  refine yy (y' z z) z<|yy (y' z z) z<|s' 4 z aU' z z z z z (List.all_eq_true.1 z)<|sg z z<|nx<|j' ?_
  obtain rfl:_=r:=hr
  exact aC' z (ac' (i:=4) ar' z z z) z ⟨_,_,_,_,_,_,z,E,L,t⟩
 replace hr:=hr.neg hf3
 by_cases hf4:(4:Int)=g.kind
 .replace hr:=hr.pos hf4
  have be:selV Value.nilFunc (mget Zv g.kind) = .func (.func 88) #[] #[]:=by simp only[Zv,mget,selV,if_pos hf4,if_neg hf1,if_neg hf2,if_neg hf3]
  rw[be]
  obtain⟨bQ,bi,hr⟩:=hr
  refine P' z z (dh' E88 z z) (gG' bi) z (⟨(d.mono c),(j.mono c),(e.mono c),(k.mono c)⟩) (fun bG bX bs ae=>?_)
  obtain⟨aw,al,aR,a0,aJ,aC,rfl,F,U,A⟩:=ae
  refine yy (y' z z) z<|yy (y' z z) z<|s' 4 z aU' z z z z z (List.all_eq_true.1 z)<|sg z z<|nx<|j' ?_
  obtain rfl:_=r:=hr
  exact aC' z (ac' (i:=4) ar' z z z) z ⟨_,_,_,_,_,_,z,F,U,A⟩
 replace hr:=hr.neg hf4
 by_cases hf5:(5:Int)=g.kind
 .replace hr:=hr.pos hf5
  have bf:selV Value.nilFunc (mget Zv g.kind) = .func (.func 89) #[] #[]:=by simp only[Zv,mget,selV,if_pos hf5,if_neg hf1,if_neg hf2,if_neg hf3,if_neg hf4]
  rw[bf]
  obtain⟨b0,bd,hr⟩:=hr
  refine P' z z (dh' E89 z z) (gQ' bd) z (⟨(d.mono c),(j.mono c),(e.mono c),(k.mono c)⟩) (fun bC b4 bw ac=>?_)
  obtain⟨ai,aA,a3,aV,az,aI,rfl,B,W,K⟩:=ac
  refine yy (y' z z) z<|yy (y' z z) z<|s' 4 z aU' z z z z z (List.all_eq_true.1 z)<|sg z z<|nx<|j' ?_
  obtain rfl:_=r:=hr
  exact aC' z (ac' (i:=4) ar' z z z) z ⟨_,_,_,_,_,_,z,B,W,K⟩
 replace hr:=hr.neg hf5
 by_cases hf6:(6:Int)=g.kind
 .replace hr:=hr.pos hf6
  have bk:selV Value.nilFunc (mget Zv g.kind) = .func (.func 90) #[] #[]:=by simp only[Zv,mget,selV,if_pos hf6,if_neg hf1,if_neg hf2,if_neg hf3,if_neg hf4,if_neg hf5]
  rw[bk]
  obtain⟨bW,bg,hr⟩:=hr
  refine P' z z (dh' E90 z z) (gH' bg) z (⟨(d.mono c),(j.mono c),(e.mono c),(k.mono c)⟩) (fun bI bT bz af=>?_)
  obtain⟨aN,aK,a5,a2,ay,ap,rfl,q,T,p⟩:=af
  refine yy (y' z z) z<|yy (y' z z) z<|s' 4 z aU' z z z z z (List.all_eq_true.1 z)<|sg z z<|nx<|j' ?_
  obtain rfl:_=r:=hr
  exact aC' z (ac' (i:=4) ar' z z z) z ⟨_,_,_,_,_,_,z,q,T,p⟩
 replace hr:=hr.neg hf6
 by_cases hf7:(7:Int)=g.kind
 .replace hr:=hr.pos hf7
  have bc:selV Value.nilFunc (mget Zv g.kind) = .func (.func 91) #[] #[]:=by simp only[Zv,mget,selV,if_pos hf7,if_neg hf1,if_neg hf2,if_neg hf3,if_neg hf4,if_neg hf5,if_neg hf6]
  rw[bc]
  obtain⟨bU,bj,hr⟩:=hr
  refine P' z z (dh' E91 z z) (gR' bj) z (⟨(d.mono c),(j.mono c),(e.mono c),(k.mono c)⟩) (fun bH bN bA ag=>?_)
  obtain⟨aH,aO,a4,aQ,av,aE,rfl,H,S,C⟩:=ag
  refine yy (y' z z) z<|yy (y' z z) z<|s' 4 z aU' z z z z z (List.all_eq_true.1 z)<|sg z z<|nx<|j' ?_
  obtain rfl:_=r:=hr
  exact aC' z (ac' (i:=4) ar' z z z) z ⟨_,_,_,_,_,_,z,H,S,C⟩
 replace hr:=hr.neg hf7
 by_cases hf8:(8:Int)=g.kind
 .replace hr:=hr.pos hf8
  have bh:selV Value.nilFunc (mget Zv g.kind) = .func (.func 92) #[] #[]:=by simp only[Zv,mget,selV,if_pos hf8,if_neg hf1,if_neg hf2,if_neg hf3,if_neg hf4,if_neg hf5,if_neg hf6,if_neg hf7]
  rw[bh]
  obtain⟨bP,ba,hr⟩:=hr
  refine P' z z (dh' E92 z z) (gI' ba) z (⟨(d.mono c),(j.mono c),(e.mono c),(k.mono c)⟩) (fun bJ bS bu Z=>?_)
  obtain⟨aj,aD,aT,aZ,ao,au,rfl,I,R,s⟩:=Z
  refine yy (y' z z) z<|yy (y' z z) z<|s' 4 z aU' z z z z z (List.all_eq_true.1 z)<|sg z z<|nx<|j' ?_
  obtain rfl:_=r:=hr
  exact aC' z (ac' (i:=4) ar' z z z) z ⟨_,_,_,_,_,_,z,I,R,s⟩
 replace hr:=hr.neg hf8
 exact (show False from hr).elim
theorem eU'{s1 l1 M Q Y W P O an ak r}(hr:(ZeC s1 l1).Ret r):Ctr prog 39 #[.agg ((v31' s1 M Q Y W P O)).toArray,.slice an l1.length ak] (fun G=>sl Rp.str G M Q s1.vars/\sl b' G Y W s1.eqs/\sl b' G P O s1.neqs/\sl af' G an ak l1) (w31u' r):=by
 refine E' (args:=[_,_]) (N:=34) func39 z z z (fun w0 G0 aY aH=>?_)
 obtain⟨ar,az,aw,aq⟩:=aH
 refine sr<|ad' 2 z z z fun b1=>T' 4 z z31 z fun b2=>sg z z<|sg z z<|nx<|n'<|sr<|mv z z<|yy (M' au' aq z) z<|mv z z<|nx<|ak' (fun (⟨K,u,s,E,C,p,A,R,x,q,F,D,t,y,J⟩:Za×Option Addr×Nat×Option Addr×Nat×Option Addr×Nat×Za×Option Addr×Nat×Option Addr×Nat×Option Addr×Nat×Mem)=>[(1,.slice an l1.length ak),(2,.pointer (some ⟨b1,0,none⟩)),(4,.pointer (some ⟨b2,0,none⟩))]) (fun ⟨K,u,s,E,C,p,A,R,x,q,F,D,t,y,J⟩=>Mem.le G0 J/\sl Rp.str J u s K.vars/\sl b' J E C K.eqs/\sl b' J p A K.neqs/\sl Rp.str J x q R.vars/\sl b' J F D R.eqs/\sl b' J t y R.neqs/\(ZfD l1 K).Ret r) (fun ⟨K,u,s,E,C,p,A,R,x,q,F,D,t,y,J⟩=>St w0 G0 J [(2,some ⟨b1,.cells ((v31' K u s E C p A)).toArray 31 (0,0),0⟩),(4,some ⟨b2,.cells ((v31' R x q F D t y)).toArray 31 (0,0),0⟩)]) ?_ ?_
 .refine C' ?_
  let aA:((Za×Int×Int)⊕(Za×Za))->Prop:=fun oo=>((fun ov=>match ov with | .inl rv1=>Cq.ret rv1 | .inr (K,R)=>ZfD l1 K:((Za×Int×Int)⊕(Za×Za))->Cq (Za×Int×Int)) oo).wp (fun a=>a=r)
  replace hr:(Cq.loop _ _).wp aA:=hr
  refine al' (Φ:=aA) (fun (⟨H,L,k,g,n,o,h,j,I,d,e,m,l,c,f,B⟩:Int×Za×Option Addr×Nat×Option Addr×Nat×Option Addr×Nat×Za×Option Addr×Nat×Option Addr×Nat×Option Addr×Nat×Mem)=>((H,L,I):Int×Za×Za)) (fun ⟨H,L,k,g,n,o,h,j,I,d,e,m,l,c,f,B⟩=>[(1,.slice an l1.length ak),(2,.pointer (some ⟨b1,0,none⟩)),(4,.pointer (some ⟨b2,0,none⟩)),(11,.slice an l1.length ak),(12,i' (l1.length:Int)),(13,i' H)]) (fun ⟨H,L,k,g,n,o,h,j,I,d,e,m,l,c,f,B⟩=>Mem.le G0 B/\sl Rp.str B k g L.vars/\sl b' B n o L.eqs/\sl b' B h j L.neqs/\sl Rp.str B d e I.vars/\sl b' B m l I.eqs/\sl b' B c f I.neqs) (fun ⟨H,L,k,g,n,o,h,j,I,d,e,m,l,c,f,B⟩=>St w0 G0 B [(2,some ⟨b1,.cells ((v31' L k g n o h j)).toArray 31 (0,0),0⟩),(4,some ⟨b2,.cells ((v31' I d e m l c f)).toArray 31 (0,0),0⟩)]) ⟨0,s1,M,Q,Y,W,P,O,(Za.mk [] [] [] 0),none,0,none,0,none,0,G0⟩ hr (f6 z z z z z z) ⟨mr,ar,az,aw,(V' _ _),(V' _ _),(V' _ _)⟩ (w2 z z) ?_
  .intro aZ gx hx hr
   obtain⟨H,L,k,g,n,o,h,j,I,d,e,m,l,c,f,B⟩:=gx
   obtain⟨S,Z,ab,V,U,aa,X⟩:=hx
   refine sr<|yy (ag' z z) z<|nx<|n'<|L' hr z (fun aQ hr=>?_) (fun aQ hr=>?_)
   .refine q'<|g'<|n'<|C'<|sr<|mv z z ?_
    obtain⟨x1,aE,hr⟩:=hr
    refine yy (Q' au' cc' (aq.mono S) z z aE) z ?_
    obtain⟨aV,aT,aM,aG⟩:=db' (H' (ab' aq aE) S)
    refine yy (aA' _ bL' z z aM) z<|T' 8 z z48 z fun b3=>sg z z<|s' 8 z cc' z z z z z (List.all_eq_true.1 z)<|nr<|yy (o' 2 ar' z z z) z<|yy (o' 8 bL' z z z) z ?_
    obtain⟨aN,aI,hr⟩:=hr
    refine P' z z (t' E50 z) (eI' aI) z (⟨Z,ab,V,aG⟩) (fun aX aO T ax=>?_)
    obtain⟨af,ah,am,al,ag,ai,rfl,ad,aj,ac⟩:=ax
    refine mv z z<|yy (y' z z) z<|yy (y' z z) z<|T' 9 z z31 z fun b4=>s' 9 z aU' z z z z z (List.all_eq_true.1 z)<|sg z z<|nx<|n'<|sr<|mv z z<|yy (av' z z) z<|nx<|L' hr z (fun aP hr=>?_) (fun aP hr=>?_)
    .refine sr<|yy (aw' (vs:=#[]) (v:=.agg ([.slice none 0 0,.slice none 0 0,.slice none 0 0,i' 0]).toArray) z z (fun _=>by kernel_rfl)) z<|mv z z<|mv z z<|s' 4 z aU' z z z z z (List.all_eq_true.1 z)<|sg z z<|sg z z<|nx<|j'<|a'<|m'<|a'<|a'<|m'<|ae'<|a' ?_
     obtain rfl:_=r:=hr
     exact cT' z (ac' (i:=4) ar' z z z) z z ⟨_,_,_,_,_,_,z,(V' Rp.str _),(V' b' _),(V' b' _)⟩
    refine q'<|g'<|A'<|yy (o' 9 ar' z z z) z<|s' 2 z aU' z z z z z (List.all_eq_true.1 z)<|u'<|J'<|g'<|A'<|yy (W' z z) z<|mv z z<|u'<|X' ⟨i64.wrap (H+1),aN.1,af,ah,am,al,ag,ai,I,d,e,m,l,c,f,aO⟩ hr ⟨(mt S T),ad,aj,ac,(U.mono T),(aa.mono T),(X.mono T)⟩ (f6 z z z z z z) (w2 z z)
   refine am'<|r'<|r'<|O'<|ao' ⟨L,k,g,n,o,h,j,I,d,e,m,l,c,f,B⟩ ⟨S,Z,ab,V,U,aa,X,hr⟩ (f3 z z z) (w2 z z)
 rintro⟨K,u,s,E,C,p,A,R,x,q,F,D,t,y,J⟩ ⟨aC,ao,au,ap,aJ,aK,aF,hr⟩
 refine g'<|sr<|yy (o' 2 ar' z z z) z<|mv z z<|yy (M' au' (aq.mono aC) z) z<|s' 4 z aU' z z z z z (List.all_eq_true.1 z)<|sg z z<|sg z z<|nx<|j' ?_
 obtain rfl:_=r:=hr
 exact cT' z (ac' (i:=4) ar' z z z) z z ⟨_,_,_,_,_,_,z,ao,au,ap⟩
theorem ga'(ac:Zf)(b1 b2:Nat):∀ (k:Nat) (v1:Int) (r:Za),(Zcb ac k v1).Ret r->Ctr prog 38 #[i' v1,.pointer (some ⟨b1,0,none⟩),.pointer (some ⟨b2,0,none⟩)] (fun G=>At Za8 G b1 0 ac/\G b2 0=some (.func (.func 38) #[] #[.pointer (some ⟨b1,0,none⟩),.pointer (some ⟨b2,0,none⟩)])) (w31' r):=by
 intro k
 induction k
 .intro _ _ hr
  exact False.elim hr
 rename_i k ih
 intro v1 r hr
 refine E' (args:=[_,_,_]) (N:=32) func38 z z z (fun w0 G0 aY ar=>?_)
 obtain⟨B,ag⟩:=ar
 refine sr<|T' 4 z z31 z fun b3=>nx<|n'<|sr<|mv z z<|yy (at' z z) z<|nx<|L' hr z (fun aL hr=>?_) (fun aL hr=>?_)
 .refine sr<|yy (dc' z) z ?_
  obtain⟨aA,ay,aM,aD,az,aB,aF,V,ad,S⟩:=cV' (aV' (ax' B))
  refine yy (aA' _ ar' z z aF) z<|s' 4 z aU' z z z z z (List.all_eq_true.1 z)<|nx<|j'<|a' ?_
  obtain rfl:_=r:=hr
  exact k' z (ac' (i:=4) ar' z z z) ⟨_,_,_,_,_,_,z,V,ad,S⟩
 refine q'<|g'<|n'<|ah' [ff,ff,ff,ff,ff,ff,ff,ff,ff,ff,ff,ff,ff,ff,ff,ff,ff,tt,tt,ff] mix (by kernel_rfl) fun hb=>cn (fun _ d=>Y' sc87 z (d _ _ _ ag))<|cn (fun _ d=>as' z) ?_
 obtain⟨p1,a2,aH,am⟩:=bG' (ay' (ax' B))
 refine cn (fun _ d=>Y' bk' z (d _ _ _ aH))<|cn (fun _ d=>e' z) ?_
 obtain⟨x1,ak,hr⟩:=hr
 refine cn (fun _ d=>Q' K' cn' (am.mono d) z z ak)<|cn (fun _ d=>bX' z)<|cn (fun _ d=>Y' sc3 z (aD' (H' (aV' (ax' (ab' am ak))) d))) ?_
 obtain⟨an,au,hr⟩:=hr
 refine aW' (post:=w31' an) (fun _=>z) (fun _ _=>dh' E38 z z) (ih _ _ au) z (fun H d=>⟨(H' B d),(d _ _ _ ag)⟩) (fun v G1 G2 d h=>?_) ?_
 .obtain⟨E,C,L,J,D,F,rfl,l,x,o⟩:=h
  exact⟨_,_,_,_,_,_,z,l.mono d,x.mono d,o.mono d⟩
 refine cu (fun _ _ d=>as' z) ?_
 obtain⟨p2,aZ,aE,ao⟩:=bG' (ay' (ax' B))
 refine cu (fun _ _ d=>Y' bk' z (d _ _ _ aE))<|cu (fun _ _ d=>e' z) ?_
 obtain⟨x2,al,hr⟩:=hr
 refine cu (fun _ _ d=>Q' K' cn' (ao.mono d) z z al)<|cu (fun _ _ d=>bY' z) ?_
 obtain⟨p3,a0,aG,aC⟩:=bG' (ay' (ay' (ax' (ab' ao al))))
 refine cu (fun _ _ d=>Y' sc44 z (d _ _ _ aG)) ?_
 obtain⟨A,ap,hr⟩:=hr
 refine cy' (f:=39) (φ:=w31u' A) (fun _=>z) (fun v G1 G2 d h=>?_) (fun u H d O=>?_) ?_
 .obtain⟨p,q,s,t,m,n,rfl,g,j,e⟩:=h
  exact⟨_,_,_,_,_,_,z,g.mono d,j.mono d,e.mono d⟩
 .obtain⟨⟨E,C,L,J,D,F,aj,l,x,o⟩,_⟩:=(show (w31' an) H.m (u 20)/\True from O)
  exact⟨_,_,_,fun _=>t' E39 z,eU' ap,(by simp only[aj] <;> rfl),⟨l,x,o,(aC.mono d)⟩⟩
 refine bm' (φ:=w31u' A) (fun _=>z) (fun v G1 G2 d h=>?_) (fun u H d O=>?_) ?_
 .obtain⟨p4,P,p5,Q,p6,R,rfl,K,I,M⟩:=h
  exact⟨_,_,_,_,_,_,z,K.mono d,I.mono d,M.mono d⟩
 .obtain⟨⟨p,q,s,t,m,n,ai,g,j,e⟩,_,_⟩:=(show (w31u' A) H.m (u 27)/\True/\True from O)
  simp only[undFr,ai]
  exact⟨_,e' z,p,q,s,t,m,n,z,g,j,e⟩
 refine bm' (φ:=w31' A.1) (fun _=>z) (fun v G1 G2 d h=>?_) (fun u H d O=>?_) ?_
 .obtain⟨p7,aI,p8,aK,p9,aJ,rfl,ab,Z,Y⟩:=h
  exact⟨_,_,_,_,_,_,z,ab.mono d,Z.mono d,Y.mono d⟩
 .obtain⟨⟨p4,P,p5,Q,p6,R,y,K,I,M⟩,_,_,_⟩:=(show (w31u' A) H.m (u 12)/\True/\True/\True from O)
  simp only[undFr,y]
  exact⟨_,y' z z,p4,P,p5,Q,p6,R,z,K,I,M⟩
 refine bu' (c:=i' A.2.1) (fun _=>z) (fun u H d O=>?_) ?_
 .obtain⟨_,⟨p4,P,p5,Q,p6,R,y,K,I,M⟩,_,_,_⟩:=(show True/\(w31u' A) H.m (u 12)/\True/\True/\True from O)
  simp only[undFr,y]
  exact y' z z
 refine bu' (c:=i' A.2.2) (fun _=>z) (fun u H d O=>?_) ?_
 .obtain⟨_,⟨p4,P,p5,Q,p6,R,y,K,I,M⟩,_,_,_⟩:=(show True/\(w31u' A) H.m (u 12)/\True/\True/\True from O)
  simp only[undFr,y]
  exact y' z z
 refine bD' (fun _=>z) z31<|eh' (fun a1 aU aO aX aV X1 aT ah T X U W=>?_)
 obtain⟨b4,rfl,aq⟩:=ah
 obtain⟨p7,aI,p8,aK,p9,aJ,rfl,ab,Z,Y⟩:=T
 obtain⟨p4,P,p5,Q,p6,R,rfl,K,I,M⟩:=X
 obtain⟨p,q,s,t,m,n,rfl,g,j,e⟩:=U
 obtain⟨E,C,L,J,D,F,rfl,l,x,o⟩:=W
 refine cq' aq (cj' (show WL _ _ _ _ _ _ (St w0 G0 X1.m _) from ?_))
 refine s' 5 z aU' z z z z z (List.all_eq_true.1 z)<|sg z z<|sg z z<|u'<|aq'<|g'<|sr<|yy (o' 5 ar' z z z) z<|s' 4 z aU' z z z z z (List.all_eq_true.1 z)<|nx<|j' ?_
 obtain rfl:_=r:=hr
 exact k' z (ac' (i:=4) ar' z z z) ⟨_,_,_,_,_,_,z,ab,Z,Y⟩
theorem Zbq(i:Zf)(q:Int)(f:Option Addr)(d:Nat)(h:Option Addr)(g:Nat)(e:Option Addr)(c:Nat)(j:Option Addr)(k:Nat)(r:Bool)(hr:(Zaf i q).Ret r):Ctr prog 37 #[.agg ((v34' i f d h g e c j k)).toArray,i' q] (fun G=>sl Rp.str G f d i.root.vars/\sl b' G h g i.root.eqs/\sl b' G e c i.root.neqs/\sl an' G j k i.v) (fun G v=>v = .bool r):=by
 refine E' (args:=[_,_]) (N:=14) func37 z z z (fun u x t p=>?_)
 obtain⟨m,n,l,o⟩:=p
 refine sr<|ad' 2 z z z fun y=>sg z z<|nr<|mv z z<|aa' hr z (be' z z) z (fun s hr=>?_) (fun s hr=>?_)
 .refine mv z z<|gy z z (e' z) z<|gy z z (as' z) z<|gy z z (f' 2 bk' z z z) z<|gy z z (M' K' o z) z<|gy z z (ag' z z) z<|yy (h' z z) z<|sg z z<|nx<|j' ?_
  obtain rfl:_=r:=hr
  exact k' z z z
 refine mv z z<|sn5 z<|yy (l' z z) z<|sg z z<|nx<|j' ?_
 obtain rfl:_=r:=hr
 exact k' z z z
end Go.Proofs.YtnjiloaolgjedaaGreat

