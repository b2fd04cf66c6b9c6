/- The law EditVariables holds for every input: a part of its proof (what the code does, plain models, and what they return). No condition. -/
import Derived.Test.YtenaadodnembpaaGreatXV13d
import Derived.Test.YtenaadodnembpaaGreatXV13c
import Derived.Test.YtenaadodnembpaaGreatXV13b
set_option linter.unusedVariables false
set_option linter.unusedSimpArgs false
namespace Go.Proofs.YtenaadodnembpaaGreat
open Go Go.EL Go.RowKit Go.Proofs
theorem eb'{xs i ys p c m tk q d r}(hr:(Zbe xs i ys).Ret r):CtrL Tryz.prog 102 #[.slice p m c,i' i,.slice q ys.length d] [(5000,tk)] (fun G=>RowR Rp.str 9 G (.slice p m c) xs tk∧sl Rp.str G q d ys) (fun G L v=>∃ zp zc ag,L=[(5000,ag)]∧v = .slice zp r.length zc∧RowR Rp.str 9 G (.slice zp r.length zc) r ag):=by
 obtain⟨⟨⟨aY,aw⟩,aB,aW⟩,hr⟩:=hr
 obtain rfl:_=r:=hr
 obtain⟨j,rfl⟩:∃ j:Nat,i=j:=⟨i.toNat,by omega⟩
 refine aW' (args:=[_,_,_]) (N:=95) Tryz.func102 z z z (fun w0 H aD am=>?_)
 obtain⟨F,ad⟩:=am
 obtain⟨p',c1,hf⟩:=F.form
 cases hf
 simp only[Int.toNat_natCast]
 refine sr<|sg z z<|nr<|mv z z<|mv z z<|yy (Y0.slcG y' sz9 z z (by omega)) z<|nr<|mv z z<|yy (dS' y' z) z<|sg z z<|nx<|h'<|sr<|mv z z<|yy (ak' z z) z<|nx<|bh' (by rw[show decide ((ys.length:Int)=0)=false from decide_eq_false (by omega)]; rfl)<|n'<|b'<|sr<|mv z z<|yy (dS' y' z) z<|sg z z<|nx<|h'<|sr<|mv z z<|mv z z<|yy (ak' z z) z<|nx<|dN' (p:=(j:Int)=(xs.length:Int)) z (fun hc=>?_) (fun hc=>?_)
 ·have hj:j=xs.length:=by omega
  subst hj
  have e1:xs.take xs.length++ys++xs.drop xs.length=xs++ys:=by simp
  rw[e1]
  refine sr<|mv z z<|mv z z<|bW' (r:=Rp.str) (e:=9) 5000 z z y' el9 z (by decide) z z F z ad (by simp only[List.length_append,small]; omega) fun p2 c2 aq S=>sg z z<|nx<|j'<|g'<|aE' (S':=St w0 H H [(5000,aq)]) (fun w A=>?_) (k' z z ⟨_,_,_,z,z,S⟩)
  exact A.weaken (lc z ln)
 ·cases tk with
  | none=>have:=F.1; subst this; simp at aw hc; omega
  | some y=>
  obtain⟨aQ,cs,g,hv,ho,ac,Y,X,au,s⟩:=F
  cases hv
  obtain⟨b,ob,mk⟩:=y
  dsimp only at ho ac
  subst ho ac
  have aL:=Y.len
  have aX:j<xs.length:=by omega
  have an:=RepL.split (l:=xs.take j) (m:=xs.drop j) (by rw[List.take_append_drop]; exact Y)
  obtain⟨t,f,ah,ae,M⟩:=an
  subst ah
  have C:=ae.len
  have K:=M.len
  rw[List.length_take,Nat.min_eq_left (by omega)] at C
  rw[List.length_drop] at K
  obtain⟨qy,dy,ds,ap,aV,ai,T,B,x⟩:=ad
  cases ap
  have ab:=T (by omega)
  obtain⟨⟨vb,vo,vs⟩,rfl⟩:=Option.isSome_iff_exists.1 ab
  have af:=ai _ z (by omega)
  dsimp only at af
  subst af
  have x:∀ k u,ds[k]? = some u→H vb (vo+k)=some u:=x
  have D:=B.len
  rw[aB,Nat.one_mul] at D
  have U:(Rp.str).size=1:=z
  rw[U] at C K D X
  simp only[List.length_append] at X
  have I:∀ (bb R:Nat) (rs:List Value),(t++ds++f++rs).length=R*1→R≤maxLen→xs.length+1≤R→RowR Rp.str 9 H (.slice (some ⟨bb,0,none⟩) (xs.take j++ys++xs.drop j).length R) (xs.take j++ys++xs.drop j) (some ⟨bb,.cells (t++ds++f++rs).toArray 9 (0,0),0⟩):=fun bb R rs Z S h3=>
   ⟨R,t++ds++f,rs,z,z,z,(ae.append B).append M,by rw[U]; exact Z,S,by simp only[List.length_append,List.length_take,List.length_drop]; omega⟩
  have O:(xs.take j++ys++xs.drop j).length=xs.length+1:=by simp only[List.length_append,List.length_take,List.length_drop]; omega
  refine n'<|b'<|h'<|sr<|mv z z<|mv z z<|yy (N' z z) z<|mv z z<|yy (Y0.capS y' z) z<|yy (bt' z z) z<|nx ?_
  have W:IntKind.i64.wrap ((xs.length:Int)+(ys.length:Int))=((xs.length+1:Nat):Int):=by rw[IntKind.wrap_i64]; omega
  rw[W]
  refine dN' (p:=(c:Int)<((xs.length+1:Nat):Int)) z (fun ay=>?_) (fun ay=>?_)
  ·refine sr<|mv z z<|mv z z<|yy (Y0.slc (l:=0) (h:=j) (m:=c) (b:=b) (o:=0) y' sz9 z z ⟨_,z⟩ z (by omega) (by omega) (by omega)) z<|mv z z<|mv z z<|yy (N' z z) z<|mv z z<|yy (bf' z z) z ?_
   rw[W]
   have az:IntKind.i64.wrap (((xs.length+1:Nat):Int)-(j:Int))=((xs.length+1-j:Nat):Int):=by rw[IntKind.wrap_i64]; omega
   rw[az]
   simp only[Nat.zero_mul,Nat.add_zero,ite_self,Nat.sub_zero]
   refine WL.appendZ (sz:=1) (bytes:=16) (n:=j) (cap:=c) (m:=xs.length+1-j) (b:=b) 5000 7001 z z y' au' el9 z (by decide) (by decide) z z z (by omega) (by omega) (by simp only[small]; omega) (by simp only[List.length_append]; omega) (fun Q J V Z S h3=>?_)
   have et:List.take (j*1) (t++f++g)=t:=by rw[List.append_assoc,← C,List.take_left]
   have e0:j+(xs.length+1-j)=xs.length+1:=by omega
   rw[e0] at Z
   rw[et,e0]
   refine sg z z<|nr<|mv z z<|mv z z<|yy (cQ' (l:=j) (n:=xs.length+1) (cap:=J) (b:=Q) y' sz9 z z (by omega) (by omega) (by omega)) z<|mv z z<|dm' (sz:=1) (dn:=xs.length+1-j) (sn:=ys.length) (ds:=ds) (b:=Q) (o:=j*1) 7001 z z y' sz9 z z z (by rw[D]; simp only[Nat.min_def]; split <;> omega) (fun w A k u E=>A.imm _ _ _ (x k u E)) (by simp only[List.length_append]; omega) B.one ?_
   have e2:spl (t++V) (j*1) ds=t++ds++V.drop 1:=by
    rw[← C]; simp only[spl,List.take_left,← List.drop_drop,List.drop_left,D]
   rw[e2]
   refine nx<|h'<|Z' [false,false,false,false,false,false,false,false] mix (by kernel_rfl) fun hb=>cn (fun _ s=>f' z)<|cn (fun _ s=>f' z)<|cn (fun _ s=>f' z)<|cn (fun _ s=>N' z z) ?_
   have P:IntKind.i64.wrap ((j:Int)+(ys.length:Int))=((j+1:Nat):Int):=by rw[IntKind.wrap_i64]; omega
   rw[P]
   refine cn (fun _ s=>cQ' (l:=j+1) (n:=xs.length+1) (cap:=J) (b:=Q) y' sz9 z z (by omega) (by omega) (by omega))<|cn (fun _ s=>f' z)<|cn (fun _ s=>f' z)<|cn (fun _ s=>cQ' (l:=j) (n:=xs.length) (cap:=c) (b:=b) y' sz9 z z (by omega) (by omega) (by omega))<|Y' hb ?_
   ·skip
    refine dm' (sz:=1) (dn:=xs.length+1-(j+1)) (sn:=xs.length-j) (ds:=f) (b:=Q) (o:=(j+1)*1) 7001 z z y' sz9 z z z (by rw[K]; congr 1; simp only[Nat.min_def]; split <;> omega) (fun w A k u E=>by
     rw[A.cellOwn (key:=5000) (b:=b) (c:=t++f++g) (e:=9) z,List.append_assoc,List.getElem?_append_right (by omega),← C,Nat.add_sub_cancel_left,List.getElem?_append_left (List.getElem?_eq_some_iff.1 E).1]
     exact E) (by simp only[List.length_append,List.length_drop]; omega) M.one ?_
    have e3:spl (t++ds++V.drop 1) ((j+1)*1) f=t++ds++f++(V.drop 1).drop f.length:=by
     have:(j+1)*1=(t++ds).length:=by simp only[List.length_append]; omega
     rw[this]; simp only[spl,List.take_left,← List.drop_drop,List.drop_left]
    rw[e3]
    refine u'<|am'<|b'<|sr<|mv z z<|sg z z<|nx<|j'<|g'<|aE' (S':=St w0 H H [(5000,some ⟨Q,.cells (t++ds++f++(V.drop 1).drop f.length).toArray 9 (0,0),0⟩)]) (fun w A=>?_) (k' z z ⟨_,_,_,z,by rw[O],I Q J _ (by simp only[List.length_append,List.length_drop]; omega) S Z⟩)
    have A:=A.rekey (i:=7001) (j:=5000) z (by rw[aD]; rfl)
    exact A.weaken (lc z ln)
  ·refine n'<|b'<|sr<|mv z z<|mv z z<|mv z z<|yy (N' z z) z ?_
   rw[W]
   refine yy (Y0.slc (l:=0) (h:=xs.length+1) (m:=c) (b:=b) (o:=0) y' sz9 z z ⟨_,z⟩ z (by omega) (by omega) (by omega)) z ?_
   simp only[Nat.zero_mul,Nat.add_zero,ite_self,Nat.sub_zero]
   refine sg z z<|nx<|h'<|sr<|mv z z<|mv z z<|mv z z<|mv z z<|yy (N' z z) z ?_
   have P:IntKind.i64.wrap ((j:Int)+(ys.length:Int))=((j+1:Nat):Int):=by rw[IntKind.wrap_i64]; omega
   rw[P]
   refine yy (cQ' (l:=j+1) (n:=xs.length+1) (cap:=c) (b:=b) y' sz9 z z (by omega) (by omega) (by omega)) z ?_
   obtain⟨u0,ao⟩:∃ u,ds[0]? = some u:=⟨ds[0],by simp⟩
   refine yy (Y0.ext z (fun w A=>ZeE (tR:=4) (key:=5000) y' sz9 Tryz.func143 z z (by kernel_rfl) (by kernel_rfl) A z (by simp only[List.size_toArray,List.length_append]; omega) (x 0 u0 ao))) z<|yy (an' z) z<|nx<|at' z<|h'<|Z' [false,false,false,false,false,false,false,false] mix (by kernel_rfl) fun hb=>cn (fun _ s=>f' z)<|cn (fun _ s=>f' z)<|cn (fun _ s=>f' z)<|cn (fun _ s=>N' z z) ?_
   rw[P]
   refine cn (fun _ s=>cQ' (l:=j+1) (n:=xs.length+1) (cap:=c) (b:=b) y' sz9 z z (by omega) (by omega) (by omega))<|cn (fun _ s=>f' z)<|cn (fun _ s=>f' z)<|cn (fun _ s=>cQ' (l:=j) (n:=xs.length+1) (cap:=c) (b:=b) y' sz9 z z (by omega) (by omega) (by omega))<|Y' hb<|dm' (sz:=1) (dn:=xs.length+1-(j+1)) (sn:=xs.length+1-j) (ds:=f) (b:=b) (o:=(j+1)*1) 5000 z z y' sz9 z z z (by rw[K]; congr 1; simp only[Nat.min_def]; split <;> omega) (fun w A k u E=>by
    rw[A.cellOwn (key:=5000) (b:=b) (c:=t++f++g) (e:=9) z,List.append_assoc,List.getElem?_append_right (by omega),← C,Nat.add_sub_cancel_left,List.getElem?_append_left (List.getElem?_eq_some_iff.1 E).1]
    exact E) (by simp only[List.length_append]; omega) M.one ?_
   refine u'<|am'<|b'<|sr<|mv z z<|mv z z<|yy (cQ' (l:=j) (n:=xs.length+1) (cap:=c) (b:=b) y' sz9 z z (by omega) (by omega) (by omega)) z<|mv z z ?_
   have av:(spl (t++f++g) ((j+1)*1) f).length=c*1:=by rw[Zd4 (by simp only[List.length_append]; omega)]; simp only[List.length_append]; omega
   refine dm' (sz:=1) (dn:=xs.length+1-j) (sn:=ys.length) (ds:=ds) (b:=b) (o:=j*1) 5000 z z y' sz9 z z z (by rw[D]; simp only[Nat.min_def]; split <;> omega) (fun w A k u E=>A.imm _ _ _ (x k u E)) (by rw[av]; omega) B.one ?_
   have e4:spl (spl (t++f++g) ((j+1)*1) f) (j*1) ds=t++ds++f++(t++f++g).drop ((j+1)*1+f.length):=by
    have e5:spl (t++f++g) ((j+1)*1) f=t++((f++g).take 1++(f++(t++f++g).drop ((j+1)*1+f.length))):=by
     simp only[spl]
     rw[show (j+1)*1=t.length+1 by omega,List.append_assoc t f g,List.take_length_add_append]
     simp only[List.append_assoc]
    rw[e5,← C]
    have e6:((f++g).take 1).length=1:=by rw[List.length_take,List.length_append]; omega
    simp only[spl,List.take_left,← List.drop_drop,List.drop_left,D]
    rw[List.drop_left' e6]
    simp only[List.append_assoc]
   rw[e4]
   refine nr<|mv z z<|sg z z<|nx<|j'<|g'<|aE' (S':=St w0 H H [(5000,some ⟨b,.cells (t++ds++f++(t++f++g).drop ((j+1)*1+f.length)).toArray 9 (0,0),0⟩)]) (fun w A=>?_) (k' z z ⟨_,_,_,z,by rw[O],I b c _ (by simp only[List.length_append,List.length_drop]; omega) au (by omega)⟩)
   exact A.weaken (lc z ln)
theorem ec'{xs i i2 p c m tk r}(hr:(Zbd xs i i2).Ret r):CtrL Tryz.prog 108 #[.slice p m c,i' i,i' i2] [(5000,tk)] (fun G=>RowR Rp.str 9 G (.slice p m c) xs tk) (fun G L v=>∃ zp zc R,L=[(5000,R)]∧v = .slice zp r.length zc∧RowR Rp.str 9 G (.slice zp r.length zc) r R):=by
 obtain⟨⟨av,az,Z,aw⟩,hr⟩:=hr
 obtain rfl:_=r:=hr
 obtain⟨j,rfl⟩:∃ j:Nat,i=j:=⟨i.toNat,by omega⟩
 obtain⟨k,rfl⟩:∃ k:Nat,i2=k:=⟨i2.toNat,by omega⟩
 refine aW' (args:=[_,_,_]) (N:=33) Tryz.func108 z z z (fun w0 M ay s=>?_)
 obtain⟨p',c',hf⟩:=s.form
 cases hf
 simp only[Int.toNat_natCast]
 have T:xs.length≤c:=by
  cases tk with
  | none=>have:=s.1; subst this; simp
  | some y=>obtain⟨c1,cs,f,U,S,H,K,C,O,t⟩:=s; cases U; exact t
 refine sr<|sg z z<|nr<|mv z z<|mv z z<|mv z z<|mv z z<|yy (dS' y' z) z<|yy (Y0.slcA y' sz9 z z z z (by omega) (by omega) T) z<|nx<|h'<|sr<|mv z z<|mv z z<|yy (ak' z z) z<|nx<|dN' (p:=(j:Int)=(k:Int)) z (fun hc=>?_) (fun hc=>?_)
 ·have hj:j=k:=by omega
  subst hj
  rw[List.take_append_drop]
  refine sr<|mv z z<|sg z z<|nx<|j'<|g'<|aE' (S':=St w0 M M [(5000,tk)]) (fun w I=>I.weaken (lc z ln)) (k' z z ⟨_,_,_,z,z,s⟩)
 ·cases tk with
  | none=>have:=s.1; subst this; simp at Z hc; omega
  | some y=>
  obtain⟨c1,cs,f,U,S,H,K,C,O,t⟩:=s
  cases U
  obtain⟨b,ob,mk⟩:=y
  dsimp only at S H
  subst S H
  have x:(Rp.str).size=1:=z
  obtain⟨g,cb,W,Q,Y⟩:=RepL.split (l:=xs.take j) (m:=xs.drop j) (by rw[List.take_append_drop]; exact K)
  subst W
  obtain⟨A,d,X,ac,J⟩:=RepL.split (l:=(xs.drop j).take (k-j)) (m:=xs.drop k) (by
   have:xs.drop k=(xs.drop j).drop (k-j):=by rw[List.drop_drop]; congr 1; omega
   rw[this,List.take_append_drop]; exact Y)
  subst X
  have D:=Q.len
  have P:=ac.len
  have B:=J.len
  rw[List.length_take,Nat.min_eq_left (by omega),x] at D
  rw[List.length_take,List.length_drop,Nat.min_eq_left (by omega),x] at P
  rw[List.length_drop,x] at B
  rw[x] at C
  simp only[List.length_append] at C
  refine n'<|b'<|sr<|mv z z<|yy (dS' y' z) z<|sg z z<|nx<|h' ?_
  have e0:(g++(A++d)++f)=g++A++(d++f):=by simp only[List.append_assoc]
  rw[e0]
  have ad:(g++A).length=k*1:=by rw[List.length_append,D,P,← Nat.add_mul]; congr 1; omega
  refine Z' [false,false,false,false,false,false] mix (by kernel_rfl) fun hb=>cn (fun _ t=>f' z)<|cn (fun _ t=>f' z)<|cn (fun _ t=>Y0.slc (l:=0) (h:=j) (m:=c) (b:=b) (o:=0) y' sz9 z z ⟨_,z⟩ z (by omega) (by omega) (by omega))<|cn (fun _ t=>f' z)<|cn (fun _ t=>f' z)<|cn (fun _ t=>Y0.slc (l:=k) (h:=xs.length) (m:=c) (b:=b) (o:=0) y' sz9 z z ⟨z,z⟩ ⟨_,z⟩ (by omega) (by omega) (by omega)) ?_
  simp only[Nat.zero_mul,Nat.add_zero,ite_self,Nat.sub_zero]
  refine Y' hb<|WL.appendOwn (sz:=1) (ds:=d) (b:=b) (n:=j) (cap:=c) (m:=xs.length-k) 5000 z z y' sz9 z z z (by rw[B]) (fun w I q u hu=>by
   have F:=(List.getElem?_eq_some_iff.1 hu).1
   have ae:¬ c=k:=fun e=>by subst e; rw[B] at F; rw[show xs.length-c=0 by omega] at F; omega
   rw[if_neg ae,Nat.zero_add,I.cellOwn (key:=5000) (b:=b) (c:=g++A++(d++f)) (e:=9) z,List.getElem?_append_right (by omega),← ad,Nat.add_sub_cancel_left,List.getElem?_append_left F]
   exact hu) (by omega) (by simp only[List.length_append]; omega) J.one ?_
  refine sg z z<|u'<|am'<|b'<|sr<|mv z z<|mv z z<|yy (dS' y' z) z<|mv z z<|yy (Y0.slc (l:=j+(xs.length-k)) (h:=xs.length) (m:=c) (b:=b) (o:=0) y' sz9 z z ⟨_,z⟩ ⟨_,z⟩ (by omega) (by omega) (by omega)) z ?_
  rw[if_neg (show ¬ c=j+(xs.length-k) by omega),Nat.zero_add ((j+(xs.length-k))*1)]
  have E:(spl (g++A++(d++f)) (j*1) d).length=c*1:=by rw[Zd4 (by simp only[List.length_append]; omega)]; simp only[List.length_append]; omega
  refine WL.clearOwn (n:=xs.length-(j+(xs.length-k))) (b:=b) (o:=(j+(xs.length-k))*1) 5000 z trivial y' z9 (List.all_eq_true.1 z) z z (by rw[E]; show _+_*1≤_; omega) (fun ds ai=>?_)
  have ax:ds.length=(xs.length-(j+(xs.length-k)))*1:=ai
  have ak:(spl (spl (g++A++(d++f)) (j*1) d) ((j+(xs.length-k))*1) ds).length=c*1:=by rw[Zd4 (by rw[E]; omega),E]
  have e4:spl (spl (g++A++(d++f)) (j*1) d) ((j+(xs.length-k))*1) ds=g++d++(spl (spl (g++A++(d++f)) (j*1) d) ((j+(xs.length-k))*1) ds).drop (g++d).length:=by
   have e5:∃ q,spl (g++A++(d++f)) (j*1) d=(g++d)++q:=⟨_,by rw[← D]; simp only[spl]; rw[List.append_assoc g A,List.take_left]⟩
   obtain⟨q,hq⟩:=e5
   have V:(j+(xs.length-k))*1=(g++d).length:=by rw[List.length_append,D,B,← Nat.add_mul]
   rw[hq,V]
   simp only[spl]
   rw[List.take_left,List.append_assoc (g++d) ds,List.drop_left]
  rw[e4]
  refine nr<|mv z z<|sg z z<|nx<|j'<|aE' (S':=St w0 M M [(5000,some ⟨b,.cells (g++d++(spl (spl (g++A++(d++f)) (j*1) d) ((j+(xs.length-k))*1) ds).drop (g++d).length).toArray 9 (0,0),0⟩)]) (fun w I=>I.weaken (lc z ln)) (k' z z ⟨_,_,_,z,?_,⟨c,g++d,_,z,z,z,Q.append J,?_,O,?_⟩⟩)
  ·rw[show (xs.take j++xs.drop k).length=j+(xs.length-k) by simp only[List.length_append,List.length_take,List.length_drop]; omega]
  ·rw[← e4,ak,x]
  ·simp only[List.length_append,List.length_take,List.length_drop]; omega
theorem de'{k r}(hr:(Zab k).Ret r):CtrL Tryz.prog 145 #[.slice none 0 0,i' k] [] (fun _=>True) (fun G L v=>∃ u n f,L=[(7000,f)]∧v = .slice u r.length n∧RowR a' 68 G (.slice u r.length n) r f):=by
 obtain⟨⟨C,D⟩,hr⟩:=hr
 replace hr:[]=r:=hr
 subst hr
 obtain⟨m,rfl⟩:∃ m:Nat,k=m:=⟨k.toNat,by omega⟩
 refine aW' (args:=[_,_]) (N:=27) Tryz.func145 z z z fun q e t _=>sr<|sg z z<|nx<|h'<|sr<|mv z z<|yy (V' z z) z<|nx<|bh' (by rw[show decide ((m:Int)<0)=false from decide_eq_false (by omega)]; rfl)<|n'<|b'<|h'<|sr<|mv z z<|mv z z<|yy (Y0.capS q' z) z<|mv z z<|yy (dS' q' z) z<|yy (bf' z z) z<|yy (bf' z z) z ?_
 have y:IntKind.i64.wrap ((m:Int)-IntKind.i64.wrap (((0:Nat):Int)-((0:Nat):Int)))=m:=by simp only[IntKind.wrap_i64]; omega
 rw[y]
 refine sg z z<|nx<|sr<|mv z z<|yy (bt' z z) z<|nx<|dN' (p:=(0:Int)<(m:Int)) z (fun A=>?_) (fun A=>?_)
 ·refine w'<|mv z z<|mv z z<|yy (Y0.capS q' z) z<|yy (Y0.nilH q' aO' z z) z<|mv z z<|WL.appendZ0 (sz:=2) (bytes:=32) (m:=m) 7001 z z q' au' el68 z (by decide) (by decide) z z (by omega) (by simp only[small]; omega) fun g c s B x=>mv z z<|yy (dS' q' z) z<|yy (Y0.slc (l:=0) (h:=0) (m:=c) (b:=g) (o:=0) q' aO' z z ⟨_,z⟩ z (Nat.le_refl _) (Nat.zero_le _) (Nat.le_refl _)) z ?_
  simp only[Nat.zero_mul,Nat.add_zero,ite_self,Nat.sub_zero]
  refine sg z z<|u'<|b'<|sr<|mv z z<|sg z z<|nx<|j'<|aE' (S':=St q e e [(7000,some ⟨g,.cells s.toArray 68 (0,0),0⟩)]) (fun w d=>?_) (k' z z ⟨_,_,_,z,z,⟨c,[],s,z,z,z,z,x,B,Nat.zero_le _⟩⟩)
  have d:=d.rekey (i:=7001) (j:=7000) z (by rw[t]; rfl)
  exact d.weaken (lc z ln)
 ·refine n'<|b'<|sr<|mv z z<|sg z z<|nx<|j'<|aE' (S':=St q e e [(7000,none)]) (fun w d=>d.weaken (lw ln)) (k' z z ⟨_,_,_,z,z,ed'⟩)
theorem dj'{xs i ys p c m tk q d r}(hr:(ZT xs i ys).Ret r):CtrL Tryz.prog 154 #[.slice p m c,i' i,.slice q ys.length d] [(5000,tk)] (fun G=>RowR a' 68 G (.slice p m c) xs tk∧sl a' G q d ys) (fun G L v=>∃ zp zc ag,L=[(5000,ag)]∧v = .slice zp r.length zc∧RowR a' 68 G (.slice zp r.length zc) r ag):=by
 obtain⟨⟨⟨aY,aw⟩,aB,aW⟩,hr⟩:=hr
 obtain rfl:_=r:=hr
 obtain⟨j,rfl⟩:∃ j:Nat,i=j:=⟨i.toNat,by omega⟩
 refine aW' (args:=[_,_,_]) (N:=95) Tryz.func154 z z z (fun w0 H aD am=>?_)
 obtain⟨F,ad⟩:=am
 obtain⟨p',c1,hf⟩:=F.form
 cases hf
 simp only[Int.toNat_natCast]
 refine sr<|sg z z<|nr<|mv z z<|mv z z<|yy (Y0.slcG q' aO' z z (by omega)) z<|nr<|mv z z<|yy (dS' q' z) z<|sg z z<|nx<|h'<|sr<|mv z z<|yy (ak' z z) z<|nx<|bh' (by rw[show decide ((ys.length:Int)=0)=false from decide_eq_false (by omega)]; rfl)<|n'<|b'<|sr<|mv z z<|yy (dS' q' z) z<|sg z z<|nx<|h'<|sr<|mv z z<|mv z z<|yy (ak' z z) z<|nx<|dN' (p:=(j:Int)=(xs.length:Int)) z (fun hc=>?_) (fun hc=>?_)
 ·have hj:j=xs.length:=by omega
  subst hj
  have e1:xs.take xs.length++ys++xs.drop xs.length=xs++ys:=by simp
  rw[e1]
  refine sr<|mv z z<|mv z z<|bW' (r:=a') (e:=68) 5000 z z q' el68 z (by decide) z z F z ad (by simp only[List.length_append,small]; omega) fun p2 c2 aq S=>sg z z<|nx<|j'<|g'<|aE' (S':=St w0 H H [(5000,aq)]) (fun w A=>?_) (k' z z ⟨_,_,_,z,z,S⟩)
  exact A.weaken (lc z ln)
 ·cases tk with
  | none=>have:=F.1; subst this; simp at aw hc; omega
  | some y=>
  obtain⟨aQ,cs,g,hv,ho,ac,Y,X,au,s⟩:=F
  cases hv
  obtain⟨b,ob,mk⟩:=y
  dsimp only at ho ac
  subst ho ac
  have aL:=Y.len
  have aX:j<xs.length:=by omega
  have an:=RepL.split (l:=xs.take j) (m:=xs.drop j) (by rw[List.take_append_drop]; exact Y)
  obtain⟨t,f,ah,ae,M⟩:=an
  subst ah
  have C:=ae.len
  have K:=M.len
  rw[List.length_take,Nat.min_eq_left (by omega)] at C
  rw[List.length_drop] at K
  obtain⟨qy,dy,ds,ap,aV,ai,T,B,x⟩:=ad
  cases ap
  have ab:=T (by omega)
  obtain⟨⟨vb,vo,vs⟩,rfl⟩:=Option.isSome_iff_exists.1 ab
  have af:=ai _ z (by omega)
  dsimp only at af
  subst af
  have x:∀ k u,ds[k]? = some u→H vb (vo+k)=some u:=x
  have D:=B.len
  rw[aB,Nat.one_mul] at D
  have U:(a').size=2:=z
  rw[U] at C K D X
  simp only[List.length_append] at X
  have I:∀ (bb R:Nat) (rs:List Value),(t++ds++f++rs).length=R*2→R≤maxLen→xs.length+1≤R→RowR a' 68 H (.slice (some ⟨bb,0,none⟩) (xs.take j++ys++xs.drop j).length R) (xs.take j++ys++xs.drop j) (some ⟨bb,.cells (t++ds++f++rs).toArray 68 (0,0),0⟩):=fun bb R rs Z S h3=>
   ⟨R,t++ds++f,rs,z,z,z,(ae.append B).append M,by rw[U]; exact Z,S,by simp only[List.length_append,List.length_take,List.length_drop]; omega⟩
  have O:(xs.take j++ys++xs.drop j).length=xs.length+1:=by simp only[List.length_append,List.length_take,List.length_drop]; omega
  refine n'<|b'<|h'<|sr<|mv z z<|mv z z<|yy (N' z z) z<|mv z z<|yy (Y0.capS q' z) z<|yy (bt' z z) z<|nx ?_
  have W:IntKind.i64.wrap ((xs.length:Int)+(ys.length:Int))=((xs.length+1:Nat):Int):=by rw[IntKind.wrap_i64]; omega
  rw[W]
  refine dN' (p:=(c:Int)<((xs.length+1:Nat):Int)) z (fun ay=>?_) (fun ay=>?_)
  ·refine sr<|mv z z<|mv z z<|yy (Y0.slc (l:=0) (h:=j) (m:=c) (b:=b) (o:=0) q' aO' z z ⟨_,z⟩ z (by omega) (by omega) (by omega)) z<|mv z z<|mv z z<|yy (N' z z) z<|mv z z<|yy (bf' z z) z ?_
   rw[W]
   have az:IntKind.i64.wrap (((xs.length+1:Nat):Int)-(j:Int))=((xs.length+1-j:Nat):Int):=by rw[IntKind.wrap_i64]; omega
   rw[az]
   simp only[Nat.zero_mul,Nat.add_zero,ite_self,Nat.sub_zero]
   refine WL.appendZ (sz:=2) (bytes:=32) (n:=j) (cap:=c) (m:=xs.length+1-j) (b:=b) 5000 7001 z z q' au' el68 z (by decide) (by decide) z z z (by omega) (by omega) (by simp only[small]; omega) (by simp only[List.length_append]; omega) (fun Q J V Z S h3=>?_)
   have et:List.take (j*2) (t++f++g)=t:=by rw[List.append_assoc,← C,List.take_left]
   have e0:j+(xs.length+1-j)=xs.length+1:=by omega
   rw[e0] at Z
   rw[et,e0]
   refine sg z z<|nr<|mv z z<|mv z z<|yy (cQ' (l:=j) (n:=xs.length+1) (cap:=J) (b:=Q) q' aO' z z (by omega) (by omega) (by omega)) z<|mv z z<|dm' (sz:=2) (dn:=xs.length+1-j) (sn:=ys.length) (ds:=ds) (b:=Q) (o:=j*2) 7001 z z q' aO' z z z (by rw[D]; simp only[Nat.min_def]; split <;> omega) (fun w A k u E=>A.imm _ _ _ (x k u E)) (by simp only[List.length_append]; omega) B.one ?_
   have e2:spl (t++V) (j*2) ds=t++ds++V.drop 2:=by
    rw[← C]; simp only[spl,List.take_left,← List.drop_drop,List.drop_left,D]
   rw[e2]
   refine nx<|h'<|Z' [false,false,false,false,false,false,false,false] mix (by kernel_rfl) fun hb=>cn (fun _ s=>f' z)<|cn (fun _ s=>f' z)<|cn (fun _ s=>f' z)<|cn (fun _ s=>N' z z) ?_
   have P:IntKind.i64.wrap ((j:Int)+(ys.length:Int))=((j+1:Nat):Int):=by rw[IntKind.wrap_i64]; omega
   rw[P]
   refine cn (fun _ s=>cQ' (l:=j+1) (n:=xs.length+1) (cap:=J) (b:=Q) q' aO' z z (by omega) (by omega) (by omega))<|cn (fun _ s=>f' z)<|cn (fun _ s=>f' z)<|cn (fun _ s=>cQ' (l:=j) (n:=xs.length) (cap:=c) (b:=b) q' aO' z z (by omega) (by omega) (by omega))<|Y' hb ?_
   ·skip
    refine dm' (sz:=2) (dn:=xs.length+1-(j+1)) (sn:=xs.length-j) (ds:=f) (b:=Q) (o:=(j+1)*2) 7001 z z q' aO' z z z (by rw[K]; congr 1; simp only[Nat.min_def]; split <;> omega) (fun w A k u E=>by
     rw[A.cellOwn (key:=5000) (b:=b) (c:=t++f++g) (e:=68) z,List.append_assoc,List.getElem?_append_right (by omega),← C,Nat.add_sub_cancel_left,List.getElem?_append_left (List.getElem?_eq_some_iff.1 E).1]
     exact E) (by simp only[List.length_append,List.length_drop]; omega) M.one ?_
    have e3:spl (t++ds++V.drop 2) ((j+1)*2) f=t++ds++f++(V.drop 2).drop f.length:=by
     have:(j+1)*2=(t++ds).length:=by simp only[List.length_append]; omega
     rw[this]; simp only[spl,List.take_left,← List.drop_drop,List.drop_left]
    rw[e3]
    refine u'<|am'<|b'<|sr<|mv z z<|sg z z<|nx<|j'<|g'<|aE' (S':=St w0 H H [(5000,some ⟨Q,.cells (t++ds++f++(V.drop 2).drop f.length).toArray 68 (0,0),0⟩)]) (fun w A=>?_) (k' z z ⟨_,_,_,z,by rw[O],I Q J _ (by simp only[List.length_append,List.length_drop]; omega) S Z⟩)
    have A:=A.rekey (i:=7001) (j:=5000) z (by rw[aD]; rfl)
    exact A.weaken (lc z ln)
  ·refine n'<|b'<|sr<|mv z z<|mv z z<|mv z z<|yy (N' z z) z ?_
   rw[W]
   refine yy (Y0.slc (l:=0) (h:=xs.length+1) (m:=c) (b:=b) (o:=0) q' aO' z z ⟨_,z⟩ z (by omega) (by omega) (by omega)) z ?_
   simp only[Nat.zero_mul,Nat.add_zero,ite_self,Nat.sub_zero]
   refine sg z z<|nx<|h'<|sr<|mv z z<|mv z z<|mv z z<|mv z z<|yy (N' z z) z ?_
   have P:IntKind.i64.wrap ((j:Int)+(ys.length:Int))=((j+1:Nat):Int):=by rw[IntKind.wrap_i64]; omega
   rw[P]
   refine yy (cQ' (l:=j+1) (n:=xs.length+1) (cap:=c) (b:=b) q' aO' z z (by omega) (by omega) (by omega)) z ?_
   obtain⟨u0,ao⟩:∃ u,ds[0]? = some u:=⟨ds[0],by simp⟩
   refine yy (Y0.ext z (fun w A=>ZeE (tR:=4) (key:=5000) q' aO' Tryz.func179 z z (by kernel_rfl) (by kernel_rfl) A z (by simp only[List.size_toArray,List.length_append]; omega) (x 0 u0 ao))) z<|yy (an' z) z<|nx<|at' z<|h'<|Z' [false,false,false,false,false,false,false,false] mix (by kernel_rfl) fun hb=>cn (fun _ s=>f' z)<|cn (fun _ s=>f' z)<|cn (fun _ s=>f' z)<|cn (fun _ s=>N' z z) ?_
   rw[P]
   refine cn (fun _ s=>cQ' (l:=j+1) (n:=xs.length+1) (cap:=c) (b:=b) q' aO' z z (by omega) (by omega) (by omega))<|cn (fun _ s=>f' z)<|cn (fun _ s=>f' z)<|cn (fun _ s=>cQ' (l:=j) (n:=xs.length+1) (cap:=c) (b:=b) q' aO' z z (by omega) (by omega) (by omega))<|Y' hb<|dm' (sz:=2) (dn:=xs.length+1-(j+1)) (sn:=xs.length+1-j) (ds:=f) (b:=b) (o:=(j+1)*2) 5000 z z q' aO' z z z (by rw[K]; congr 1; simp only[Nat.min_def]; split <;> omega) (fun w A k u E=>by
    rw[A.cellOwn (key:=5000) (b:=b) (c:=t++f++g) (e:=68) z,List.append_assoc,List.getElem?_append_right (by omega),← C,Nat.add_sub_cancel_left,List.getElem?_append_left (List.getElem?_eq_some_iff.1 E).1]
    exact E) (by simp only[List.length_append]; omega) M.one ?_
   refine u'<|am'<|b'<|sr<|mv z z<|mv z z<|yy (cQ' (l:=j) (n:=xs.length+1) (cap:=c) (b:=b) q' aO' z z (by omega) (by omega) (by omega)) z<|mv z z ?_
   have av:(spl (t++f++g) ((j+1)*2) f).length=c*2:=by rw[Zd4 (by simp only[List.length_append]; omega)]; simp only[List.length_append]; omega
   refine dm' (sz:=2) (dn:=xs.length+1-j) (sn:=ys.length) (ds:=ds) (b:=b) (o:=j*2) 5000 z z q' aO' z z z (by rw[D]; simp only[Nat.min_def]; split <;> omega) (fun w A k u E=>A.imm _ _ _ (x k u E)) (by rw[av]; omega) B.one ?_
   have e4:spl (spl (t++f++g) ((j+1)*2) f) (j*2) ds=t++ds++f++(t++f++g).drop ((j+1)*2+f.length):=by
    have e5:spl (t++f++g) ((j+1)*2) f=t++((f++g).take 2++(f++(t++f++g).drop ((j+1)*2+f.length))):=by
     simp only[spl]
     rw[show (j+1)*2=t.length+2 by omega,List.append_assoc t f g,List.take_length_add_append]
     simp only[List.append_assoc]
    rw[e5,← C]
    have e6:((f++g).take 2).length=2:=by rw[List.length_take,List.length_append]; omega
    simp only[spl,List.take_left,← List.drop_drop,List.drop_left,D]
    rw[List.drop_left' e6]
    simp only[List.append_assoc]
   rw[e4]
   refine nr<|mv z z<|sg z z<|nx<|j'<|g'<|aE' (S':=St w0 H H [(5000,some ⟨b,.cells (t++ds++f++(t++f++g).drop ((j+1)*2+f.length)).toArray 68 (0,0),0⟩)]) (fun w A=>?_) (k' z z ⟨_,_,_,z,by rw[O],I b c _ (by simp only[List.length_append,List.length_drop]; omega) au (by omega)⟩)
   exact A.weaken (lc z ln)
theorem gA':CtrL Tryz.prog 36 #[] [] (fun _=>True) (fun _ L v=>∃ c,L=[(7000,c)]∧MapR ky3 RvF v Zp c):=by
 refine aW' (args:=[]) (N:=3) Tryz.func36 z z z fun g f e _=>sr<|WL.y0' z (Y0.assign z) z<|nx<|sr<|WL.makeMap (ky:=ky3) (Rv:=RvF) 4000 z z fun b c h=>dw' (z:=64) (k:=1) 4000 z cd' h z z z z (show (Lit.int IntKind.i64 1).wf=true by decide) z (by decide) fun c h=>dw' (z:=65) (k:=2) 4000 z cd' h z z z z (show (Lit.int IntKind.i64 2).wf=true by decide) z (by decide) fun c h=>dw' (z:=66) (k:=3) 4000 z cd' h z z z z (show (Lit.int IntKind.i64 3).wf=true by decide) z (by decide) fun c h=>dw' (z:=67) (k:=4) 4000 z cd' h z z z z (show (Lit.int IntKind.i64 4).wf=true by decide) z (by decide) fun c h=>dw' (z:=68) (k:=5) 4000 z cd' h z z z z (show (Lit.int IntKind.i64 5).wf=true by decide) z (by decide) fun c h=>dw' (z:=69) (k:=6) 4000 z cd' h z z z z (show (Lit.int IntKind.i64 6).wf=true by decide) z (by decide) fun c h=>dw' (z:=70) (k:=7) 4000 z cd' h z z z z (show (Lit.int IntKind.i64 7).wf=true by decide) z (by decide) fun c h=>dw' (z:=71) (k:=8) 4000 z cd' h z z z z (show (Lit.int IntKind.i64 8).wf=true by decide) z (by decide) fun c h=>mv z z<|sg z z<|nx<|j'<|aE' (S':=St g f f [(7000,c)]) (fun w d=>?_) (k' z z ⟨_,z,h⟩)
 have d:=d.rekey (i:=4000) (j:=7000) z (by rw[e]; rfl)
 exact d.weaken (lc z ln)
theorem eM'{a1 b1 r}(hr:(ZbJ a1 b1).Ret r):Ctr Tryz.prog 172 #[.agg (vecG (Value.int .i64) 8 a1).toArray,.agg (vecG (Value.int .i64) 8 b1).toArray] (fun G=>True) (fun G v=>v=i' r):=by
 refine C' (args:=[_,_]) (N:=25) Tryz.func172 z z z fun x j H A=>sr<|W' 2 z z z fun k=>W' 3 z z z fun l=>sg z z<|nx<|h'<|sr<|yy (s' 2 ca' z z (Q' _ _ _)) z<|yy (s' 3 ca' z z (Q' _ _ _)) z<|yy (Y0.eqlV aG' au' sc3 sz3 eg99 z z) z<|nx<|I' hr z (fun s hr=>?_) (fun s hr=>?_)
 ·refine sr<|sg z z<|nx<|j' ?_
  replace hr:_=r:=hr
  refine g' ?_
  subst hr
  exact k' z z z
 ·refine n'<|b'<|sr<|sg z z<|nx<|h'<|ab' (fun (⟨g,e⟩:Int×Mem)=>[(2,.pointer (some ⟨k,0,none⟩)),(3,.pointer (some ⟨l,0,none⟩)),(5,i' g)]) (fun ⟨g,e⟩=>Mem.le j e∧(ZcJ a1 b1 g).Ret r) (fun ⟨g,e⟩=>St x j e [(2,some ⟨k,.cells (vecG (Value.int .i64) 8 a1).toArray 99 (0,0),0⟩),(3,some ⟨l,.cells (vecG (Value.int .i64) 8 b1).toArray 99 (0,0),0⟩)]) ?_ ?_
  ·refine A' ?_
   let i:Int→Prop:=fun B=>((fun E=>match E with|g=>ZcJ a1 b1 g:Int→Comp Int) B).wp (fun a=>a=r)
   replace hr:(Comp.loop _ _).wp i:=hr
   refine ac' (Φ:=i) (fun (⟨f,d⟩:Int×Mem)=>(f:Int)) (fun ⟨f,d⟩=>[(2,.pointer (some ⟨k,0,none⟩)),(3,.pointer (some ⟨l,0,none⟩)),(5,i' f)]) (fun ⟨f,d⟩=>Mem.le j d) (fun ⟨f,d⟩=>St x j d [(2,some ⟨k,.cells (vecG (Value.int .i64) 8 a1).toArray 99 (0,0),0⟩),(3,some ⟨l,.cells (vecG (Value.int .i64) 8 b1).toArray 99 (0,0),0⟩)]) ⟨0,j⟩ hr (fc z (fc z (fc z fn))) mr (wk (lc z (lc z ln))) ?_
   ·intro F C D hr
    obtain⟨f,d⟩:=C
    have h:=D
    refine h'<|h'<|Z' [false,false,false,false,false,false] mix (by kernel_rfl) fun q=>cn (fun _ c=>f' z) ?_
    obtain⟨n,hr⟩:=hr
    refine cn (fun _ c=>aX' aG' sz3 z z n)<|cn (fun _ c=>e' 2 sc3 z z (bA' _ _ _ n))<|cn (fun _ c=>f' z) ?_
    obtain⟨p,hr⟩:=hr
    refine cn (fun _ c=>aX' aG' sz3 z z p)<|cn (fun _ c=>e' 3 sc3 z z (bA' _ _ _ p))<|Y' q<|yy (ak' z z) z<|u'<|am'<|b'<|I' hr z (fun t hr=>?_) (fun t hr=>?_)
    ·refine n'<|b'<|A'<|w'<|mv z z<|yy (N' z z) z<|sg z z<|u'<|D'<|O' ⟨IntKind.i64.wrap (f+1),d⟩ hr h (fc z (fc z (fc z fn))) (wk (lc z (lc z ln)))
    ·refine ae'<|m'<|m'<|J'<|af' ⟨f,d⟩ ⟨h,hr⟩ (fc z (fc z (fc z fn))) (wk (lc z (lc z ln)))
  ·rintro⟨g,e⟩ ⟨y,hr⟩
   refine b'<|h'<|h'<|Z' [false,false,false,false,false,false] mix (by kernel_rfl) fun q=>cn (fun _ c=>f' z) ?_
   obtain⟨m,hr⟩:=hr
   refine cn (fun _ c=>aX' aG' sz3 z z m)<|cn (fun _ c=>e' 2 sc3 z z (bA' _ _ _ m))<|cn (fun _ c=>f' z) ?_
   obtain⟨o,hr⟩:=hr
   refine cn (fun _ c=>aX' aG' sz3 z z o)<|cn (fun _ c=>e' 3 sc3 z z (bA' _ _ _ o))<|Y' q<|yy (V' z z) z<|u'<|am'<|b'<|I' hr z (fun u hr=>?_) (fun u hr=>?_)
   ·refine sr<|sg z z<|nx<|j' ?_
    replace hr:_=r:=hr
    refine g' ?_
    subst hr
    exact k' z z z
   ·refine n'<|b'<|sr<|sg z z<|nx<|j' ?_
    obtain rfl:_=r:=hr
    exact k' z z z
theorem eK'{a1 b1 a1cnummagp a1cnummagc a1cdenmagp a1cdenmagc b1cnummagp b1cnummagc b1cdenmagp b1cdenmagc r}(hr:(ZcN a1 b1).Ret r):Ctr Tryz.prog 196 #[.agg (([.bool a1.c.num.neg,.slice a1cnummagp a1.c.num.mag.length a1cnummagc,.bool a1.c.den.neg,.slice a1cdenmagp a1.c.den.mag.length a1cdenmagc]:List Value)++(vecG (Value.int .i64) 8 a1.m)).toArray,.agg (([.bool b1.c.num.neg,.slice b1cnummagp b1.c.num.mag.length b1cnummagc,.bool b1.c.den.neg,.slice b1cdenmagp b1.c.den.mag.length b1cdenmagc]:List Value)++(vecG (Value.int .i64) 8 b1.m)).toArray] (fun G=>sl (Rp.int .u32) G a1cnummagp a1cnummagc a1.c.num.mag∧sl (Rp.int .u32) G a1cdenmagp a1cdenmagc a1.c.den.mag∧sl (Rp.int .u32) G b1cnummagp b1cnummagc b1.c.num.mag∧sl (Rp.int .u32) G b1cdenmagp b1cdenmagc b1.c.den.mag) (fun G v=>v=i' r):=by
 refine C' (args:=[_,_]) (N:=10) Tryz.func196 z z z (fun k n j g=>?_)
 obtain⟨f,d,c,e⟩:=g
 refine sr<|W' 2 z z z fun l=>W' 3 z z z fun m=>sg z z<|nr<|yy (bn' z) z<|yy (av' (vecG (Value.int .i64) 8 b1.m).toArray 3 ca' z z (Q' _ _ _) (aN' ([.bool b1.c.num.neg,.slice b1cnummagp b1.c.num.mag.length b1cnummagc,.bool b1.c.den.neg,.slice b1cdenmagp b1.c.den.mag.length b1cdenmagc]) (vecG (Value.int .i64) 8 b1.m) ([]))) z<|yy (bn' z) z<|yy (av' (vecG (Value.int .i64) 8 a1.m).toArray 2 ca' z z (Q' _ _ _) (aN' ([.bool a1.c.num.neg,.slice a1cnummagp a1.c.num.mag.length a1cnummagc,.bool a1.c.den.neg,.slice a1cdenmagp a1.c.den.mag.length a1cdenmagc]) (vecG (Value.int .i64) 8 a1.m) ([]))) z ?_
 obtain⟨i,h,hr⟩:=hr
 refine H' z z (t' E172 z) (eM' h) z (trivial)<|sg z z<|nx<|j' ?_
 obtain rfl:_=r:=hr
 exact k' z z z
theorem hx':Go.Sort.SWO (Go.Proofs.ltOf (fun a b:Zc=>cmpM b.m a.m)):=⟨fun x=>swoR.irrefl x.m,fun x y z=>swoR.trans x.m y.m z.m,fun x y z=>swoR.ntrans x.m y.m z.m⟩
theorem cJ'{l a b lim p c n tk r}(hr:(ZW l a b lim).Ret r):CtrL Tryz.prog 209 #[.slice p n c,i' a,i' b,i' lim,.func (.func 196) #[] #[]] [(5000,tk)] (fun G=>RowR r' 101 G (.slice p n c) l tk) (fun G L v=>∃ m,L=[(5000,m)]∧v = .tuple #[]∧RowR r' 101 G (.slice p n c) r m):=by
 obtain⟨⟨rfl,rfl,⟨P,R⟩,O⟩,hr⟩:=hr
 obtain⟨k,rfl⟩:∃ k:Nat,lim=k:=⟨lim.toNat,by omega⟩
 refine (pdqR (r:=r') (sz:=12) z (by decide) hx' Tryz.sortL z (fun _=>by kernel_rfl) (fun _=>by kernel_rfl) (fun x y Q S w G N J=>?_) E196 101 p n c l tk k (by omega) (by omega)).mono (fun _ h=>h) (fun G L v ⟨C,B,M,E,D,I,H⟩=>?_)
 ·obtain⟨F,K⟩:=J
  obtain⟨u,s,q,o,rfl,e,g⟩:=ZhJ F
  obtain⟨j,i,t,A,rfl,f,d⟩:=ZhJ K
  exact eK' (show (ZcN x y).Ret (cmpM y.m x.m) from ⟨_,ZeD y.m x.m,z⟩) w G N ⟨e,g,f,d⟩
 ·have:C=r:=hr C ⟨I,H.imp (fun h=>by simpa [Go.Proofs.ltOf] using h)⟩
  subst this
  exact⟨B,M,E,D⟩
theorem dB'{l1 l1p l1c r}(hr:(Zat l1).Ret r):Ctr Tryz.prog 161 #[.slice l1p l1.length l1c] (fun G=>sl (Rp.int .u32) G l1p l1c l1) (fun G v=>∃ t q,v = .slice t r.length q∧sl (Rp.int .u32) G t q r):=by
 refine C' (args:=[_]) (N:=21) Tryz.func161 z z z (fun s j E m=>?_)
 have h:=m
 refine sr<|sg z z<|nr<|mv z z<|yy (L' B' h z) z<|sg z z<|nx<|h'<|ab' (fun (⟨g,f⟩:Int×Mem)=>[(0,.slice l1p l1.length l1c),(3,i' g)]) (fun ⟨g,f⟩=>Mem.le j f∧(Ze9 l1 g).Ret r) (fun ⟨g,f⟩=>St s j f []) ?_ ?_
 ·refine A' ?_
  let i:Int→Prop:=fun x=>((fun B=>match B with|g=>Ze9 l1 g:Int→Comp (List Int)) x).wp (fun a=>a=r)
  replace hr:(Comp.loop _ _).wp i:=hr
  refine ac' (Φ:=i) (fun (⟨e,c⟩:Int×Mem)=>(e:Int)) (fun ⟨e,c⟩=>[(0,.slice l1p l1.length l1c),(3,i' e)]) (fun ⟨e,c⟩=>Mem.le j c) (fun ⟨e,c⟩=>St s j c []) ⟨(l1.length:Int),j⟩ hr (fc z (fc z fn)) mr (wk ln) ?_
  ·intro D y A hr
   obtain⟨e,c⟩:=y
   have d:=A
   refine h'<|sr<|mv z z<|aj' hr z (bt' z z) z (fun p hr=>?_) (fun p hr=>?_)
   ·refine mv z z<|gy z z (f' z) z<|gy z z (f' z) z<|gy z z (bf' z z) z ?_
    obtain⟨H,l,hr⟩:=hr
    refine gy z z (P' B' bi' (h.mono d) z z l) z<|gy z z (T' bH' z (aC' (E' (X' h l) d))) z<|gy z z (ak' z z) z<|yy (o' z z) z<|nx<|I' hr z (fun n hr=>?_) (fun n hr=>?_)
    ·refine n'<|b'<|A'<|w'<|mv z z<|yy (bf' z z) z<|sg z z<|u'<|D'<|O' ⟨IntKind.i64.wrap (e-1),c⟩ hr d (fc z (fc z fn)) (wk ln)
    ·refine ae'<|m'<|m'<|J'<|af' ⟨e,c⟩ ⟨d,hr⟩ (fc z (fc z fn)) (wk ln)
   ·refine mv z z<|sk z z z<|sk z z z<|sk z z z<|sk z z z<|sk z z z<|sk z z z<|yy (l' z z) z<|nx<|bh' z<|ae'<|m'<|m'<|J'<|af' ⟨e,c⟩ ⟨d,hr⟩ (fc z (fc z fn)) (wk ln)
 ·rintro⟨g,f⟩ ⟨k,hr⟩
  refine b'<|sr<|mv z z<|mv z z ?_
  obtain⟨o,hr⟩:=hr
  refine WL.sliceRH (r:=(Rp.int .u32)) z z B' bi' z (h.mono k) z z o fun F C u=>sg z z<|nx<|j' ?_
  obtain rfl:_=r:=hr
  exact k' z z ⟨_,_,z,u⟩
theorem ej'{n1 r}(hr:(Zcg n1).Ret r):Ctr Tryz.prog 128 #[.int .u64 n1] (fun G=>True) (fun G v=>∃ i g,v = .slice i r.length g∧sl (Rp.int .u32) G i g r):=by
 refine C' (args:=[_]) (N:=11) Tryz.func128 z z z fun y x h o=>sr<|sg z z<|nr<|mv z z<|yy (bz' z z (by decide)) z<|yy (aD' al' ap' z) z<|mv z z<|yy (dI' z z (by decide)) z<|yy (aD' al' ap' z) z<|aU' (e:=156) (r:=(Rp.int .u32)) (vs:=#[(0,.int .u32 (IntKind.u32.wrap (Int.tmod n1 4294967296))),(1,.int .u32 (IntKind.u32.wrap (IntKind.u64.wrap (Int.tdiv n1 4294967296))))]) (cs:=[.int .u32 (IntKind.u32.wrap (Int.tmod n1 4294967296))]++([.int .u32 (IntKind.u32.wrap (IntKind.u64.wrap (Int.tdiv n1 4294967296)))]++([]))) ([IntKind.u32.wrap (Int.tmod n1 4294967296),IntKind.u32.wrap (IntKind.u64.wrap (Int.tdiv n1 4294967296))]:List Int) z z z z z (by decide) (fun _=>by kernel_rfl) ⟨[.int .u32 (IntKind.u32.wrap (Int.tmod n1 4294967296))],[.int .u32 (IntKind.u32.wrap (IntKind.u64.wrap (Int.tdiv n1 4294967296)))]++([]),z,z,⟨[.int .u32 (IntKind.u32.wrap (IntKind.u64.wrap (Int.tdiv n1 4294967296)))],[],z,z,z⟩⟩ (key:=999) z (by rw[h]; rfl) (fun u t k j=>?_)
 obtain⟨q,f,hr⟩:=hr
 refine M' z z (t' E161 z) (dB' f) z (j) (fun n s l c=>?_)
 obtain⟨p,m,rfl,d⟩:=c
 refine sg z z<|nx<|j' ?_
 obtain rfl:_=r:=hr
 exact k' z z ⟨_,_,z,d⟩
theorem cC'{neg1 l1 l1p l1c r}(hr:(Zas neg1 l1).Ret r):Ctr Tryz.prog 127 #[.bool neg1,.slice l1p l1.length l1c] (fun G=>sl (Rp.int .u32) G l1p l1c l1) (fun G v=>∃ g h,v = .agg ((v58' r g h)).toArray∧sl (Rp.int .u32) G g h r.mag):=by
 refine C' (args:=[_,_]) (N:=16) Tryz.func127 z z z (fun x u q l=>?_)
 have n:=l
 refine sr<|U' 4 z z58 z fun t=>nr<|mv z z ?_
 obtain⟨c,k,hr⟩:=hr
 refine M' z z (t' E161 z) (dB' k) z (n) (fun p s o j=>?_)
 obtain⟨e,d,rfl,f⟩:=j
 refine sg z z<|nr<|aj' hr z (cN' (f' z) (congrArg Value.bool (bdec _))) z (fun m hr=>?_) (fun m hr=>?_)
 ·refine mv z z<|gy z z (f' z) z<|gy z z (L' B' f z) z<|gy z z (bt' z z) z<|yy (o' z z) z<|mv z z<|yy (aq' (vs:=#[(0,.bool (decide (0<(c.length:Int)))),(1,.slice e c.length d)]) (v:=.agg ([.bool (decide (0<(c.length:Int))),.slice e c.length d]).toArray) z z (fun _=>by kernel_rfl)) z<|v' 4 z sz58 z z z z z (List.all_eq_true.1 z)<|nx<|j' ?_
  obtain rfl:_=r:=hr
  exact k' z (ad' (i:=4) bl' z z z) ⟨_,_,z,f⟩
 ·refine mv z z<|sk z z z<|sk z z z<|sk z z z<|yy (l' z z) z<|mv z z<|yy (aq' (vs:=#[(0,.bool false),(1,.slice e c.length d)]) (v:=.agg ([.bool false,.slice e c.length d]).toArray) z z (fun _=>by kernel_rfl)) z<|v' 4 z sz58 z z z z z (List.all_eq_true.1 z)<|nx<|j' ?_
  obtain rfl:_=r:=hr
  exact k' z (ad' (i:=4) bl' z z z) ⟨_,_,z,f⟩
theorem fL'{n1 r}(hr:(Zir n1).Ret r):Ctr Tryz.prog 82 #[i' n1] (fun G=>True) (fun G v=>∃ c d,v = .agg ((v58' r c d)).toArray∧sl (Rp.int .u32) G c d r.mag):=by
 refine C' (args:=[_]) (N:=16) Tryz.func82 z z z fun w0 Z W K=>sr<|U' 2 z z58 z fun Y=>nx<|h'<|sr<|mv z z<|yy (V' z z) z<|nx<|I' hr z (fun y hr=>?_) (fun y hr=>?_)
 ·refine sr<|mv z z<|yy (N' z z) z<|yy (Y0.neg z) z<|yy (aD' dO' al' z) z<|yy (N' z z) z ?_
  obtain⟨P,n,hr⟩:=hr
  refine M' z z (t' E128 z) (ej' n) z (trivial) (fun H X A e=>?_)
  obtain⟨M,F,rfl,m⟩:=e
  obtain⟨Q,q,hr⟩:=hr
  refine M' z z (t' E127 z) (cC' q) z (m) (fun I R D j=>?_)
  obtain⟨u,t,rfl,h⟩:=j
  refine v' 2 z sz58 z z z z z (List.all_eq_true.1 z)<|nx<|j' ?_
  replace hr:_=r:=hr
  refine g' ?_
  subst hr
  exact k' z (ad' (i:=2) bl' z z z) ⟨_,_,z,h⟩
 ·refine n'<|b'<|sr<|mv z z<|yy (aD' dO' al' z) z ?_
  obtain⟨U,p,hr⟩:=hr
  refine M' z z (t' E128 z) (ej' p) z (trivial) (fun O T B f=>?_)
  obtain⟨E,J,rfl,o⟩:=f
  obtain⟨V,l,hr⟩:=hr
  refine M' z z (t' E127 z) (cC' l) z (o) (fun L S C k=>?_)
  obtain⟨x,s,rfl,g⟩:=k
  refine v' 2 z sz58 z z z z z (List.all_eq_true.1 z)<|nx<|j' ?_
  obtain rfl:_=r:=hr
  exact k' z (ad' (i:=2) bl' z z z) ⟨_,_,z,g⟩
theorem cD'{n1 r}(hr:(Z5 n1).Ret r):Ctr Tryz.prog 48 #[i' n1] (fun G=>True) (fun G v=>∃ c f e d,v = .agg ([.bool r.num.neg,.slice c r.num.mag.length f,.bool r.den.neg,.slice e r.den.mag.length d]).toArray∧sl (Rp.int .u32) G c f r.num.mag∧sl (Rp.int .u32) G e d r.den.mag):=by
 refine C' (args:=[_]) (N:=7) Tryz.func48 z z z fun I H E B=>sr<|U' 2 z z60 z fun F=>nr<|mv z z ?_
 obtain⟨p,t,hr⟩:=hr
 refine M' z z (t' E82 z) (fL' t) z (trivial) (fun y D x m=>?_)
 obtain⟨k,j,rfl,l⟩:=m
 obtain⟨q,u,hr⟩:=hr
 refine M' z z (t' E82 z) (fL' u) z (trivial) (fun A C s o=>?_)
 obtain⟨h,g,rfl,n⟩:=o
 refine yy (aq' (vs:=#[(0,.agg ((v58' p k j)).toArray),(1,.agg ((v58' q h g)).toArray)]) (v:=.agg ([.bool p.neg,.slice k p.mag.length j,.bool q.neg,.slice h q.mag.length g]).toArray) z z (fun _=>by kernel_rfl)) z<|v' 2 z sz60 z z z z z (List.all_eq_true.1 z)<|nx<|j' ?_
 obtain rfl:_=r:=hr
 exact k' z (ad' (i:=2) bS' z z z) ⟨_,_,_,_,z,(l.mono s),n⟩
theorem gU'{i1 r}(hr:(Zlq i1).Ret r):Ctr Tryz.prog 60 #[i' i1] (fun G=>True) (fun G v=>∃ o p,v = .tuple #[.slice o r.1.length p,i' r.2]∧sl r' G o p r.1):=by
 refine C' (args:=[_]) (N:=18) Tryz.func60 z z z fun Q H B I=>sr<|sg z z<|sg z z<|nx<|h'<|sr<|mv z z<|aj' hr z (V' z z) z (fun y hr=>?_) (fun y hr=>?_)
 ·refine mv z z<|sf z z z<|sf z z z<|yy (o' z z) z<|nx<|at' z<|sr<|sg z z<|sg z z<|nx<|j' ?_
  replace hr:_=r:=hr
  refine g' ?_
  subst hr
  exact aI' z z z ⟨_,_,z,(aa' r' _)⟩
 ·refine mv z z<|gy z z (f' z) z<|gy z z (be' z z) z<|yy (l' z z) z<|nx<|I' hr z (fun t hr=>?_) (fun t hr=>?_)
  ·exact (show False from hr).elim
  ·refine n'<|b'<|sr<|yy (aq' (vs:=#[]) (v:=.agg (vecG (Value.int .i64) 8 (fun _=>0)).toArray) z z (fun _=>by kernel_rfl)) z<|U' 4 z z99 z fun O=>v' 4 z sz99 z z z (Q' _ _ _) (Q' _ _ _) (fun u A=>Rp.one (cx' .i64 8) (G:=H) (x:=(fun _=>0)) (cs:=vecG (Value.int .i64) 8 (fun _=>0)) z u (by first|simpa using A|simpa [Value.cells] using A))<|nr<|mv z z ?_
   obtain⟨s,hr⟩:=hr
   refine yy (aX' aG' sz3 z z s) z<|aw' 4 (vecG (Value.int .i64) 8 (setF (fun _=>0) i1.toNat 1)).toArray z sz3 z z z (by first|(rw[Q']; omega)|(show _<(vecG _ _ _).toArray.size; rw[Q']; omega)) z (bX' _ _ _ _ _)<|nx<|h'<|Z' [false,false] mix (by kernel_rfl) (fun L=>?_)
   obtain⟨j,q,hr⟩:=hr
   refine ay' (post:=fun G v=>∃ i f g c,v = .agg ([.bool j.num.neg,.slice i j.num.mag.length f,.bool j.den.neg,.slice g j.den.mag.length c]).toArray∧sl (Rp.int .u32) G i f j.num.mag∧sl (Rp.int .u32) G g c j.den.mag) (fun _=>z) (fun _ _=>t' E48 z) (cD' q) z (fun R m=>trivial) (fun v P S m h=>?_) ?_
   ·obtain⟨i,f,g,c,rfl,k,l⟩:=h
    exact⟨_,_,_,_,z,k.mono m,l.mono m⟩
   refine cu (fun _ _ m=>s' 4 ca' z z (Q' _ _ _))<|bO' (d:=14) (post:=fun G v=>∃ i f g c,v = .agg ([.bool j.num.neg,.slice i j.num.mag.length f,.bool j.den.neg,.slice g j.den.mag.length c]).toArray∧sl (Rp.int .u32) G i f j.num.mag∧sl (Rp.int .u32) G g c j.den.mag) (fun F K D n=>?_)
   obtain⟨i,f,g,c,rfl,k,l⟩:=n
   refine yy (aq' (vs:=#[(0,.agg ([.bool j.num.neg,.slice i j.num.mag.length f,.bool j.den.neg,.slice g j.den.mag.length c]).toArray),(1,.agg (vecG (Value.int .i64) 8 (setF (fun _=>0) i1.toNat 1)).toArray)]) (v:=.agg (([.bool j.num.neg,.slice i j.num.mag.length f,.bool j.den.neg,.slice g j.den.mag.length c]:List Value)++(vecG (Value.int .i64) 8 (setF (fun _=>0) i1.toNat 1))).toArray) z z (fun _=>by kernel_rfl)) z<|aU' (e:=101) (r:=r') (vs:=#[(0,.agg (([.bool j.num.neg,.slice i j.num.mag.length f,.bool j.den.neg,.slice g j.den.mag.length c]:List Value)++(vecG (Value.int .i64) 8 (setF (fun _=>0) i1.toNat 1))).toArray)]) (cs:=(([.bool j.num.neg,.slice i j.num.mag.length f,.bool j.den.neg,.slice g j.den.mag.length c]:List Value)++(vecG (Value.int .i64) 8 (setF (fun _=>0) i1.toNat 1)))++([])) ([(Zc.mk j (setF (fun _=>0) i1.toNat 1))]:List Zc) z z z z z (by decide) (fun _=>by kernel_rfl) ⟨([.bool j.num.neg,.slice i j.num.mag.length f,.bool j.den.neg,.slice g j.den.mag.length c]:List Value)++(vecG (Value.int .i64) 8 (setF (fun _=>0) i1.toNat 1)),[],z,⟨[.bool j.num.neg,.slice i j.num.mag.length f,.bool j.den.neg,.slice g j.den.mag.length c],vecG (Value.int .i64) 8 (setF (fun _=>0) i1.toNat 1),z,⟨(v58' j.num i f),(v58' j.den g c),z,⟨[.bool j.num.neg],[.slice i j.num.mag.length f],z,z,⟨_,z,k⟩⟩,⟨[.bool j.den.neg],[.slice g j.den.mag.length c],z,z,⟨_,z,l⟩⟩⟩,z⟩,z⟩ (key:=999) z (by rw[B]; rfl) fun M J E C=>sg z z<|sg z z<|u'<|am'<|b'<|j' ?_
   obtain rfl:_=r:=hr
   exact aI' z z z ⟨_,_,z,C⟩
theorem gO'{i1 r}(hr:(Zj4 i1).Ret r):Ctr Tryz.prog 32 #[i' i1] (fun G=>True) (fun G v=>∃ i h,v = .slice i r.length h∧sl r' G i h r):=by
 refine C' (args:=[_]) (N:=11) Tryz.func32 z z z fun q p n k=>sr<|sg z z<|nr<|mv z z ?_
 obtain⟨m,e,hr⟩:=hr
 refine M' z z (t' E60 z) (gU' e) z (trivial) (fun l o j c=>?_)
 obtain⟨f,g,rfl,d⟩:=c
 refine mv z z<|yy (K' z z) z<|yy (K' z z) z<|sg z z<|sg z z<|nr<|mv z z<|sg z z<|nx<|j' ?_
 obtain rfl:_=r:=hr
 exact k' z z ⟨_,_,z,d⟩
theorem eR'{a1 a1magp a1magc r}(hr:(ZfQ a1).Ret r):Ctr Tryz.prog 138 #[.agg ((v58' a1 a1magp a1magc)).toArray] (fun G=>sl (Rp.int .u32) G a1magp a1magc a1.mag) (fun G v=>v=i' r):=by
 refine C' (args:=[_]) (N:=9) Tryz.func138 z z z (fun g i f d=>?_)
 have c:=d
 refine sr<|W' 1 z z z fun h=>sg z z<|nx<|h'<|sr<|yy (bp' z) z<|yy (e' 1 sc4 z z z) z<|nx<|aM' hr z (fun e hr=>?_) (fun e hr=>?_)
 ·refine sr<|sg z z<|nx<|j' ?_
  replace hr:_=r:=hr
  refine g' ?_
  subst hr
  exact k' z z z
 ·refine n'<|b'<|sr<|yy (aP' z) z<|yy (e' 1 bJ' z z z) z<|yy (L' B' c z) z<|yy (Y0.min2 z z) z<|sg z z<|nx<|j' ?_
  obtain rfl:_=r:=hr
  exact k' z z z
theorem eB'{a1 a1nummagp a1nummagc a1denmagp a1denmagc r}(hr:(ZbB a1).Ret r):Ctr Tryz.prog 91 #[.agg ([.bool a1.num.neg,.slice a1nummagp a1.num.mag.length a1nummagc,.bool a1.den.neg,.slice a1denmagp a1.den.mag.length a1denmagc]).toArray] (fun G=>sl (Rp.int .u32) G a1nummagp a1nummagc a1.num.mag∧sl (Rp.int .u32) G a1denmagp a1denmagc a1.den.mag) (fun G v=>v=i' r):=by
 refine C' (args:=[_]) (N:=6) Tryz.func91 z z z (fun i k h e=>?_)
 obtain⟨c,d⟩:=e
 refine sr<|W' 1 z z z fun j=>sg z z<|nr<|yy (cp' z) z<|yy (av' ((v58' a1.num a1nummagp a1nummagc)).toArray 1 bl' z z z (aN' ([]) ((v58' a1.num a1nummagp a1nummagc)) ((v58' a1.den a1denmagp a1denmagc)))) z ?_
 obtain⟨g,f,hr⟩:=hr
 refine H' z z (t' E138 z) (eR' f) z (c)<|sg z z<|nx<|j' ?_
 obtain rfl:_=r:=hr
 exact k' z z z
theorem fA'{m1 r}(hr:(ZeN m1).Ret r):Ctr Tryz.prog 159 #[.agg (vecG (Value.int .i64) 8 m1).toArray] (fun G=>True) (fun G v=>v = .bool r):=by
 refine C' (args:=[_]) (N:=18) Tryz.func159 z z z fun p i A s=>sr<|W' 1 z z z fun n=>sg z z<|nx<|h'<|sr<|sg z z<|nx<|ab' (fun (f:Mem)=>match f with|d=>[]) (fun (f:Mem)=>match f with|d=>Mem.le i d∧(Zeh).Ret r) (fun (f:Mem)=>match f with|d=>St p i d []) ?_ ?_
 ·refine A' ?_
  let h:(Bool⊕Unit)→Prop:=fun t=>((fun x=>match x with | .inl rv1=>Comp.ret rv1 | .inr ()=>Zeh:(Bool⊕Unit)→Comp Bool) t).wp (fun a=>a=r)
  replace hr:(Comp.loop _ _).wp h:=hr
  refine ac' (Φ:=h) (fun (⟨e,c⟩:Int×Mem)=>(e:Int)) (fun ⟨e,c⟩=>[(1,.pointer (some ⟨n,0,none⟩)),(3,i' e)]) (fun ⟨e,c⟩=>Mem.le i c) (fun ⟨e,c⟩=>St p i c [(1,some ⟨n,.cells (vecG (Value.int .i64) 8 m1).toArray 99 (0,0),0⟩)]) ⟨0,i⟩ hr (fc z (fc z fn)) mr (wk (lc z ln)) ?_
  ·intro y f u hr
   obtain⟨e,c⟩:=f
   have g:=u
   refine h'<|sr<|mv z z<|yy (V' z z) z<|nx<|I' hr z (fun l hr=>?_) (fun l hr=>?_)
   ·refine n'<|b'<|h'<|A'<|sr<|mv z z ?_
    obtain⟨j,hr⟩:=hr
    refine yy (aX' aG' sz3 z z j) z<|yy (e' 1 sc3 z z (bA' _ _ _ j)) z<|aj' hr z (V' z z) z (fun m hr=>?_) (fun m hr=>?_)
    ·refine mv z z<|sf z z z<|sf z z z<|sf z z z<|sf z z z<|yy (o' z z) z<|nx<|at' z<|sr<|sg z z<|nx<|j' ?_
     replace hr:_=r:=hr
     refine x'<|g'<|g'<|x'<|aH'<|g' ?_
     subst hr
     exact k' z z z
    ·refine mv z z<|gy z z (f' z) z ?_
     obtain⟨k,hr⟩:=hr
     refine gy z z (aX' aG' sz3 z z k) z<|gy z z (e' 1 sc3 z z (bA' _ _ _ k)) z<|gy z z (bt' z z) z<|yy (l' z z) z<|nx<|I' hr z (fun o hr=>?_) (fun o hr=>?_)
     ·exact (show False from hr).elim
     ·refine n'<|D'<|b'<|w'<|mv z z<|yy (N' z z) z<|sg z z<|u'<|O' ⟨IntKind.i64.wrap (e+1),c⟩ hr g (fc z (fc z fn)) (wk (lc z ln))
   ·refine ae'<|m'<|m'<|J'<|af' c ⟨g,hr⟩ fn (wk ln)
 ·rintro d ⟨q,hr⟩
  refine b'<|sr<|sg z z<|nx<|j' ?_
  obtain rfl:_=r:=hr
  exact k' z z z
theorem gV'{a1 b1 r}(hr:(Zi4 a1 b1).Ret r):Ctr Tryz.prog 139 #[.agg (vecG (Value.int .i64) 8 a1).toArray,.agg (vecG (Value.int .i64) 8 b1).toArray] (fun G=>True) (fun G v=>v = .tuple #[.agg (vecG (Value.int .i64) 8 r.1).toArray,i' r.2]):=by
 refine C' (args:=[_,_]) (N:=24) Tryz.func139 z z z fun B l O F=>sr<|W' 2 z z z fun m=>W' 3 z z z fun s=>U' 4 z z99 z fun n=>sg z z<|nx<|h'<|sr<|sg z z<|nx<|ab' (fun (⟨d,g⟩:(Fin 8→Int)×Mem)=>[(2,.pointer (some ⟨m,0,none⟩)),(4,.pointer (some ⟨n,0,none⟩))]) (fun ⟨d,g⟩=>Mem.le l g∧(ZfW d).Ret r) (fun ⟨d,g⟩=>St B l g [(2,some ⟨m,.cells (vecG (Value.int .i64) 8 d).toArray 99 (0,0),0⟩),(4,some ⟨n,.cells (vecG (Value.int .i64) 8 (fun _=>0)).toArray 99 (0,0),0⟩)]) ?_ ?_
 ·refine A' ?_
  let k:(Fin 8→Int)→Prop:=fun H=>((fun K=>match K with|d=>ZfW d:(Fin 8→Int)→Comp ((Fin 8→Int)×Int)) H).wp (fun a=>a=r)
  replace hr:(Comp.loop _ _).wp k:=hr
  refine ac' (Φ:=k) (fun (⟨e,c,f⟩:Int×(Fin 8→Int)×Mem)=>((e,c):Int×(Fin 8→Int))) (fun ⟨e,c,f⟩=>[(2,.pointer (some ⟨m,0,none⟩)),(3,.pointer (some ⟨s,0,none⟩)),(4,.pointer (some ⟨n,0,none⟩)),(6,i' e)]) (fun ⟨e,c,f⟩=>Mem.le l f) (fun ⟨e,c,f⟩=>St B l f [(2,some ⟨m,.cells (vecG (Value.int .i64) 8 c).toArray 99 (0,0),0⟩),(3,some ⟨s,.cells (vecG (Value.int .i64) 8 b1).toArray 99 (0,0),0⟩),(4,some ⟨n,.cells (vecG (Value.int .i64) 8 (fun _=>0)).toArray 99 (0,0),0⟩)]) ⟨0,a1,l⟩ hr (fc z (fc z (fc z (fc z fn)))) mr (wk (lc z (lc z (lc z ln)))) ?_
  ·intro M I J hr
   obtain⟨e,c,f⟩:=I
   have j:=J
   refine h'<|sr<|mv z z<|yy (V' z z) z<|nx<|I' hr z (fun C hr=>?_) (fun C hr=>?_)
   ·refine n'<|b'<|h'<|A'<|Z' [false,false,false,false,false,false] mix (by kernel_rfl) fun E=>cn (fun _ h=>f' z) ?_
    obtain⟨o,hr⟩:=hr
    refine cn (fun _ h=>aX' aG' sz3 z z o)<|cn (fun _ h=>e' 2 sc3 z z (bA' _ _ _ o))<|cn (fun _ h=>f' z) ?_
    obtain⟨p,hr⟩:=hr
    refine cn (fun _ h=>aX' aG' sz3 z z p)<|cn (fun _ h=>e' 3 sc3 z z (bA' _ _ _ p))<|Y' E<|yy (N' z z) z ?_
    obtain⟨y,hr⟩:=hr
    refine yy (aX' aG' sz3 z z y) z<|aw' 2 (vecG (Value.int .i64) 8 (setF c e.toNat (IntKind.i64.wrap ((getF c e)+(getF b1 e))))).toArray z sz3 z z z (by first|(rw[Q']; omega)|(show _<(vecG _ _ _).toArray.size; rw[Q']; omega)) z (bX' _ _ _ _ _)<|u'<|am'<|D'<|b'<|w'<|mv z z<|yy (N' z z) z<|sg z z<|u'<|O' ⟨IntKind.i64.wrap (e+1),setF c e.toNat (IntKind.i64.wrap ((getF c e)+(getF b1 e))),f⟩ hr j (fc z (fc z (fc z (fc z fn)))) (wk (lc z (lc z (lc z ln))))
   ·refine ae'<|m'<|m'<|J'<|af' ⟨c,f⟩ ⟨j,hr⟩ (fc z (fc z fn)) (wk (lc z (lc z ln)))
 ·rintro⟨d,g⟩ ⟨D,hr⟩
  refine b'<|h'<|sr<|yy (s' 2 ca' z z (Q' _ _ _)) z ?_
  obtain⟨L,q,hr⟩:=hr
  refine H' z z (t' E159 z) (fA' q) z (trivial)<|yy (an' z) z<|nx<|aM' hr z (fun t hr=>?_) (fun t hr=>?_)
  ·exact (show False from hr).elim
  ·refine n'<|b'<|sr<|yy (s' 2 ca' z z (Q' _ _ _)) z<|v' 4 z sz99 z z z (Q' _ _ _) (Q' _ _ _) (fun u A=>Rp.one (cx' .i64 8) (G:=g) (x:=d) (cs:=vecG (Value.int .i64) 8 d) z u (by first|simpa using A|simpa [Value.cells] using A))<|sg z z<|nx<|j' ?_
   obtain rfl:_=r:=hr
   exact aI' z (ad' (i:=4) ca' z z (Q' _ _ _)) z z
theorem gG'{a0_1 a1_1 a0_1p a0_1c a1_1p a1_1c r}(hr:(Zcf a0_1 a1_1).Ret r):Ctr Tryz.prog 165 #[.slice a0_1p a0_1.length a0_1c,.slice a1_1p a1_1.length a1_1c] (fun G=>sl (Rp.int .u32) G a0_1p a0_1c a0_1∧sl (Rp.int .u32) G a1_1p a1_1c a1_1) (fun G v=>∃ zp zc,v = .slice zp r.length zc∧sl (Rp.int .u32) G zp zc r):=by
 refine C' (args:=[_,_]) (N:=69) Tryz.func165 z z z (fun T I au ai=>?_)
 obtain⟨C,B⟩:=ai
 refine sr<|sg z z<|nr<|mv z z<|yy (L' B' C z) z<|mv z z<|yy (L' B' B z) z<|yy (N' z z) z ?_
 obtain⟨aq,hr⟩:=hr
 refine dP' (r:=(Rp.int .u32)) (e:=156) (n:=IntKind.i64.wrap ((a0_1.length:Int)+(a1_1.length:Int))) (zx:=0) 4015 z z B' el156 z (by decide) (by decide) z z z aq fun H aj ao=>sg z z<|nx<|h'<|sr<|sg z z<|nx<|ab' (fun (⟨y,t,E⟩:(List Int)×Option Ow×Mem)=>[(5,.slice H (IntKind.i64.wrap ((a0_1.length:Int)+(a1_1.length:Int))).toNat ((IntKind.i64.wrap ((a0_1.length:Int)+(a1_1.length:Int))).toNat))]) (fun ⟨y,t,E⟩=>Mem.le I E∧RowR (Rp.int .u32) 156 E (.slice H (IntKind.i64.wrap ((a0_1.length:Int)+(a1_1.length:Int))).toNat ((IntKind.i64.wrap ((a0_1.length:Int)+(a1_1.length:Int))).toNat)) y t∧(Zed y).Ret r) (fun ⟨y,t,E⟩=>St T I E [(4015,t)]) ?_ ?_
 ·refine A' ?_
  let F:(List Int)→Prop:=fun oo=>((fun ov=>match ov with|y=>Zed y:(List Int)→Comp (List Int)) oo).wp (fun a=>a=r)
  replace hr:(Comp.loop _ _).wp F:=hr
  refine ac' (Φ:=F) (fun (⟨q,f,d,p⟩:(List Int)×Option Ow×Int×Mem)=>((q,d):(List Int)×Int)) (fun ⟨q,f,d,p⟩=>[(0,.slice a0_1p a0_1.length a0_1c),(1,.slice a1_1p a1_1.length a1_1c),(5,.slice H (IntKind.i64.wrap ((a0_1.length:Int)+(a1_1.length:Int))).toNat ((IntKind.i64.wrap ((a0_1.length:Int)+(a1_1.length:Int))).toNat)),(6,i' d)]) (fun ⟨q,f,d,p⟩=>Mem.le I p∧RowR (Rp.int .u32) 156 p (.slice H (IntKind.i64.wrap ((a0_1.length:Int)+(a1_1.length:Int))).toNat ((IntKind.i64.wrap ((a0_1.length:Int)+(a1_1.length:Int))).toNat)) q f) (fun ⟨q,f,d,p⟩=>St T I p [(4015,f)]) ⟨(List.replicate (IntKind.i64.wrap ((a0_1.length:Int)+(a1_1.length:Int))).toNat 0),aj,0,I⟩ hr (fc z (fc z (fc z (fc z fn)))) ⟨mr,ao⟩ (wk (lc z ln)) ?_
  ·intro aa gx hx hr
   obtain⟨q,f,d,p⟩:=gx
   obtain⟨g,J⟩:=hx
   refine h'<|sr<|mv z z<|mv z z<|yy (L' B' (C.mono g) z) z<|yy (V' z z) z<|nx<|I' hr z (fun am hr=>?_) (fun am hr=>?_)
   ·refine n'<|b'<|h'<|A'<|sr<|sg z z<|nx<|h'<|sr<|sg z z<|nx<|ab' (fun (⟨s,u,k,D⟩:(List Int)×Option Ow×Int×Mem)=>[(0,.slice a0_1p a0_1.length a0_1c),(1,.slice a1_1p a1_1.length a1_1c),(5,.slice H (IntKind.i64.wrap ((a0_1.length:Int)+(a1_1.length:Int))).toNat ((IntKind.i64.wrap ((a0_1.length:Int)+(a1_1.length:Int))).toNat)),(6,i' d),(7,.int .u64 k)]) (fun ⟨s,u,k,D⟩=>Mem.le p D∧RowR (Rp.int .u32) 156 D (.slice H (IntKind.i64.wrap ((a0_1.length:Int)+(a1_1.length:Int))).toNat ((IntKind.i64.wrap ((a0_1.length:Int)+(a1_1.length:Int))).toNat)) s u∧(Zee a1_1 d s k).wp (Out aa F)) (fun ⟨s,u,k,D⟩=>St T I D [(4015,u)]) ?_ ?_
    ·refine A' ?_
     let P:(((List Int)×Int))→Prop:=fun oo=>((fun ov=>match ov with|(s,k)=>Zee a1_1 d s k:(((List Int)×Int))→Comp (((List Int)×Int)⊕(List Int))) oo).wp (Out aa F)
     replace hr:(Comp.loop _ _).wp P:=hr
     refine ac' (Φ:=P) (fun (⟨o,j,h,l,A⟩:(List Int)×Option Ow×Int×Int×Mem)=>((o,h,l):(List Int)×Int×Int)) (fun ⟨o,j,h,l,A⟩=>[(0,.slice a0_1p a0_1.length a0_1c),(1,.slice a1_1p a1_1.length a1_1c),(5,.slice H (IntKind.i64.wrap ((a0_1.length:Int)+(a1_1.length:Int))).toNat ((IntKind.i64.wrap ((a0_1.length:Int)+(a1_1.length:Int))).toNat)),(6,i' d),(7,.int .u64 h),(8,i' l)]) (fun ⟨o,j,h,l,A⟩=>Mem.le p A∧RowR (Rp.int .u32) 156 A (.slice H (IntKind.i64.wrap ((a0_1.length:Int)+(a1_1.length:Int))).toNat ((IntKind.i64.wrap ((a0_1.length:Int)+(a1_1.length:Int))).toNat)) o j) (fun ⟨o,j,h,l,A⟩=>St T I A [(4015,j)]) ⟨q,f,0,0,p⟩ hr (fc z (fc z (fc z (fc z (fc z (fc z fn)))))) ⟨mr,J⟩ (wk (lc z ln)) ?_
     ·intro aI gx hx hr
      obtain⟨o,j,h,l,A⟩:=gx
      obtain⟨m,x⟩:=hx
      refine h'<|sr<|mv z z<|mv z z<|yy (L' B' (B.mono (mt g m)) z) z<|yy (V' z z) z<|nx<|I' hr z (fun an hr=>?_) (fun an hr=>?_)
      ·refine n'<|b'<|h'<|A'<|h'<|Z' [false,false,false,false,false,false,false,false,false,false,false,false,false,false,false,false,false,false,false,false] mix (by kernel_rfl) fun hb=>cn (fun _ c=>f' z)<|cn (fun _ c=>f' z) ?_
       obtain⟨S,X,hr⟩:=hr
       refine cn (fun _ c=>P' B' bi' ((C.mono (mt g m)).mono c) z z X)<|cn (fun _ c=>T' bH' z (aC' (E' (E' (X' C X) (mt g m)) c)))<|cn (fun _ c=>aD' ap' al' z)<|cn (fun _ c=>f' z)<|cn (fun _ c=>f' z) ?_
       obtain⟨Q,Y,hr⟩:=hr
       refine cn (fun _ c=>P' B' bi' ((B.mono (mt g m)).mono c) z z Y)<|cn (fun _ c=>T' bH' z (aC' (E' (E' (X' B Y) (mt g m)) c)))<|cn (fun _ c=>aD' ap' al' z)<|cn (fun _ c=>dJ' z z)<|cn (fun _ c=>f' z)<|cn (fun _ c=>f' z)<|cn (fun _ c=>f' z)<|cn (fun _ c=>N' z z) ?_
       obtain⟨R,V,hr⟩:=hr
       refine cn (fun _ c=>aZ' B' bi' (x.mono c) z z V)<|cn (fun _ c=>dQ' bH' (x.mono c) (key:=4015) z z (aC' (cK' x V)))<|cn (fun _ c=>aD' ap' al' z)<|cn (fun _ c=>N' z z)<|cn (fun _ c=>f' z)<|Y' hb<|yy (N' z z) z<|sg z z<|u'<|am'<|b'<|sr<|mv z z<|mv z z<|mv z z<|yy (N' z z) z<|mv z z<|yy (bz' z z (by decide)) z<|yy (aD' al' ap' z) z ?_
       obtain⟨x5,Z,hr⟩:=hr
       refine yy (aZ' B' bi' x z z Z) z<|by' (r:=(Rp.int .u32)) (e:=156) (cs':=[.int .u32 (IntKind.u32.wrap (Int.tmod (IntKind.u64.wrap ((IntKind.u64.wrap ((IntKind.u64.wrap ((IntKind.u64.wrap S)*(IntKind.u64.wrap Q)))+(IntKind.u64.wrap R)))+h)) 4294967296))]) (i:=IntKind.i64.wrap (d+l)) (z':=IntKind.u32.wrap (Int.tmod (IntKind.u64.wrap ((IntKind.u64.wrap ((IntKind.u64.wrap ((IntKind.u64.wrap S)*(IntKind.u64.wrap Q)))+(IntKind.u64.wrap R)))+h)) 4294967296)) 4015 z bi' z x z z z z z Z fun ar af=>nx<|w'<|mv z z<|yy (dI' z z (by decide)) z<|sg z z<|u'<|D'<|b'<|w'<|mv z z<|yy (N' z z) z<|sg z z<|u'<|O' ⟨(o.set (IntKind.i64.wrap (d+l)).toNat (IntKind.u32.wrap (Int.tmod (IntKind.u64.wrap ((IntKind.u64.wrap ((IntKind.u64.wrap ((IntKind.u64.wrap S)*(IntKind.u64.wrap Q)))+(IntKind.u64.wrap R)))+h)) 4294967296))),ar,IntKind.u64.wrap (Int.tdiv (IntKind.u64.wrap ((IntKind.u64.wrap ((IntKind.u64.wrap ((IntKind.u64.wrap S)*(IntKind.u64.wrap Q)))+(IntKind.u64.wrap R)))+h)) 4294967296),IntKind.i64.wrap (l+1),A⟩ hr ⟨m,af⟩ (fc z (fc z (fc z (fc z (fc z (fc z fn)))))) (wk (lc z ln))
      ·refine ae'<|m'<|m'<|J'<|af' ⟨o,j,h,A⟩ ⟨m,x,hr⟩ (fc z (fc z (fc z (fc z (fc z fn))))) (wk (lc z ln))
    ·rintro⟨s,u,k,D⟩ ⟨L,K,hr⟩
     refine b'<|w'<|mv z z<|mv z z<|mv z z<|yy (L' B' (B.mono (mt g L)) z) z<|yy (N' z z) z<|mv z z<|yy (aD' al' ap' z) z ?_
     obtain⟨x1,W,hr⟩:=hr
     refine yy (aZ' B' bi' K z z W) z<|by' (r:=(Rp.int .u32)) (e:=156) (cs':=[.int .u32 (IntKind.u32.wrap k)]) (i:=IntKind.i64.wrap (d+(a1_1.length:Int))) (z':=IntKind.u32.wrap k) 4015 z bi' z K z z z z z W fun al ad=>u'<|D'<|b'<|w'<|mv z z<|yy (N' z z) z<|sg z z<|u'<|O' ⟨(s.set (IntKind.i64.wrap (d+(a1_1.length:Int))).toNat (IntKind.u32.wrap k)),al,IntKind.i64.wrap (d+1),D⟩ hr ⟨(mt g L),ad⟩ (fc z (fc z (fc z (fc z fn)))) (wk (lc z ln))
   ·refine ae'<|m'<|m'<|J'<|af' ⟨q,f,p⟩ ⟨g,J,hr⟩ (fc z fn) (wk (lc z ln))
 ·rintro⟨y,t,E⟩ ⟨ay,U,hr⟩
  refine b'<|sr<|mv z z<|bv' (r:=(Rp.int .u32)) (e:=156) 4015 U z (by rw[au]; rfl) (fun aE aG az O aw=>?_)
  obtain⟨aH,ab,hr⟩:=hr
  refine M' z z (t' E161 z) (dB' ab) (by rw[cY' O]) ((cR' O)) (fun aB aF ax M=>?_)
  obtain⟨aD,aC,rfl,ae⟩:=M
  refine sg z z<|nx<|j' ?_
  obtain rfl:_=r:=hr
  exact k' z z ⟨_,_,z,ae⟩
theorem en'{a1 b1 a1magp a1magc b1magp b1magc r}(hr:(ZcU a1 b1).Ret r):Ctr Tryz.prog 130 #[.agg ((v58' a1 a1magp a1magc)).toArray,.agg ((v58' b1 b1magp b1magc)).toArray] (fun G=>sl (Rp.int .u32) G a1magp a1magc a1.mag∧sl (Rp.int .u32) G b1magp b1magc b1.mag) (fun G v=>∃ k l,v = .agg ((v58' r k l)).toArray∧sl (Rp.int .u32) G k l r.mag):=by
 refine C' (args:=[_,_]) (N:=16) Tryz.func130 z z z (fun P M I t=>?_)
 obtain⟨p,q⟩:=t
 refine sr<|W' 2 z z z fun K=>W' 3 z z z fun L=>U' 4 z z58 z fun R=>nx<|h'<|Z' [false,false,false,false,false,false,false,false,false,false] mix (by kernel_rfl) fun J=>cn (fun _ c=>bp' z)<|cn (fun _ c=>e' 2 sc4 z z z)<|cn (fun _ c=>bp' z)<|cn (fun _ c=>e' 3 sc4 z z z)<|cn (fun _ c=>ee' bK' z z)<|cn (fun _ c=>aP' z)<|cn (fun _ c=>e' 2 bJ' z z z)<|cn (fun _ c=>aP' z)<|cn (fun _ c=>e' 3 bJ' z z z) ?_
 obtain⟨j,s,hr⟩:=hr
 refine ay' (post:=fun G v=>∃ f e,v = .slice f j.length e∧sl (Rp.int .u32) G f e j) (fun _=>z) (fun _ _=>t' E165 z) (gG' s) z (fun Q c=>⟨(p.mono c),(q.mono c)⟩) (fun v O S c h=>?_) ?_
 ·obtain⟨f,e,rfl,g⟩:=h
  exact⟨_,_,z,g.mono c⟩
 refine bO' (d:=14) (post:=fun G v=>∃ f e,v = .slice f j.length e∧sl (Rp.int .u32) G f e j) (fun C H A m=>?_)
 obtain⟨f,e,rfl,g⟩:=m
 obtain⟨E,u,hr⟩:=hr
 refine M' z z (t' E127 z) (cC' u) z (g) (fun D F B o=>?_)
 obtain⟨y,x,rfl,n⟩:=o
 refine v' 4 z sz58 z z z z z (List.all_eq_true.1 z)<|u'<|am'<|b'<|j' ?_
 obtain rfl:_=r:=hr
 exact k' z (ad' (i:=4) bl' z z z) ⟨_,_,z,n⟩
theorem dn'{l1 i1 l1p l1c r}(hr:(ZaU l1 i1).Ret r):Ctr Tryz.prog 187 #[.slice l1p l1.length l1c,i' i1] (fun G=>sl (Rp.int .u32) G l1p l1c l1) (fun G v=>v = .int .u64 r):=by
 refine C' (args:=[_,_]) (N:=14) Tryz.func187 z z z (fun h j g e=>?_)
 have c:=e
 refine sr<|sg z z<|nx<|h'<|sr<|mv z z<|mv z z<|yy (L' B' c z) z<|yy (V' z z) z<|nx<|I' hr z (fun f hr=>?_) (fun f hr=>?_)
 ·refine sr<|mv z z<|mv z z ?_
  obtain⟨i,d,hr⟩:=hr
  refine yy (P' B' bi' c z z d) z<|yy (T' bH' z (aC' (X' c d))) z<|yy (aD' ap' al' z) z<|sg z z<|nx<|j' ?_
  replace hr:_=r:=hr
  refine g' ?_
  subst hr
  exact k' z z z
 ·refine n'<|b'<|sr<|sg z z<|nx<|j' ?_
  obtain rfl:_=r:=hr
  exact k' z z z
theorem fg'{l1 l1p l1c r}(hr:(ZdT l1).Ret r):Ctr Tryz.prog 200 #[.slice l1p l1.length l1c] (fun G=>sl (Rp.int .u32) G l1p l1c l1) (fun G v=>v = .int .u64 r):=by
 refine C' (args:=[_]) (N:=9) Tryz.func200 z z z (fun k j h d=>?_)
 have c:=d
 refine sr<|sg z z<|nr<|mv z z ?_
 obtain⟨g,f,hr⟩:=hr
 refine H' z z (t' E187 z) (dn' f) z (c)<|yy (dJ' z z) z<|mv z z ?_
 obtain⟨i,e,hr⟩:=hr
 refine H' z z (t' E187 z) (dn' e) z (c)<|yy (N' z z) z<|sg z z<|nx<|j' ?_
 obtain rfl:_=r:=hr
 exact k' z z z
theorem gB'{a1 b1 r}(hr:(ZfS a1 b1).Ret r):Ctr Tryz.prog 199 #[.int .u64 a1,.int .u64 b1] (fun G=>True) (fun G v=>v = .int .u64 r):=by
 refine C' (args:=[_,_]) (N:=14) Tryz.func199 z z z fun l j x o=>sr<|sg z z<|nx<|h'<|ab' (fun (⟨g,e⟩:Int×Mem)=>[(0,.int .u64 g)]) (fun ⟨g,e⟩=>Mem.le j e∧(ZdG g).Ret r) (fun ⟨g,e⟩=>St l j e []) ?_ ?_
 ·refine A' ?_
  let i:Int→Prop:=fun p=>((fun t=>match t with|g=>ZdG g:Int→Comp Int) p).wp (fun a=>a=r)
  replace hr:(Comp.loop _ _).wp i:=hr
  refine ac' (Φ:=i) (fun (⟨f,d,c⟩:Int×Int×Mem)=>((f,d):Int×Int)) (fun ⟨f,d,c⟩=>[(0,.int .u64 f),(1,.int .u64 d)]) (fun ⟨f,d,c⟩=>Mem.le j c) (fun ⟨f,d,c⟩=>St l j c []) ⟨a1,b1,j⟩ hr (fc z (fc z fn)) mr (wk ln) ?_
  ·intro u q s hr
   obtain⟨f,d,c⟩:=q
   have h:=s
   refine h'<|sr<|mv z z<|yy (bt' z z) z<|nx<|I' hr z (fun k hr=>?_) (fun k hr=>?_)
   ·refine n'<|b'<|A'<|sr<|mv z z<|mv z z ?_
    obtain⟨m,hr⟩:=hr
    refine yy (bz' z z m) z<|sg z z<|nr<|mv z z<|sg z z<|nx<|w'<|mv z z<|sg z z<|u'<|D'<|O' ⟨d,Int.tmod f d,c⟩ hr h (fc z (fc z fn)) (wk ln)
   ·refine ae'<|m'<|m'<|J'<|af' ⟨f,c⟩ ⟨h,hr⟩ (fc z fn) (wk ln)
 ·rintro⟨g,e⟩ ⟨n,hr⟩
  refine b'<|sr<|mv z z<|sg z z<|nx<|j' ?_
  obtain rfl:_=r:=hr
  exact k' z z z
theorem cS'{a1 b1 a1p a1c b1p b1c r}(hr:(Zad a1 b1).Ret r):Ctr Tryz.prog 167 #[.slice a1p a1.length a1c,.slice b1p b1.length b1c] (fun G=>sl (Rp.int .u32) G a1p a1c a1∧sl (Rp.int .u32) G b1p b1c b1) (fun G v=>v=i' r):=by
 refine C' (args:=[_,_]) (N:=41) Tryz.func167 z z z (fun y l I s=>?_)
 obtain⟨f,g⟩:=s
 refine sr<|sg z z<|nx<|h'<|sr<|mv z z<|yy (L' B' f z) z<|mv z z<|yy (L' B' g z) z<|yy (V' z z) z<|nx<|I' hr z (fun u hr=>?_) (fun u hr=>?_)
 ·refine sr<|sg z z<|nx<|j' ?_
  replace hr:_=r:=hr
  refine g' ?_
  subst hr
  exact k' z z z
 ·refine n'<|b'<|h'<|sr<|mv z z<|yy (L' B' f z) z<|mv z z<|yy (L' B' g z) z<|yy (bt' z z) z<|nx<|I' hr z (fun A hr=>?_) (fun A hr=>?_)
  ·refine sr<|sg z z<|nx<|j' ?_
   replace hr:_=r:=hr
   refine g' ?_
   subst hr
   exact k' z z z
  ·refine n'<|b'<|h'<|sr<|mv z z<|yy (L' B' f z) z<|yy (bf' z z) z<|sg z z<|nx<|ab' (fun (j:Mem)=>match j with|h=>[]) (fun (j:Mem)=>match j with|h=>Mem.le l h∧(Zcp).Ret r) (fun (j:Mem)=>match j with|h=>St y l h []) ?_ ?_
   ·refine A' ?_
    let k:(Int⊕Unit)→Prop:=fun D=>((fun F=>match F with | .inl rv1=>Comp.ret rv1 | .inr ()=>Zcp:(Int⊕Unit)→Comp Int) D).wp (fun a=>a=r)
    replace hr:(Comp.loop _ _).wp k:=hr
    refine ac' (Φ:=k) (fun (⟨i,e⟩:Int×Mem)=>(i:Int)) (fun ⟨i,e⟩=>[(0,.slice a1p a1.length a1c),(1,.slice b1p b1.length b1c),(5,i' i)]) (fun ⟨i,e⟩=>Mem.le l e) (fun ⟨i,e⟩=>St y l e []) ⟨IntKind.i64.wrap ((a1.length:Int)-1),l⟩ hr (fc z (fc z (fc z fn))) mr (wk ln) ?_
    ·intro H j E hr
     obtain⟨i,e⟩:=j
     have d:=E
     refine h'<|sr<|mv z z<|yy (be' z z) z<|nx<|I' hr z (fun x hr=>?_) (fun x hr=>?_)
     ·refine n'<|b'<|h'<|A'<|h'<|h'<|Z' [false,false,false,false,false,false,false,false] mix (by kernel_rfl) fun q=>cn (fun _ c=>f' z)<|cn (fun _ c=>f' z) ?_
      obtain⟨M,n,hr⟩:=hr
      refine cn (fun _ c=>P' B' bi' ((f.mono d).mono c) z z n)<|cn (fun _ c=>T' bH' z (aC' (E' (E' (X' f n) d) c)))<|cn (fun _ c=>f' z)<|cn (fun _ c=>f' z) ?_
      obtain⟨L,o,hr⟩:=hr
      refine cn (fun _ c=>P' B' bi' ((g.mono d).mono c) z z o)<|cn (fun _ c=>T' bH' z (aC' (E' (E' (X' g o) d) c)))<|Y' q<|yy (V' z z) z<|u'<|am'<|b'<|I' hr z (fun t hr=>?_) (fun t hr=>?_)
      ·refine sr<|sg z z<|nx<|j' ?_
       replace hr:_=r:=hr
       refine g'<|x'<|g'<|g'<|x'<|aH'<|g' ?_
       subst hr
       exact k' z z z
      ·refine n'<|b'<|h'<|Z' [false,false,false,false,false,false,false,false] mix (by kernel_rfl) fun q=>cn (fun _ c=>f' z)<|cn (fun _ c=>f' z) ?_
       obtain⟨J,p,hr⟩:=hr
       refine cn (fun _ c=>P' B' bi' ((f.mono d).mono c) z z p)<|cn (fun _ c=>T' bH' z (aC' (E' (E' (X' f p) d) c)))<|cn (fun _ c=>f' z)<|cn (fun _ c=>f' z) ?_
       obtain⟨K,m,hr⟩:=hr
       refine cn (fun _ c=>P' B' bi' ((g.mono d).mono c) z z m)<|cn (fun _ c=>T' bH' z (aC' (E' (E' (X' g m) d) c)))<|Y' q<|yy (bt' z z) z<|u'<|am'<|b'<|I' hr z (fun B hr=>?_) (fun B hr=>?_)
       ·refine sr<|sg z z<|nx<|j' ?_
        replace hr:_=r:=hr
        refine x'<|g'<|g'<|x'<|aH'<|g' ?_
        subst hr
        exact k' z z z
       ·refine n'<|D'<|b'<|w'<|mv z z<|yy (bf' z z) z<|sg z z<|u'<|O' ⟨IntKind.i64.wrap (i-1),e⟩ hr d (fc z (fc z (fc z fn))) (wk ln)
     ·refine ae'<|m'<|m'<|J'<|af' e ⟨d,hr⟩ fn (wk ln)
   ·rintro h ⟨C,hr⟩
    refine b'<|sr<|sg z z<|nx<|j' ?_
    obtain rfl:_=r:=hr
    exact k' z z z
theorem gp'{a1 d1 a1p a1c r}(hr:(Zhz a1 d1).Ret r):Ctr Tryz.prog 212 #[.slice a1p a1.length a1c,.int .u64 d1] (fun G=>sl (Rp.int .u32) G a1p a1c a1) (fun G v=>∃ t y,v = .tuple #[.slice t r.1.length y,.int .u64 r.2]∧sl (Rp.int .u32) G t y r.1):=by
 refine C' (args:=[_,_]) (N:=41) Tryz.func212 z z z (fun Q x T J=>?_)
 have q:=J
 refine sr<|sg z z<|sg z z<|nr<|mv z z<|yy (L' B' q z) z ?_
 obtain⟨O,hr⟩:=hr
 refine dP' (r:=(Rp.int .u32)) (e:=156) (n:=(a1.length:Int)) (zx:=0) 4012 z z B' el156 z (by decide) (by decide) z z z O fun B K U=>sg z z<|nr<|sg z z<|nx<|h'<|sr<|mv z z<|yy (L' B' q z) z<|yy (bf' z z) z<|sg z z<|nx<|ab' (fun (⟨h,f,l,m⟩:(List Int)×Option Ow×Int×Mem)=>[(6,.slice B (a1.length:Int).toNat ((a1.length:Int).toNat)),(7,.int .u64 l)]) (fun ⟨h,f,l,m⟩=>Mem.le x m∧RowR (Rp.int .u32) 156 m (.slice B (a1.length:Int).toNat ((a1.length:Int).toNat)) h f∧(ZcV h l).Ret r) (fun ⟨h,f,l,m⟩=>St Q x m [(4012,f)]) ?_ ?_
 ·refine A' ?_
  let u:(((List Int)×Int))→Prop:=fun oo=>((fun ov=>match ov with|(h,l)=>ZcV h l:(((List Int)×Int))→Comp ((List Int)×Int)) oo).wp (fun a=>a=r)
  replace hr:(Comp.loop _ _).wp u:=hr
  refine ac' (Φ:=u) (fun (⟨d,c,g,o,j⟩:(List Int)×Option Ow×Int×Int×Mem)=>((d,g,o):(List Int)×Int×Int)) (fun ⟨d,c,g,o,j⟩=>[(0,.slice a1p a1.length a1c),(1,.int .u64 d1),(6,.slice B (a1.length:Int).toNat ((a1.length:Int).toNat)),(7,.int .u64 g),(8,i' o)]) (fun ⟨d,c,g,o,j⟩=>Mem.le x j∧RowR (Rp.int .u32) 156 j (.slice B (a1.length:Int).toNat ((a1.length:Int).toNat)) d c) (fun ⟨d,c,g,o,j⟩=>St Q x j [(4012,c)]) ⟨(List.replicate (a1.length:Int).toNat 0),K,0,IntKind.i64.wrap ((a1.length:Int)-1),x⟩ hr (fc z (fc z (fc z (fc z (fc z fn))))) ⟨mr,U⟩ (wk (lc z ln)) ?_
  ·intro ai gx hx hr
   obtain⟨d,c,g,o,j⟩:=gx
   obtain⟨k,p⟩:=hx
   refine h'<|sr<|mv z z<|yy (be' z z) z<|nx<|I' hr z (fun M hr=>?_) (fun M hr=>?_)
   ·refine n'<|b'<|h'<|A'<|sr<|mv z z<|yy (dJ' z z) z<|mv z z<|mv z z ?_
    obtain⟨D,E,hr⟩:=hr
    refine yy (P' B' bi' (q.mono k) z z E) z<|yy (T' bH' z (aC' (E' (X' q E) k))) z<|yy (aD' ap' al' z) z<|yy (N' z z) z<|sg z z<|nr<|mv z z<|mv z z<|mv z z<|mv z z ?_
    obtain⟨R,hr⟩:=hr
    refine yy (dI' z z R) z<|yy (aD' al' ap' z) z ?_
    obtain⟨x2,F,hr⟩:=hr
    refine yy (aZ' B' bi' p z z F) z<|by' (r:=(Rp.int .u32)) (e:=156) (cs':=[.int .u32 (IntKind.u32.wrap (IntKind.u64.wrap (Int.tdiv (IntKind.u64.wrap ((IntKind.u64.wrap (g*4294967296))+(IntKind.u64.wrap D))) d1)))]) (i:=o) (z':=IntKind.u32.wrap (IntKind.u64.wrap (Int.tdiv (IntKind.u64.wrap ((IntKind.u64.wrap (g*4294967296))+(IntKind.u64.wrap D))) d1))) 4012 z bi' z p z z z z z F fun P L=>nx<|w'<|mv z z<|mv z z ?_
    obtain⟨S,hr⟩:=hr
    refine yy (bz' z z S) z<|sg z z<|u'<|D'<|b'<|w'<|mv z z<|yy (bf' z z) z<|sg z z<|u'<|O' ⟨(d.set o.toNat (IntKind.u32.wrap (IntKind.u64.wrap (Int.tdiv (IntKind.u64.wrap ((IntKind.u64.wrap (g*4294967296))+(IntKind.u64.wrap D))) d1)))),P,Int.tmod (IntKind.u64.wrap ((IntKind.u64.wrap (g*4294967296))+(IntKind.u64.wrap D))) d1,IntKind.i64.wrap (o-1),j⟩ hr ⟨k,L⟩ (fc z (fc z (fc z (fc z (fc z fn))))) (wk (lc z ln))
   ·refine ae'<|m'<|m'<|J'<|af' ⟨d,c,g,j⟩ ⟨k,p,hr⟩ (fc z (fc z fn)) (wk (lc z ln))
 ·rintro⟨h,f,l,m⟩ ⟨V,C,hr⟩
  refine b'<|sr<|mv z z<|bv' (r:=(Rp.int .u32)) (e:=156) 4012 C z (by rw[T]; rfl) (fun aj ak W A X=>?_)
  obtain⟨ag,I,hr⟩:=hr
  refine M' z z (t' E161 z) (dB' I) (by rw[cY' A]) ((cR' A)) (fun aa ah Y s=>?_)
  obtain⟨ae,Z,rfl,H⟩:=s
  refine mv z z<|sg z z<|sg z z<|nx<|j' ?_
  obtain rfl:_=r:=hr
  exact aI' z z z ⟨_,_,z,H⟩
theorem eW'{a0_1 a1_1 a0_1p a0_1c a1_1p a1_1c r}(hr:(Zdm a0_1 a1_1).Ret r):Ctr Tryz.prog 201 #[.slice a0_1p a0_1.length a0_1c,.slice a1_1p a1_1.length a1_1c] (fun G=>sl (Rp.int .u32) G a0_1p a0_1c a0_1∧sl (Rp.int .u32) G a1_1p a1_1c a1_1) (fun G v=>∃ g k j i,v = .tuple #[.slice g r.1.length k,.slice j r.2.length i]∧sl (Rp.int .u32) G g k r.1∧sl (Rp.int .u32) G j i r.2):=by
 refine C' (args:=[_,_]) (N:=110) Tryz.func201 z z z (fun P O K p=>?_)
 obtain⟨d,c⟩:=p
 refine sr<|sg z z<|sg z z<|nx<|h'<|sr<|mv z z<|mv z z ?_
 obtain⟨F,n,hr⟩:=hr
 refine H' z z (t' E167 z) (cS' n) z (⟨d,c⟩)<|yy (V' z z) z<|nx<|I' hr z (fun t hr=>?_) (fun t hr=>?_)
 ·refine sr<|mv z z<|sg z z<|sg z z<|nx<|j' ?_
  replace hr:_=r:=hr
  refine g' ?_
  subst hr
  exact aI' z z z ⟨_,_,_,_,z,(aa' (Rp.int .u32) _),d⟩
 ·refine n'<|b'<|h'<|sr<|mv z z<|yy (L' B' c z) z<|yy (ak' z z) z<|nx<|I' hr z (fun u hr=>?_) (fun u hr=>?_)
  ·refine sr<|mv z z<|mv z z ?_
   obtain⟨M,m,hr⟩:=hr
   refine yy (P' B' bi' c z z m) z<|yy (T' bH' z (aC' (X' c m))) z<|yy (aD' ap' al' z) z ?_
   obtain⟨L,s,hr⟩:=hr
   refine M' z z (t' E212 z) (gp' s) z (d) (fun C H A f=>?_)
   obtain⟨y,x,rfl,h⟩:=f
   refine mv z z<|yy (K' z z) z<|yy (K' z z) z<|sg z z<|sg z z<|nr<|mv z z<|mv z z ?_
   obtain⟨J,q,hr⟩:=hr
   refine M' z z (t' E128 z) (ej' q) z (trivial) (fun E I l e=>?_)
   obtain⟨B,D,rfl,o⟩:=e
   refine sg z z<|sg z z<|nx<|j' ?_
   replace hr:_=r:=hr
   refine g' ?_
   subst hr
   exact aI' z z z ⟨_,_,_,_,z,(h.mono l),o⟩
  ·exact (show False from hr).elim
theorem gC'{a1 b1 a1p a1c b1p b1c r}(hr:(ZfR a1 b1).Ret r):Ctr Tryz.prog 185 #[.slice a1p a1.length a1c,.slice b1p b1.length b1c] (fun G=>sl (Rp.int .u32) G a1p a1c a1∧sl (Rp.int .u32) G b1p b1c b1) (fun G v=>∃ zp S,v = .slice zp r.length S∧sl (Rp.int .u32) G zp S r):=by
 refine C' (args:=[_,_]) (N:=33) Tryz.func185 z z z (fun I A ar K=>?_)
 obtain⟨Z,ab⟩:=K
 refine sr<|sg z z<|nx<|h'<|ab' (fun (⟨q,n,o,l⟩:(List Int)×Option Addr×Nat×Mem)=>[(0,.slice n q.length o)]) (fun ⟨q,n,o,l⟩=>Mem.le A l∧sl (Rp.int .u32) l n o q∧(ZdE q).Ret r) (fun ⟨q,n,o,l⟩=>St I A l []) ?_ ?_
 ·refine A' ?_
  let s:((List Int)⊕(List Int))→Prop:=fun oo=>((fun ov=>match ov with | .inl rv1=>Comp.ret rv1 | .inr q=>ZdE q:((List Int)⊕(List Int))→Comp (List Int)) oo).wp (fun a=>a=r)
  replace hr:(Comp.loop _ _).wp s:=hr
  refine ac' (Φ:=s) (fun (⟨k,g,h,j,f,i,c⟩:(List Int)×Option Addr×Nat×(List Int)×Option Addr×Nat×Mem)=>((k,j):(List Int)×(List Int))) (fun ⟨k,g,h,j,f,i,c⟩=>[(0,.slice g k.length h),(1,.slice f j.length i)]) (fun ⟨k,g,h,j,f,i,c⟩=>Mem.le A c∧sl (Rp.int .u32) c g h k∧sl (Rp.int .u32) c f i j) (fun ⟨k,g,h,j,f,i,c⟩=>St I A c []) ⟨a1,a1p,a1c,b1,b1p,b1c,A⟩ hr (fc z (fc z fn)) ⟨mr,Z,ab⟩ (wk ln) ?_
  ·intro W gx hx hr
   obtain⟨k,g,h,j,f,i,c⟩:=gx
   obtain⟨u,t,m⟩:=hx
   refine h'<|sr<|mv z z<|yy (L' B' m z) z<|yy (bt' z z) z<|nx<|I' hr z (fun P hr=>?_) (fun P hr=>?_)
   ·refine n'<|b'<|A'<|h'<|aV' (fun (⟨e,p⟩:Bool×Mem)=>[(0,.slice g k.length h),(1,.slice f j.length i),(17,.bool e)]) (fun ⟨e,p⟩=>Mem.le c p∧(ZdF k j e).wp (Out W s)) (fun ⟨e,p⟩=>St I A p []) ?_ ?_
    ·skip
     refine w'<|mv z z<|yy (L' B' t z) z<|aj' hr z (bD' z z) z (fun R hr=>?_) (fun R hr=>?_)
     ·refine mv z z<|gy z z (f' z) z<|gy z z (L' B' m z) z<|gy z z (bD' z z) z<|yy (o' z z) z<|u'<|ar' ⟨decide ((j.length:Int)≤2),c⟩ ⟨mr,hr⟩ (fc z (fc z (fc z fn))) (wk ln)
     ·refine mv z z<|sk z z z<|sk z z z<|sk z z z<|yy (l' z z) z<|u'<|ar' ⟨false,c⟩ ⟨mr,hr⟩ (fc z (fc z (fc z fn))) (wk ln)
    ·rintro⟨e,p⟩ ⟨d,hr⟩
     refine aM' hr z (fun U hr=>?_) (fun U hr=>?_)
     ·refine sr<|mv z z ?_
      obtain⟨an,H,hr⟩:=hr
      refine H' z z (t' E200 z) (fg' H) z ((t.mono d))<|mv z z ?_
      obtain⟨au,L,hr⟩:=hr
      refine H' z z (t' E200 z) (fg' L) z ((m.mono d)) ?_
      obtain⟨ap,J,hr⟩:=hr
      refine H' z z (t' E199 z) (gB' J) z (trivial) ?_
      obtain⟨aq,F,hr⟩:=hr
      refine M' z z (t' E128 z) (ej' F) z (trivial) (fun ai ao ae B=>?_)
      obtain⟨ag,ak,rfl,M⟩:=B
      refine sg z z<|nx<|j' ?_
      replace hr:_=r:=hr
      refine g'<|x'<|g'<|x'<|aH'<|g' ?_
      subst hr
      exact k' z z ⟨_,_,z,M⟩
     ·refine n'<|b'<|sr<|mv z z<|mv z z ?_
      obtain⟨Y,O,hr⟩:=hr
      refine M' z z (t' E201 z) (eW' O) z (⟨(t.mono d),(m.mono d)⟩) (fun af V x y=>?_)
      obtain⟨X,Q,E,D,rfl,T,C⟩:=y
      refine mv z z<|yy (K' z z) z<|yy (K' z z) z<|sg z z<|sg z z<|nr<|mv z z<|sg z z<|nx<|w'<|mv z z<|sg z z<|u'<|D'<|O' ⟨j,f,i,Y.2,E,D,V⟩ hr ⟨(mt (mt u d) x),(m.mono (mt d x)),C⟩ (fc z (fc z fn)) (wk ln)
   ·refine ae'<|m'<|m'<|J'<|af' ⟨k,g,h,c⟩ ⟨u,t,hr⟩ (fc z fn) (wk ln)
 ·rintro⟨q,n,o,l⟩ ⟨ad,ac,hr⟩
  refine b'<|sr<|mv z z<|sg z z<|nx<|j' ?_
  obtain rfl:_=r:=hr
  exact k' z z ⟨_,_,z,ac⟩
theorem gm'{a1 b1 a1magp a1magc b1magp b1magc r}(hr:(Zhp a1 b1).Ret r):Ctr Tryz.prog 162 #[.agg ((v58' a1 a1magp a1magc)).toArray,.agg ((v58' b1 b1magp b1magc)).toArray] (fun G=>sl (Rp.int .u32) G a1magp a1magc a1.mag∧sl (Rp.int .u32) G b1magp b1magc b1.mag) (fun G v=>∃ c d,v = .agg ((v58' r c d)).toArray∧sl (Rp.int .u32) G c d r.mag):=by
 refine C' (args:=[_,_]) (N:=11) Tryz.func162 z z z (fun J I D m=>?_)
 obtain⟨h,j⟩:=m
 refine sr<|W' 2 z z z fun F=>W' 3 z z z fun H=>U' 4 z z58 z fun K=>nr<|yy (aP' z) z<|yy (e' 2 bJ' z z z) z<|yy (aP' z) z<|yy (e' 3 bJ' z z z) z ?_
 obtain⟨A,l,hr⟩:=hr
 refine M' z z (t' E185 z) (gC' l) z (⟨h,j⟩) (fun u C q e=>?_)
 obtain⟨y,t,rfl,k⟩:=e
 obtain⟨E,n,hr⟩:=hr
 refine M' z z (t' E127 z) (cC' n) z (k) (fun x B s g=>?_)
 obtain⟨p,o,rfl,f⟩:=g
 refine v' 4 z sz58 z z z z z (List.all_eq_true.1 z)<|nx<|j' ?_
 obtain rfl:_=r:=hr
 exact k' z (ad' (i:=4) bl' z z z) ⟨_,_,z,f⟩
theorem gH'{a1 b1 a1p a1c b1p b1c r}(hr:(ZeK a1 b1).Ret r):Ctr Tryz.prog 166 #[.slice a1p a1.length a1c,.slice b1p b1.length b1c] (fun G=>sl (Rp.int .u32) G a1p a1c a1∧sl (Rp.int .u32) G b1p b1c b1) (fun G v=>∃ T O,v = .slice T r.length O∧sl (Rp.int .u32) G T O r):=by
 refine C' (args:=[_,_]) (N:=42) Tryz.func166 z z z (fun R u S H=>?_)
 obtain⟨D,C⟩:=H
 refine sr<|sg z z<|nr<|mv z z<|yy (L' B' D z) z<|mv z z<|yy (L' B' C z) z<|yy (Y0.max2 z z) z<|yy (N' z z) z<|sg z z<|nr<|mv z z ?_
 obtain⟨P,hr⟩:=hr
 refine dP' (r:=(Rp.int .u32)) (e:=156) (n:=IntKind.i64.wrap ((if (a1.length:Int)<(b1.length:Int) then (b1.length:Int) else (a1.length:Int))+1)) (zx:=0) 4017 z z B' el156 z (by decide) (by decide) z z z P fun y K U=>sg z z<|nr<|sg z z<|nx<|h'<|sr<|sg z z<|nx<|ab' (fun (⟨h,g,l⟩:(List Int)×Option Ow×Mem)=>[(6,.slice y (IntKind.i64.wrap ((if (a1.length:Int)<(b1.length:Int) then (b1.length:Int) else (a1.length:Int))+1)).toNat ((IntKind.i64.wrap ((if (a1.length:Int)<(b1.length:Int) then (b1.length:Int) else (a1.length:Int))+1)).toNat))]) (fun ⟨h,g,l⟩=>Mem.le u l∧RowR (Rp.int .u32) 156 l (.slice y (IntKind.i64.wrap ((if (a1.length:Int)<(b1.length:Int) then (b1.length:Int) else (a1.length:Int))+1)).toNat ((IntKind.i64.wrap ((if (a1.length:Int)<(b1.length:Int) then (b1.length:Int) else (a1.length:Int))+1)).toNat)) h g∧(Zeb h).Ret r) (fun ⟨h,g,l⟩=>St R u l [(4017,g)]) ?_ ?_
 ·refine A' ?_
  let t:(List Int)→Prop:=fun oo=>((fun ov=>match ov with|h=>Zeb h:(List Int)→Comp (List Int)) oo).wp (fun a=>a=r)
  replace hr:(Comp.loop _ _).wp t:=hr
  refine ac' (Φ:=t) (fun (⟨f,d,c,m,j⟩:(List Int)×Option Ow×Int×Int×Mem)=>((f,c,m):(List Int)×Int×Int)) (fun ⟨f,d,c,m,j⟩=>[(0,.slice a1p a1.length a1c),(1,.slice b1p b1.length b1c),(5,i' (IntKind.i64.wrap ((if (a1.length:Int)<(b1.length:Int) then (b1.length:Int) else (a1.length:Int))+1))),(6,.slice y (IntKind.i64.wrap ((if (a1.length:Int)<(b1.length:Int) then (b1.length:Int) else (a1.length:Int))+1)).toNat ((IntKind.i64.wrap ((if (a1.length:Int)<(b1.length:Int) then (b1.length:Int) else (a1.length:Int))+1)).toNat)),(7,.int .u64 c),(8,i' m)]) (fun ⟨f,d,c,m,j⟩=>Mem.le u j∧RowR (Rp.int .u32) 156 j (.slice y (IntKind.i64.wrap ((if (a1.length:Int)<(b1.length:Int) then (b1.length:Int) else (a1.length:Int))+1)).toNat ((IntKind.i64.wrap ((if (a1.length:Int)<(b1.length:Int) then (b1.length:Int) else (a1.length:Int))+1)).toNat)) f d) (fun ⟨f,d,c,m,j⟩=>St R u j [(4017,d)]) ⟨(List.replicate (IntKind.i64.wrap ((if (a1.length:Int)<(b1.length:Int) then (b1.length:Int) else (a1.length:Int))+1)).toNat 0),K,0,0,u⟩ hr (fc z (fc z (fc z (fc z (fc z (fc z fn)))))) ⟨mr,U⟩ (wk (lc z ln)) ?_
  ·intro aj gx hx hr
   obtain⟨f,d,c,m,j⟩:=gx
   obtain⟨k,o⟩:=hx
   refine h'<|sr<|mv z z<|mv z z<|yy (V' z z) z<|nx<|I' hr z (fun M hr=>?_) (fun M hr=>?_)
   ·refine n'<|b'<|h'<|A'<|sr<|mv z z<|mv z z ?_
    obtain⟨p,J,hr⟩:=hr
    refine H' z z (t' E187 z) (dn' J) z ((D.mono k))<|mv z z<|mv z z ?_
    obtain⟨q,I,hr⟩:=hr
    refine H' z z (t' E187 z) (dn' I) z ((C.mono k))<|yy (N' z z) z<|mv z z<|yy (N' z z) z<|sg z z<|nr<|mv z z<|mv z z<|mv z z<|yy (bz' z z (by decide)) z<|yy (aD' al' ap' z) z ?_
    obtain⟨x1,B,hr⟩:=hr
    refine yy (aZ' B' bi' o z z B) z<|by' (r:=(Rp.int .u32)) (e:=156) (cs':=[.int .u32 (IntKind.u32.wrap (Int.tmod (IntKind.u64.wrap ((IntKind.u64.wrap (p+q))+c)) 4294967296))]) (i:=m) (z':=IntKind.u32.wrap (Int.tmod (IntKind.u64.wrap ((IntKind.u64.wrap (p+q))+c)) 4294967296)) 4017 z bi' z o z z z z z B fun Q L=>nx<|w'<|mv z z<|yy (dI' z z (by decide)) z<|sg z z<|u'<|D'<|b'<|w'<|mv z z<|yy (N' z z) z<|sg z z<|u'<|O' ⟨(f.set m.toNat (IntKind.u32.wrap (Int.tmod (IntKind.u64.wrap ((IntKind.u64.wrap (p+q))+c)) 4294967296))),Q,IntKind.u64.wrap (Int.tdiv (IntKind.u64.wrap ((IntKind.u64.wrap (p+q))+c)) 4294967296),IntKind.i64.wrap (m+1),j⟩ hr ⟨k,L⟩ (fc z (fc z (fc z (fc z (fc z (fc z fn)))))) (wk (lc z ln))
   ·refine ae'<|m'<|m'<|J'<|af' ⟨f,d,j⟩ ⟨k,o,hr⟩ (fc z fn) (wk (lc z ln))
 ·rintro⟨h,g,l⟩ ⟨V,A,hr⟩
  refine b'<|sr<|mv z z<|bv' (r:=(Rp.int .u32)) (e:=156) 4017 A z (by rw[S]; rfl) (fun ak ai W x X=>?_)
  obtain⟨ag,F,hr⟩:=hr
  refine M' z z (t' E161 z) (dB' F) (by rw[cY' x]) ((cR' x)) (fun aa ah Y s=>?_)
  obtain⟨ae,Z,rfl,E⟩:=s
  refine sg z z<|nx<|j' ?_
  obtain rfl:_=r:=hr
  exact k' z z ⟨_,_,z,E⟩
theorem fB'{a1 b1 a1p a1c b1p b1c r}(hr:(Zdu a1 b1).Ret r):Ctr Tryz.prog 168 #[.slice a1p a1.length a1c,.slice b1p b1.length b1c] (fun G=>sl (Rp.int .u32) G a1p a1c a1∧sl (Rp.int .u32) G b1p b1c b1) (fun G v=>∃ T O,v = .slice T r.length O∧sl (Rp.int .u32) G T O r):=by
 refine C' (args:=[_,_]) (N:=41) Tryz.func168 z z z (fun R x S I=>?_)
 obtain⟨s,U⟩:=I
 refine sr<|sg z z<|nr<|mv z z<|yy (L' B' s z) z ?_
 obtain⟨P,hr⟩:=hr
 refine dP' (r:=(Rp.int .u32)) (e:=156) (n:=(a1.length:Int)) (zx:=0) 4011 z z B' el156 z (by decide) (by decide) z z z P fun A K V=>sg z z<|nr<|sg z z<|nx<|h'<|sr<|sg z z<|nx<|ab' (fun (⟨k,h,m⟩:(List Int)×Option Ow×Mem)=>[(5,.slice A (a1.length:Int).toNat ((a1.length:Int).toNat))]) (fun ⟨k,h,m⟩=>Mem.le x m∧RowR (Rp.int .u32) 156 m (.slice A (a1.length:Int).toNat ((a1.length:Int).toNat)) k h∧(Zec k).Ret r) (fun ⟨k,h,m⟩=>St R x m [(4011,h)]) ?_ ?_
 ·refine A' ?_
  let u:(List Int)→Prop:=fun oo=>((fun ov=>match ov with|k=>Zec k:(List Int)→Comp (List Int)) oo).wp (fun a=>a=r)
  replace hr:(Comp.loop _ _).wp u:=hr
  refine ac' (Φ:=u) (fun (⟨g,d,c,o,l⟩:(List Int)×Option Ow×Int×Int×Mem)=>((g,c,o):(List Int)×Int×Int)) (fun ⟨g,d,c,o,l⟩=>[(0,.slice a1p a1.length a1c),(1,.slice b1p b1.length b1c),(5,.slice A (a1.length:Int).toNat ((a1.length:Int).toNat)),(6,.int .u64 c),(7,i' o)]) (fun ⟨g,d,c,o,l⟩=>Mem.le x l∧RowR (Rp.int .u32) 156 l (.slice A (a1.length:Int).toNat ((a1.length:Int).toNat)) g d) (fun ⟨g,d,c,o,l⟩=>St R x l [(4011,d)]) ⟨(List.replicate (a1.length:Int).toNat 0),K,0,0,x⟩ hr (fc z (fc z (fc z (fc z (fc z fn))))) ⟨mr,V⟩ (wk (lc z ln)) ?_
  ·intro al gx hx hr
   obtain⟨g,d,c,o,l⟩:=gx
   obtain⟨j,p⟩:=hx
   refine h'<|sr<|mv z z<|mv z z<|yy (L' B' (s.mono j) z) z<|yy (V' z z) z<|nx<|I' hr z (fun M hr=>?_) (fun M hr=>?_)
   ·refine n'<|b'<|h'<|A'<|h'<|Z' [false,false,false,false,false,false,false,false,false,false,false] mix (by kernel_rfl) fun hb=>cn (fun _ f=>f' z)<|cn (fun _ f=>f' z) ?_
    obtain⟨C,D,hr⟩:=hr
    refine cn (fun _ f=>P' B' bi' ((s.mono j).mono f) z z D)<|cn (fun _ f=>T' bH' z (aC' (E' (E' (X' s D) j) f)))<|cn (fun _ f=>aD' ap' al' z)<|cn (fun _ f=>N' z z)<|cn (fun _ f=>f' z)<|cn (fun _ f=>f' z) ?_
    obtain⟨q,J,hr⟩:=hr
    refine bG' z (fun _=>t' E187 z) (dn' J) z (fun G' f=>((U.mono j).mono f))<|cn (fun _ f=>bf' z z)<|cn (fun _ f=>f' z)<|Y' hb<|yy (bf' z z) z<|sg z z<|u'<|am'<|b'<|sr<|mv z z<|mv z z<|mv z z<|yy (bz' z z (by decide)) z<|yy (aD' al' ap' z) z ?_
    obtain⟨x2,E,hr⟩:=hr
    refine yy (aZ' B' bi' p z z E) z<|by' (r:=(Rp.int .u32)) (e:=156) (cs':=[.int .u32 (IntKind.u32.wrap (Int.tmod (IntKind.u64.wrap ((IntKind.u64.wrap ((IntKind.u64.wrap (4294967296+(IntKind.u64.wrap C)))-q))-c)) 4294967296))]) (i:=o) (z':=IntKind.u32.wrap (Int.tmod (IntKind.u64.wrap ((IntKind.u64.wrap ((IntKind.u64.wrap (4294967296+(IntKind.u64.wrap C)))-q))-c)) 4294967296)) 4011 z bi' z p z z z z z E fun Q L=>nx<|w'<|mv z z<|yy (dI' z z (by decide)) z<|yy (bf' z z) z<|sg z z<|u'<|D'<|b'<|w'<|mv z z<|yy (N' z z) z<|sg z z<|u'<|O' ⟨(g.set o.toNat (IntKind.u32.wrap (Int.tmod (IntKind.u64.wrap ((IntKind.u64.wrap ((IntKind.u64.wrap (4294967296+(IntKind.u64.wrap C)))-q))-c)) 4294967296))),Q,IntKind.u64.wrap (1-(IntKind.u64.wrap (Int.tdiv (IntKind.u64.wrap ((IntKind.u64.wrap ((IntKind.u64.wrap (4294967296+(IntKind.u64.wrap C)))-q))-c)) 4294967296))),IntKind.i64.wrap (o+1),l⟩ hr ⟨j,L⟩ (fc z (fc z (fc z (fc z (fc z fn))))) (wk (lc z ln))
   ·refine ae'<|m'<|m'<|J'<|af' ⟨g,d,l⟩ ⟨j,p,hr⟩ (fc z fn) (wk (lc z ln))
 ·rintro⟨k,h,m⟩ ⟨W,B,hr⟩
  refine b'<|sr<|mv z z<|bv' (r:=(Rp.int .u32)) (e:=156) 4011 B z (by rw[S]; rfl) (fun am ak X y Y=>?_)
  obtain⟨ai,H,hr⟩:=hr
  refine M' z z (t' E161 z) (dB' H) (by rw[cY' y]) ((cR' y)) (fun ac aj Z t=>?_)
  obtain⟨ag,ab,rfl,F⟩:=t
  refine sg z z<|nx<|j' ?_
  obtain rfl:_=r:=hr
  exact k' z z ⟨_,_,z,F⟩
theorem gD'{a1 b1 a1magp a1magc b1magp b1magc r}(hr:(Ziq a1 b1).Ret r):Ctr Tryz.prog 186 #[.agg ((v58' a1 a1magp a1magc)).toArray,.agg ((v58' b1 b1magp b1magc)).toArray] (fun G=>sl (Rp.int .u32) G a1magp a1magc a1.mag∧sl (Rp.int .u32) G b1magp b1magc b1.mag) (fun G v=>∃ j n k l,v = .tuple #[.agg ((v58' r.1 j n)).toArray,.agg ((v58' r.2.1 k l)).toArray,i' r.2.2]∧sl (Rp.int .u32) G j n r.1.mag∧sl (Rp.int .u32) G k l r.2.1.mag):=by
 refine C' (args:=[_,_]) (N:=46) Tryz.func186 z z z (fun w0 G0 ap T=>?_)
 obtain⟨J,t⟩:=T
 refine sr<|W' 2 z z z fun L=>W' 3 z z z fun M=>U' 4 z z58 z fun Q=>U' 5 z z58 z fun P=>sg z z<|nx<|h'<|sr<|yy (aP' z) z<|yy (e' 3 bJ' z z z) z<|yy (L' B' t z) z<|yy (ak' z z) z<|nx<|I' hr z (fun ab hr=>?_) (fun ab hr=>?_)
 ·exact (show False from hr).elim
 ·refine n'<|b'<|sr<|yy (aP' z) z<|yy (e' 2 bJ' z z z) z<|yy (aP' z) z<|yy (e' 3 bJ' z z z) z ?_
  obtain⟨g,S,hr⟩:=hr
  refine M' z z (t' E201 z) (eW' S) z (⟨J,t⟩) (fun aj B ai C=>?_)
  obtain⟨s,p,A,y,rfl,K,u⟩:=C
  refine mv z z<|yy (K' z z) z<|yy (K' z z) z<|sg z z<|sg z z<|nx<|aV' (fun (⟨F,q,x,h,e,f,d⟩:(List Int)×Option Addr×Nat×(List Int)×Option Addr×Nat×Mem)=>[(2,.pointer (some ⟨L,0,none⟩)),(3,.pointer (some ⟨M,0,none⟩)),(4,.pointer (some ⟨Q,0,none⟩)),(5,.pointer (some ⟨P,0,none⟩)),(7,.slice q F.length x),(8,.slice e h.length f)]) (fun ⟨F,q,x,h,e,f,d⟩=>Mem.le B d∧sl (Rp.int .u32) d q x F∧sl (Rp.int .u32) d e f h∧(ZdC a1 b1 F h).Ret r) (fun ⟨F,q,x,h,e,f,d⟩=>St w0 G0 d [(2,some ⟨L,.cells ((v58' a1 a1magp a1magc)).toArray 58 (0,0),0⟩),(3,some ⟨M,.cells ((v58' b1 b1magp b1magc)).toArray 58 (0,0),0⟩),(4,some ⟨Q,.cells ([.bool false,.slice none 0 0]).toArray 58 (0,0),0⟩),(5,some ⟨P,.cells ([.bool false,.slice none 0 0]).toArray 58 (0,0),0⟩)]) ?_ ?_
  ·skip
   refine aV' (fun (⟨c,m⟩:Bool×Mem)=>[(2,.pointer (some ⟨L,0,none⟩)),(3,.pointer (some ⟨M,0,none⟩)),(4,.pointer (some ⟨Q,0,none⟩)),(5,.pointer (some ⟨P,0,none⟩)),(7,.slice s g.1.length p),(8,.slice A g.2.length y),(29,.bool c)]) (fun ⟨c,m⟩=>Mem.le B m∧(ZdD a1 b1 g c).Ret r) (fun ⟨c,m⟩=>St w0 G0 m [(2,some ⟨L,.cells ((v58' a1 a1magp a1magc)).toArray 58 (0,0),0⟩),(3,some ⟨M,.cells ((v58' b1 b1magp b1magc)).toArray 58 (0,0),0⟩),(4,some ⟨Q,.cells ([.bool false,.slice none 0 0]).toArray 58 (0,0),0⟩),(5,some ⟨P,.cells ([.bool false,.slice none 0 0]).toArray 58 (0,0),0⟩)]) ?_ ?_
   ·skip
    refine w'<|yy (bp' z) z<|aj' hr z (cN' (e' 2 sc4 z z z) (congrArg Value.bool (bdec _))) z (fun ac hr=>?_) (fun ac hr=>?_)
    ·refine mv z z<|gy z z (f' z) z<|gy z z (L' B' u z) z<|gy z z (bt' z z) z<|yy (o' z z) z<|u'<|ar' ⟨decide (0<(g.2.length:Int)),B⟩ ⟨mr,hr⟩ (fc z (fc z (fc z (fc z (fc z (fc z (fc z fn))))))) (wk (lc z (lc z (lc z (lc z ln)))))
    ·refine mv z z<|sk z z z<|sk z z z<|sk z z z<|yy (l' z z) z<|u'<|ar' ⟨false,B⟩ ⟨mr,hr⟩ (fc z (fc z (fc z (fc z (fc z (fc z (fc z fn))))))) (wk (lc z (lc z (lc z (lc z ln)))))
   ·rintro⟨c,m⟩ ⟨o,hr⟩
    refine aM' hr z (fun af hr=>?_) (fun af hr=>?_)
    ·exact (show False from hr).elim
    ·refine n'<|ar' ⟨g.1,s,p,g.2,A,y,m⟩ ⟨o,(K.mono o),(u.mono o),hr⟩ (fc z (fc z (fc z (fc z (fc z (fc z fn)))))) (wk (lc z (lc z (lc z (lc z ln)))))
  ·rintro⟨F,q,x,h,e,f,d⟩ ⟨ah,ag,W,hr⟩
   refine sr<|yy (bp' z) z<|yy (e' 2 sc4 z z z) z<|yy (bp' z) z<|yy (e' 3 sc4 z z z) z<|yy (ee' bK' z z) z<|mv z z ?_
   obtain⟨aq,V,hr⟩:=hr
   refine M' z z (t' E127 z) (cC' V) z (ag) (fun ak am R I=>?_)
   obtain⟨Y,X,rfl,H⟩:=I
   refine mv z z ?_
   obtain⟨ao,U,hr⟩:=hr
   refine M' z z (t' E127 z) (cC' U) z ((W.mono R)) (fun al an O E=>?_)
   obtain⟨aa,Z,rfl,D⟩:=E
   refine v' 4 z sz58 z z z z z (List.all_eq_true.1 z)<|v' 5 z sz58 z z z z z (List.all_eq_true.1 z)<|sg z z<|nx<|j' ?_
   obtain rfl:_=r:=hr
   exact WE.ret3 z (ad' (i:=4) bl' z z z) (ad' (i:=5) bl' z z z) z ⟨_,_,_,_,z,(H.mono O),D⟩
theorem fC'{n1 g1 n1magp n1magc g1magp g1magc r}(hr:(ZeM n1 g1).Ret r):Ctr Tryz.prog 164 #[.agg ((v58' n1 n1magp n1magc)).toArray,.agg ((v58' g1 g1magp g1magc)).toArray] (fun G=>sl (Rp.int .u32) G n1magp n1magc n1.mag∧sl (Rp.int .u32) G g1magp g1magc g1.mag) (fun G v=>∃ d e,v = .agg ((v58' r d e)).toArray∧sl (Rp.int .u32) G d e r.mag):=by
 refine C' (args:=[_,_]) (N:=16) Tryz.func164 z z z (fun D C u p=>?_)
 obtain⟨g,h⟩:=p
 refine sr<|W' 2 z z z fun B=>W' 3 z z z fun y=>U' 4 z z58 z fun A=>nr<|yy (s' 2 bl' z z z) z<|yy (s' 3 bl' z z z) z ?_
 obtain⟨t,o,hr⟩:=hr
 refine M' z z (t' E186 z) (gD' o) z (⟨g,h⟩) (fun s x q f=>?_)
 obtain⟨j,k,l,m,rfl,c,n⟩:=f
 refine mv z z<|yy (K' z z) z<|yy (K' z z) z<|yy (K' z z) z<|U' 5 z z58 z fun F=>U' 6 z z58 z fun E=>v' 5 z sz58 z z z z z (List.all_eq_true.1 z)<|v' 6 z sz58 z z z z z (List.all_eq_true.1 z)<|sg z z<|nr<|yy (s' 5 bl' z z z) z<|v' 4 z sz58 z z z z z (List.all_eq_true.1 z)<|nx<|j' ?_
 obtain rfl:_=r:=hr
 exact k' z (ad' (i:=4) bl' z z z) ⟨_,_,z,c⟩
theorem fh'{n1 d1 n1magp n1magc d1magp d1magc r}(hr:(ZdU n1 d1).Ret r):Ctr Tryz.prog 129 #[.agg ((v58' n1 n1magp n1magc)).toArray,.agg ((v58' d1 d1magp d1magc)).toArray] (fun G=>sl (Rp.int .u32) G n1magp n1magc n1.mag∧sl (Rp.int .u32) G d1magp d1magc d1.mag) (fun G v=>∃ m p o n,v = .agg ([.bool r.num.neg,.slice m r.num.mag.length p,.bool r.den.neg,.slice o r.den.mag.length n]).toArray∧sl (Rp.int .u32) G m p r.num.mag∧sl (Rp.int .u32) G o n r.den.mag):=by
 refine C' (args:=[_,_]) (N:=21) Tryz.func129 z z z (fun w0 G0 aj S=>?_)
 obtain⟨B,l⟩:=S
 refine sr<|W' 2 z z z fun Z=>W' 3 z z z fun W=>U' 4 z z60 z fun X=>nr<|yy (s' 2 bl' z z z) z<|yy (s' 3 bl' z z z) z ?_
 obtain⟨V,R,hr⟩:=hr
 refine M' z z (t' E162 z) (gm' R) z (⟨B,l⟩) (fun ab P A F=>?_)
 obtain⟨J,I,rfl,E⟩:=F
 refine U' 5 z z58 z fun b4=>v' 5 z sz58 z z z z z (List.all_eq_true.1 z)<|nx<|aV' (fun (⟨t,f,g,s⟩:Zg×Option Addr×Nat×Mem)=>[(2,.pointer (some ⟨Z,0,none⟩)),(3,.pointer (some ⟨W,0,none⟩)),(4,.pointer (some ⟨X,0,none⟩)),(5,.pointer (some ⟨b4,0,none⟩))]) (fun ⟨t,f,g,s⟩=>Mem.le P s∧sl (Rp.int .u32) s f g t.mag∧(Zgm n1 d1 t).Ret r) (fun ⟨t,f,g,s⟩=>St w0 G0 s [(2,some ⟨Z,.cells ((v58' n1 n1magp n1magc)).toArray 58 (0,0),0⟩),(3,some ⟨W,.cells ((v58' d1 d1magp d1magc)).toArray 58 (0,0),0⟩),(4,some ⟨X,.cells ([.bool false,.slice none 0 0,.bool false,.slice none 0 0]).toArray 60 (0,0),0⟩),(5,some ⟨b4,.cells ((v58' t f g)).toArray 58 (0,0),0⟩)]) ?_ ?_
 ·skip
  refine sr<|yy (s' 3 bl' z z z) z ?_
  obtain⟨ai,Q,hr⟩:=hr
  refine H' z z (t' E138 z) (eR' Q) z ((l.mono A))<|yy (V' z z) z<|nx<|I' hr z (fun Y hr=>?_) (fun Y hr=>?_)
  ·exact (show False from hr).elim
  ·refine n'<|ar' ⟨V,J,I,P⟩ ⟨mr,E,hr⟩ (fc z (fc z (fc z (fc z fn)))) (wk (lc z (lc z (lc z (lc z ln)))))
 ·rintro⟨t,f,g,s⟩ ⟨C,u,hr⟩
  refine h'<|Z' [false,false,false,false,false] mix (by kernel_rfl) fun hb=>cn (fun _ k=>s' 2 bl' z z z)<|cn (fun _ k=>s' 5 bl' z z z) ?_
  obtain⟨q,U,hr⟩:=hr
  refine ay' (post:=fun G v=>∃ e c,v = .agg ((v58' q e c)).toArray∧sl (Rp.int .u32) G e c q.mag) (fun _=>z) (fun _ _=>t' E164 z) (fC' U) z (fun G' k=>⟨((B.mono (mt A C)).mono k),(u.mono k)⟩) (fun v G1 G2 k h=>?_) ?_
  ·obtain⟨e,c,rfl,j⟩:=h
   exact⟨_,_,z,j.mono k⟩
  refine cu (fun _ _ k=>s' 3 bl' z z z)<|cu (fun _ _ k=>s' 5 bl' z z z)<|bO' (d:=16) (post:=fun G v=>∃ e c,v = .agg ((v58' q e c)).toArray∧sl (Rp.int .u32) G e c q.mag) (fun ac ag D L=>?_)
  obtain⟨e,c,rfl,j⟩:=L
  obtain⟨M,T,hr⟩:=hr
  refine M' z z (t' E164 z) (fC' T) z (⟨(l.mono (mt (mt A C) D)),(u.mono D)⟩) (fun af ah O K=>?_)
  obtain⟨y,x,rfl,H⟩:=K
  refine yy (aq' (vs:=#[(0,.agg ((v58' q e c)).toArray),(1,.agg ((v58' M y x)).toArray)]) (v:=.agg ([.bool q.neg,.slice e q.mag.length c,.bool M.neg,.slice y M.mag.length x]).toArray) z z (fun _=>by kernel_rfl)) z<|v' 4 z sz60 z z z z z (List.all_eq_true.1 z)<|u'<|am'<|b'<|j' ?_
  obtain rfl:_=r:=hr
  exact k' z (ad' (i:=4) bS' z z z) ⟨_,_,_,_,z,(j.mono O),H⟩
theorem fi'{a1 b1 a1nummagp a1nummagc a1denmagp a1denmagc b1nummagp b1nummagc b1denmagp b1denmagc r}(hr:(Zd6 a1 b1).Ret r):Ctr Tryz.prog 84 #[.agg ([.bool a1.num.neg,.slice a1nummagp a1.num.mag.length a1nummagc,.bool a1.den.neg,.slice a1denmagp a1.den.mag.length a1denmagc]).toArray,.agg ([.bool b1.num.neg,.slice b1nummagp b1.num.mag.length b1nummagc,.bool b1.den.neg,.slice b1denmagp b1.den.mag.length b1denmagc]).toArray] (fun G=>sl (Rp.int .u32) G a1nummagp a1nummagc a1.num.mag∧sl (Rp.int .u32) G a1denmagp a1denmagc a1.den.mag∧sl (Rp.int .u32) G b1nummagp b1nummagc b1.num.mag∧sl (Rp.int .u32) G b1denmagp b1denmagc b1.den.mag) (fun G v=>∃ j m l k,v = .agg ([.bool r.num.neg,.slice j r.num.mag.length m,.bool r.den.neg,.slice l r.den.mag.length k]).toArray∧sl (Rp.int .u32) G j m r.num.mag∧sl (Rp.int .u32) G l k r.den.mag):=by
 refine C' (args:=[_,_]) (N:=16) Tryz.func84 z z z (fun w0 G0 Y K=>?_)
 obtain⟨q,s,t,p⟩:=K
 refine sr<|W' 2 z z z fun b2=>W' 3 z z z fun b3=>U' 4 z z60 z fun b4=>nx<|h'<|Z' [false,false,false,false,false,false,false,false,false] mix (by kernel_rfl) fun hb=>cn (fun _ f=>cp' z)<|cn (fun _ f=>av' ((v58' a1.num a1nummagp a1nummagc)).toArray 2 bl' z z z (aN' ([]) ((v58' a1.num a1nummagp a1nummagc)) ((v58' a1.den a1denmagp a1denmagc))))<|cn (fun _ f=>cp' z)<|cn (fun _ f=>av' ((v58' b1.num b1nummagp b1nummagc)).toArray 3 bl' z z z (aN' ([]) ((v58' b1.num b1nummagp b1nummagc)) ((v58' b1.den b1denmagp b1denmagc)))) ?_
 obtain⟨u,J,hr⟩:=hr
 refine ay' (post:=fun G v=>∃ e c,v = .agg ((v58' u e c)).toArray∧sl (Rp.int .u32) G e c u.mag) (fun _=>z) (fun _ _=>t' E130 z) (en' J) z (fun G' f=>⟨(q.mono f),(t.mono f)⟩) (fun v G1 G2 f h=>?_) ?_
 ·obtain⟨e,c,rfl,g⟩:=h
  exact⟨_,_,z,g.mono f⟩
 refine cu (fun _ _ f=>ce' z)<|cu (fun _ _ f=>av' ((v58' a1.den a1denmagp a1denmagc)).toArray 2 bl' z z z (aN' ((v58' a1.num a1nummagp a1nummagc)) ((v58' a1.den a1denmagp a1denmagc)) ([])))<|cu (fun _ _ f=>ce' z)<|cu (fun _ _ f=>av' ((v58' b1.den b1denmagp b1denmagc)).toArray 3 bl' z z z (aN' ((v58' b1.num b1nummagp b1nummagc)) ((v58' b1.den b1denmagp b1denmagc)) ([])))<|bO' (d:=9) (post:=fun G v=>∃ e c,v = .agg ((v58' u e c)).toArray∧sl (Rp.int .u32) G e c u.mag) (fun R V x y=>?_)
 obtain⟨e,c,rfl,g⟩:=y
 obtain⟨Z,M,hr⟩:=hr
 refine M' z z (t' E130 z) (en' M) z (⟨(s.mono x),(p.mono x)⟩) (fun S U I C=>?_)
 obtain⟨P,O,rfl,B⟩:=C
 obtain⟨X,L,hr⟩:=hr
 refine M' z z (t' E129 z) (fh' L) z (⟨(g.mono I),B⟩) (fun T W Q A=>?_)
 obtain⟨D,H,F,E,rfl,o,n⟩:=A
 refine v' 4 z sz60 z z z z z (List.all_eq_true.1 z)<|u'<|am'<|b'<|j' ?_
 obtain rfl:_=r:=hr
 exact k' z (ad' (i:=4) bS' z z z) ⟨_,_,_,_,z,o,n⟩
theorem fD'{c1 m1 p1 c1nummagp c1nummagc c1denmagp c1denmagc p1p p1c r}(hr:(ZgE c1 m1 p1).Ret r):Ctr Tryz.prog 92 #[.agg ([.bool c1.num.neg,.slice c1nummagp c1.num.mag.length c1nummagc,.bool c1.den.neg,.slice c1denmagp c1.den.mag.length c1denmagc]).toArray,.agg (vecG (Value.int .i64) 8 m1).toArray,.slice p1p p1.length p1c] (fun G=>sl (Rp.int .u32) G c1nummagp c1nummagc c1.num.mag∧sl (Rp.int .u32) G c1denmagp c1denmagc c1.den.mag∧sl r' G p1p p1c p1) (fun G v=>∃ V X,v = .tuple #[.slice V r.1.length X,i' r.2]∧sl r' G V X r.1):=by
 refine C' (args:=[_,_,_]) (N:=47) Tryz.func92 z z z (fun w0 G0 Y an=>?_)
 obtain⟨H,I,O⟩:=an
 refine sr<|W' 3 z z z fun b1=>W' 4 z z z fun b2=>sg z z<|sg z z<|nr<|aU' (e:=101) (r:=r') (vs:=#[]) (cs:=[]) ([]:List Zc) z z z z z (by decide) (fun _=>by kernel_rfl) (z) (key:=999) z (by rw[Y]; rfl) fun p2 U n az=>sg z z<|nx<|h'<|sr<|yy (s' 3 bS' z z z) z ?_
 obtain⟨aS,ah,hr⟩:=hr
 refine H' z z (t' E91 z) (eB' ah) z (⟨(H.mono n),(I.mono n)⟩)<|yy (ak' z z) z<|nx<|I' hr z (fun aB hr=>?_) (fun aB hr=>?_)
 ·refine sr<|sg z z<|sg z z<|nx<|j' ?_
  replace hr:_=r:=hr
  refine g' ?_
  subst hr
  exact aI' z z z ⟨_,_,z,(aa' r' _)⟩
 ·refine n'<|b'<|h'<|sr<|sg z z<|nx<|ab' (fun (⟨t,C,D,B,J⟩:(List Zc)×Option Addr×Nat×Option Ow×Mem)=>[(8,.slice C t.length D)]) (fun ⟨t,C,D,B,J⟩=>Mem.le U J∧sl r' J C D t∧Tok 12 101 (.slice C t.length D) t.length B∧(Zej t).Ret r) (fun ⟨t,C,D,B,J⟩=>St w0 G0 J [(1008,B)]) ?_ ?_
  ·refine A' ?_
   let W:(((List Zc)×Int)⊕(List Zc))→Prop:=fun oo=>((fun ov=>match ov with | .inl rv1=>Comp.ret rv1 | .inr t=>Zej t:(((List Zc)×Int)⊕(List Zc))→Comp ((List Zc)×Int)) oo).wp (fun a=>a=r)
   replace hr:(Comp.loop _ _).wp W:=hr
   refine ac' (Φ:=W) (fun (⟨o,q,s,p,P,F⟩:(List Zc)×Option Addr×Nat×Option Ow×Int×Mem)=>((o,P):(List Zc)×Int)) (fun ⟨o,q,s,p,P,F⟩=>[(2,.slice p1p p1.length p1c),(3,.pointer (some ⟨b1,0,none⟩)),(4,.pointer (some ⟨b2,0,none⟩)),(8,.slice q o.length s),(9,i' P)]) (fun ⟨o,q,s,p,P,F⟩=>Mem.le U F∧sl r' F q s o∧Tok 12 101 (.slice q o.length s) o.length p) (fun ⟨o,q,s,p,P,F⟩=>St w0 G0 F [(3,some ⟨b1,.cells ([.bool c1.num.neg,.slice c1nummagp c1.num.mag.length c1nummagc,.bool c1.den.neg,.slice c1denmagp c1.den.mag.length c1denmagc]).toArray 60 (0,0),0⟩),(4,some ⟨b2,.cells (vecG (Value.int .i64) 8 m1).toArray 99 (0,0),0⟩),(1008,p)]) ⟨[],p2,0,none,0,U⟩ hr (fc z (fc z (fc z (fc z (fc z fn))))) ⟨mr,az,ef'⟩ (wk (lc z (lc z (lw ln)))) ?_
   ·intro aT gx hx hr
    obtain⟨o,q,s,p,P,F⟩:=gx
    obtain⟨m,Q,L⟩:=hx
    refine h'<|sr<|mv z z<|mv z z<|yy (L' R' (O.mono (mt n m)) z) z<|yy (V' z z) z<|nx<|I' hr z (fun aC hr=>?_) (fun aC hr=>?_)
    ·refine n'<|b'<|h'<|A'<|h'<|Z' [false,false,false,false,false,false,false,false,false,true,false] mix (by kernel_rfl) fun hb=>cn (fun _ l=>s' 4 ca' z z (Q' _ _ _))<|cn (fun _ l=>f' z)<|cn (fun _ l=>f' z) ?_
     obtain⟨x1,ae,hr⟩:=hr
     refine cn (fun _ l=>P' R' bC' ((O.mono (mt n m)).mono l) z z ae)<|cn (fun _ l=>bn' z)<|cn (fun _ l=>ax' _ ca' z (Q' _ _ _) (cZ' (E' (E' (aJ' (aA' (X' O ae))) (mt n m)) l))) ?_
     obtain⟨E,ak,hr⟩:=hr
     refine bG' z (fun _=>t' E139 z) (gV' ak) z (fun G' l=>trivial)<|cn (fun _ l=>f' z)<|cn (fun _ l=>K' z z)<|cO' z (K' z z)<|bm' (fun _=>z) z99<|Chain.tail1 hb fun b3=>v' 10 z sz99 z z z (Q' _ _ _) (Q' _ _ _) (fun u hu=>Rp.one (cx' .i64 8) (G:=F) (x:=E.1) (cs:=vecG (Value.int .i64) 8 E.1) z u (by first|simpa using hu|simpa [Value.cells] using hu))<|sg z z<|u'<|am'<|b'<|h'<|sr<|mv z z<|yy (aQ' z z) z<|nx<|I' hr z (fun aD hr=>?_) (fun aD hr=>?_)
     ·exact (show False from hr).elim
     ·refine n'<|b'<|Z' [true,false,false,false,false,false,false,false,false] mix (by kernel_rfl) fun hb=>cO' z (f' z)<|cn (fun _ l=>s' 3 bS' z z z)<|cn (fun _ l=>f' z)<|cn (fun _ l=>f' z) ?_
      obtain⟨x2,af,hr⟩:=hr
      refine cn (fun _ l=>P' R' bC' ((O.mono (mt n m)).mono l) z z af)<|cn (fun _ l=>cg' z) ?_
      obtain⟨ad,ac,ab,ag,aw,M,K⟩:=db' (E' (bb' (aA' (X' O af))) (mt n m))
      refine cn (fun _ l=>ax' _ bS' z z (fun j v hv=>l _ _ _ (aw j v hv))) ?_
      obtain⟨k,aj,hr⟩:=hr
      refine ay' (post:=fun G v=>∃ c i g f,v = .agg ([.bool k.num.neg,.slice c k.num.mag.length i,.bool k.den.neg,.slice g k.den.mag.length f]).toArray∧sl (Rp.int .u32) G c i k.num.mag∧sl (Rp.int .u32) G g f k.den.mag) (fun _=>z) (fun _ _=>t' E84 z) (fi' aj) z (fun G' l=>⟨((H.mono (mt n m)).mono l),((I.mono (mt n m)).mono l),(M.mono l),(K.mono l)⟩) (fun v G1 G2 l h=>?_) ?_
      ·obtain⟨c,i,g,f,rfl,A,y⟩:=h
       exact⟨_,_,_,_,z,A.mono l,y.mono l⟩
      refine cu (fun _ _ l=>s' 10 ca' z z (Q' _ _ _))<|bO' (d:=41) (post:=fun G v=>∃ c i g f,v = .agg ([.bool k.num.neg,.slice c k.num.mag.length i,.bool k.den.neg,.slice g k.den.mag.length f]).toArray∧sl (Rp.int .u32) G c i k.num.mag∧sl (Rp.int .u32) G g f k.den.mag) (fun aO aR R T=>?_)
      obtain⟨c,i,g,f,rfl,A,y⟩:=T
      refine yy (aq' (vs:=#[(0,.agg ([.bool k.num.neg,.slice c k.num.mag.length i,.bool k.den.neg,.slice g k.den.mag.length f]).toArray),(1,.agg (vecG (Value.int .i64) 8 E.1).toArray)]) (v:=.agg (([.bool k.num.neg,.slice c k.num.mag.length i,.bool k.den.neg,.slice g k.den.mag.length f]:List Value)++(vecG (Value.int .i64) 8 E.1)).toArray) z z (fun _=>by kernel_rfl)) z<|aU' (e:=101) (r:=r') (vs:=#[(0,.agg (([.bool k.num.neg,.slice c k.num.mag.length i,.bool k.den.neg,.slice g k.den.mag.length f]:List Value)++(vecG (Value.int .i64) 8 E.1)).toArray)]) (cs:=(([.bool k.num.neg,.slice c k.num.mag.length i,.bool k.den.neg,.slice g k.den.mag.length f]:List Value)++(vecG (Value.int .i64) 8 E.1))++([])) ([(Zc.mk k E.1)]:List Zc) z z z z z (by decide) (fun _=>by kernel_rfl) ⟨([.bool k.num.neg,.slice c k.num.mag.length i,.bool k.den.neg,.slice g k.den.mag.length f]:List Value)++(vecG (Value.int .i64) 8 E.1),[],z,⟨[.bool k.num.neg,.slice c k.num.mag.length i,.bool k.den.neg,.slice g k.den.mag.length f],vecG (Value.int .i64) 8 E.1,z,⟨(v58' k.num c i),(v58' k.den g f),z,⟨[.bool k.num.neg],[.slice c k.num.mag.length i],z,z,⟨_,z,A⟩⟩,⟨[.bool k.den.neg],[.slice g k.den.mag.length f],z,z,⟨_,z,y⟩⟩⟩,z⟩,z⟩ (key:=999) z (by rw[Y]; rfl) (fun p3 aQ S aq=>?_)
      obtain⟨ai,hr⟩:=hr
      refine cE' (r:=r') 1008 z z R' el101 z (by decide) z z (Q.mono (mt R S)) z (by rw[Y]; rfl) L aq ai fun p4 ap am aF aa av al=>sg z z<|u'<|am'<|D'<|b'<|w'<|mv z z<|yy (N' z z) z<|sg z z<|u'<|O' ⟨(o++[(Zc.mk k E.1)]),p4,ap,am,IntKind.i64.wrap (P+1),aF⟩ hr ⟨(mt (mt (mt m R) S) aa),av,al⟩ (fc z (fc z (fc z (fc z (fc z fn))))) (wk (lc z (lc z (lc z ln))))
    ·refine ae'<|m'<|m'<|J'<|af' ⟨o,q,s,p,F⟩ ⟨m,Q,L,hr⟩ (fc z fn) (wk (lc z ln))
  ·rintro⟨t,C,D,B,J⟩ ⟨aG,Z,ax,hr⟩
   refine b'<|sr<|mv z z<|sg z z<|sg z z<|nx<|j' ?_
   obtain rfl:_=r:=hr
   exact aI' z z z ⟨_,_,z,Z⟩
theorem fj'{a1 b1 r}(hr:(ZfE a1 b1).Ret r):Ctr Tryz.prog 90 #[.agg (vecG (Value.int .i64) 8 a1).toArray,.agg (vecG (Value.int .i64) 8 b1).toArray] (fun G=>True) (fun G v=>v=i' r):=by
 refine C' (args:=[_,_]) (N:=24) Tryz.func90 z z z fun x j F A=>sr<|W' 2 z z z fun p=>W' 3 z z z fun q=>sg z z<|nx<|h'<|sr<|sg z z<|nx<|ab' (fun (g:Mem)=>match g with|e=>[]) (fun (g:Mem)=>match g with|e=>Mem.le j e∧(ZfU).Ret r) (fun (g:Mem)=>match g with|e=>St x j e []) ?_ ?_
 ·refine A' ?_
  let i:(Int⊕Unit)→Prop:=fun B=>((fun D=>match D with | .inl rv1=>Comp.ret rv1 | .inr ()=>ZfU:(Int⊕Unit)→Comp Int) B).wp (fun a=>a=r)
  replace hr:(Comp.loop _ _).wp i:=hr
  refine ac' (Φ:=i) (fun (⟨f,d⟩:Int×Mem)=>(f:Int)) (fun ⟨f,d⟩=>[(2,.pointer (some ⟨p,0,none⟩)),(3,.pointer (some ⟨q,0,none⟩)),(5,i' f)]) (fun ⟨f,d⟩=>Mem.le j d) (fun ⟨f,d⟩=>St x j d [(2,some ⟨p,.cells (vecG (Value.int .i64) 8 a1).toArray 99 (0,0),0⟩),(3,some ⟨q,.cells (vecG (Value.int .i64) 8 b1).toArray 99 (0,0),0⟩)]) ⟨0,j⟩ hr (fc z (fc z (fc z fn))) mr (wk (lc z (lc z ln))) ?_
  ·intro E g C hr
   obtain⟨f,d⟩:=g
   have h:=C
   refine h'<|sr<|mv z z<|yy (V' z z) z<|nx<|I' hr z (fun s hr=>?_) (fun s hr=>?_)
   ·refine n'<|b'<|h'<|A'<|h'<|h'<|Z' [false,false,false,false,false,false] mix (by kernel_rfl) fun o=>cn (fun _ c=>f' z) ?_
    obtain⟨k,hr⟩:=hr
    refine cn (fun _ c=>aX' aG' sz3 z z k)<|cn (fun _ c=>e' 2 sc3 z z (bA' _ _ _ k))<|cn (fun _ c=>f' z) ?_
    obtain⟨m,hr⟩:=hr
    refine cn (fun _ c=>aX' aG' sz3 z z m)<|cn (fun _ c=>e' 3 sc3 z z (bA' _ _ _ m))<|Y' o<|yy (V' z z) z<|u'<|am'<|b'<|I' hr z (fun u hr=>?_) (fun u hr=>?_)
    ·refine sr<|sg z z<|nx<|j' ?_
     replace hr:_=r:=hr
     refine g'<|x'<|g'<|g'<|x'<|aH'<|g' ?_
     subst hr
     exact k' z z z
    ·refine n'<|b'<|h'<|Z' [false,false,false,false,false,false] mix (by kernel_rfl) fun o=>cn (fun _ c=>f' z) ?_
     obtain⟨l,hr⟩:=hr
     refine cn (fun _ c=>aX' aG' sz3 z z l)<|cn (fun _ c=>e' 2 sc3 z z (bA' _ _ _ l))<|cn (fun _ c=>f' z) ?_
     obtain⟨n,hr⟩:=hr
     refine cn (fun _ c=>aX' aG' sz3 z z n)<|cn (fun _ c=>e' 3 sc3 z z (bA' _ _ _ n))<|Y' o<|yy (bt' z z) z<|u'<|am'<|b'<|I' hr z (fun t hr=>?_) (fun t hr=>?_)
     ·refine sr<|sg z z<|nx<|j' ?_
      replace hr:_=r:=hr
      refine x'<|g'<|g'<|x'<|aH'<|g' ?_
      subst hr
      exact k' z z z
     ·refine n'<|D'<|b'<|w'<|mv z z<|yy (N' z z) z<|sg z z<|u'<|O' ⟨IntKind.i64.wrap (f+1),d⟩ hr h (fc z (fc z (fc z fn))) (wk (lc z (lc z ln)))
   ·refine ae'<|m'<|m'<|J'<|af' d ⟨h,hr⟩ fn (wk ln)
 ·rintro e ⟨y,hr⟩
  refine b'<|sr<|sg z z<|nx<|j' ?_
  obtain rfl:_=r:=hr
  exact k' z z z
theorem gW'{a1 b1 a1magp a1magc b1magp b1magc r}(hr:(Zho a1 b1).Ret r):Ctr Tryz.prog 131 #[.agg ((v58' a1 a1magp a1magc)).toArray,.agg ((v58' b1 b1magp b1magc)).toArray] (fun G=>sl (Rp.int .u32) G a1magp a1magc a1.mag∧sl (Rp.int .u32) G b1magp b1magc b1.mag) (fun G v=>∃ s x,v = .agg ((v58' r s x)).toArray∧sl (Rp.int .u32) G s x r.mag):=by
 refine C' (args:=[_,_]) (N:=40) Tryz.func131 z z z (fun w0 G0 aB S=>?_)
 obtain⟨n,m⟩:=S
 refine sr<|W' 2 z z z fun b2=>W' 3 z z z fun b3=>U' 4 z z58 z fun b4=>nx<|h'<|sr<|yy (bp' z) z<|yy (e' 2 sc4 z z z) z<|yy (bp' z) z<|yy (e' 3 sc4 z z z) z<|yy (Y0.eqlB bK' z z) z<|nx<|I' hr z (fun ac hr=>?_) (fun ac hr=>?_)
 ·refine h'<|Z' [false,false,false,false,false,false,false] mix (by kernel_rfl) fun hb=>cn (fun _ c=>bp' z)<|cn (fun _ c=>e' 2 sc4 z z z)<|cn (fun _ c=>aP' z)<|cn (fun _ c=>e' 2 bJ' z z z)<|cn (fun _ c=>aP' z)<|cn (fun _ c=>e' 3 bJ' z z z) ?_
  obtain⟨y,K,hr⟩:=hr
  refine ay' (post:=fun G v=>∃ l k,v = .slice l y.length k∧sl (Rp.int .u32) G l k y) (fun _=>z) (fun _ _=>t' E166 z) (gH' K) z (fun Z c=>⟨(n.mono c),(m.mono c)⟩) (fun v G1 G2 c h=>?_) ?_
  ·obtain⟨l,k,rfl,o⟩:=h
   exact⟨_,_,z,o.mono c⟩
  refine bO' (d:=16) (post:=fun G v=>∃ l k,v = .slice l y.length k∧sl (Rp.int .u32) G l k y) (fun ao aw ah A=>?_)
  obtain⟨l,k,rfl,o⟩:=A
  obtain⟨aD,P,hr⟩:=hr
  refine M' z z (t' E127 z) (cC' P) z (o) (fun am ar ag J=>?_)
  obtain⟨W,T,rfl,I⟩:=J
  refine v' 4 z sz58 z z z z z (List.all_eq_true.1 z)<|u'<|am'<|b'<|j' ?_
  replace hr:_=r:=hr
  refine g' ?_
  subst hr
  exact k' z (ad' (i:=4) bl' z z z) ⟨_,_,z,I⟩
 ·refine n'<|b'<|h'<|sr<|yy (aP' z) z<|yy (e' 2 bJ' z z z) z<|yy (aP' z) z<|yy (e' 3 bJ' z z z) z ?_
  obtain⟨aA,O,hr⟩:=hr
  refine H' z z (t' E167 z) (cS' O) z (⟨n,m⟩)<|yy (V' z z) z<|nx<|I' hr z (fun ae hr=>?_) (fun ae hr=>?_)
  ·refine h'<|Z' [false,false,false,false,false,false,false] mix (by kernel_rfl) fun hb=>cn (fun _ c=>bp' z)<|cn (fun _ c=>e' 3 sc4 z z z)<|cn (fun _ c=>aP' z)<|cn (fun _ c=>e' 3 bJ' z z z)<|cn (fun _ c=>aP' z)<|cn (fun _ c=>e' 2 bJ' z z z) ?_
   obtain⟨u,M,hr⟩:=hr
   refine ay' (post:=fun G v=>∃ f j,v = .slice f u.length j∧sl (Rp.int .u32) G f j u) (fun _=>z) (fun _ _=>t' E168 z) (fB' M) z (fun Z c=>⟨(m.mono c),(n.mono c)⟩) (fun v G1 G2 c h=>?_) ?_
   ·obtain⟨f,j,rfl,q⟩:=h
    exact⟨_,_,z,q.mono c⟩
   refine bO' (d:=30) (post:=fun G v=>∃ f j,v = .slice f u.length j∧sl (Rp.int .u32) G f j u) (fun an ax ak D=>?_)
   obtain⟨f,j,rfl,q⟩:=D
   obtain⟨au,L,hr⟩:=hr
   refine M' z z (t' E127 z) (cC' L) z (q) (fun ap az aj E=>?_)
   obtain⟨U,Y,rfl,C⟩:=E
   refine v' 4 z sz58 z z z z z (List.all_eq_true.1 z)<|u'<|am'<|b'<|j' ?_
   replace hr:_=r:=hr
   refine g' ?_
   subst hr
   exact k' z (ad' (i:=4) bl' z z z) ⟨_,_,z,C⟩
  ·refine n'<|b'<|h'<|Z' [false,false,false,false,false,false,false] mix (by kernel_rfl) fun hb=>cn (fun _ c=>bp' z)<|cn (fun _ c=>e' 2 sc4 z z z)<|cn (fun _ c=>aP' z)<|cn (fun _ c=>e' 2 bJ' z z z)<|cn (fun _ c=>aP' z)<|cn (fun _ c=>e' 3 bJ' z z z) ?_
   obtain⟨t,R,hr⟩:=hr
   refine ay' (post:=fun G v=>∃ e g,v = .slice e t.length g∧sl (Rp.int .u32) G e g t) (fun _=>z) (fun _ _=>t' E168 z) (fB' R) z (fun Z c=>⟨(n.mono c),(m.mono c)⟩) (fun v G1 G2 c h=>?_) ?_
   ·obtain⟨e,g,rfl,p⟩:=h
    exact⟨_,_,z,p.mono c⟩
   refine bO' (d:=38) (post:=fun G v=>∃ e g,v = .slice e t.length g∧sl (Rp.int .u32) G e g t) (fun al av af H=>?_)
   obtain⟨e,g,rfl,p⟩:=H
   obtain⟨ay,Q,hr⟩:=hr
   refine M' z z (t' E127 z) (cC' Q) z (p) (fun aq aC ai B=>?_)
   obtain⟨X,V,rfl,F⟩:=B
   refine v' 4 z sz58 z z z z z (List.all_eq_true.1 z)<|u'<|am'<|b'<|j' ?_
   obtain rfl:_=r:=hr
   exact k' z (ad' (i:=4) bl' z z z) ⟨_,_,z,F⟩
theorem gn'{a1 b1 a1nummagp a1nummagc a1denmagp a1denmagc b1nummagp b1nummagc b1denmagp b1denmagc r}(hr:(Zd5 a1 b1).Ret r):Ctr Tryz.prog 86 #[.agg ([.bool a1.num.neg,.slice a1nummagp a1.num.mag.length a1nummagc,.bool a1.den.neg,.slice a1denmagp a1.den.mag.length a1denmagc]).toArray,.agg ([.bool b1.num.neg,.slice b1nummagp b1.num.mag.length b1nummagc,.bool b1.den.neg,.slice b1denmagp b1.den.mag.length b1denmagc]).toArray] (fun G=>sl (Rp.int .u32) G a1nummagp a1nummagc a1.num.mag∧sl (Rp.int .u32) G a1denmagp a1denmagc a1.den.mag∧sl (Rp.int .u32) G b1nummagp b1nummagc b1.num.mag∧sl (Rp.int .u32) G b1denmagp b1denmagc b1.den.mag) (fun G v=>∃ t A y x,v = .agg ([.bool r.num.neg,.slice t r.num.mag.length A,.bool r.den.neg,.slice y r.den.mag.length x]).toArray∧sl (Rp.int .u32) G t A r.num.mag∧sl (Rp.int .u32) G y x r.den.mag):=by
 refine C' (args:=[_,_]) (N:=22) Tryz.func86 z z z (fun w0 G0 ax ab=>?_)
 obtain⟨F,s,H,q⟩:=ab
 refine sr<|W' 2 z z z fun b2=>W' 3 z z z fun b3=>U' 4 z z60 z fun b4=>nx<|h'<|Z' [false,false,false,false,false,false,false,false,false,false,false,false,false,false,false] mix (by kernel_rfl) fun hb=>cn (fun _ k=>cp' z)<|cn (fun _ k=>av' ((v58' a1.num a1nummagp a1nummagc)).toArray 2 bl' z z z (aN' ([]) ((v58' a1.num a1nummagp a1nummagc)) ((v58' a1.den a1denmagp a1denmagc))))<|cn (fun _ k=>ce' z)<|cn (fun _ k=>av' ((v58' b1.den b1denmagp b1denmagc)).toArray 3 bl' z z z (aN' ((v58' b1.num b1nummagp b1nummagc)) ((v58' b1.den b1denmagp b1denmagc)) ([]))) ?_
 obtain⟨B,aa,hr⟩:=hr
 refine ay' (post:=fun G v=>∃ j g,v = .agg ((v58' B j g)).toArray∧sl (Rp.int .u32) G j g B.mag) (fun _=>z) (fun _ _=>t' E130 z) (en' aa) z (fun U k=>⟨(F.mono k),(q.mono k)⟩) (fun v G1 G2 k h=>?_) ?_
 ·obtain⟨j,g,rfl,n⟩:=h
  exact⟨_,_,z,n.mono k⟩
 refine cu (fun _ _ k=>cp' z)<|cu (fun _ _ k=>av' ((v58' b1.num b1nummagp b1nummagc)).toArray 3 bl' z z z (aN' ([]) ((v58' b1.num b1nummagp b1nummagc)) ((v58' b1.den b1denmagp b1denmagc))))<|cu (fun _ _ k=>ce' z)<|cu (fun _ _ k=>av' ((v58' a1.den a1denmagp a1denmagc)).toArray 2 bl' z z z (aN' ((v58' a1.num a1nummagp a1nummagc)) ((v58' a1.den a1denmagp a1denmagc)) ([]))) ?_
 obtain⟨C,ad,hr⟩:=hr
 refine ay' (post:=fun G v=>∃ e c,v = .agg ((v58' C e c)).toArray∧sl (Rp.int .u32) G e c C.mag) (fun _=>z) (fun _ _=>t' E130 z) (en' ad) z (fun U k=>⟨(H.mono k),(s.mono k)⟩) (fun v G1 G2 k h=>?_) ?_
 ·obtain⟨e,c,rfl,o⟩:=h
  exact⟨_,_,z,o.mono k⟩
 obtain⟨J,ac,hr⟩:=hr
 refine cU' (f:=131) (φ:=fun G v=>∃ m l,v = .agg ((v58' J m l)).toArray∧sl (Rp.int .u32) G m l J.mag) (fun _=>z) (fun v G1 G2 k h=>?_) (fun u U k hu=>?_) ?_
 ·obtain⟨m,l,rfl,p⟩:=h
  exact⟨_,_,z,p.mono k⟩
 ·obtain⟨⟨e,c,R,o⟩,⟨j,g,V,n⟩,_⟩:=(show (fun G v=>∃ e c,v = .agg ((v58' C e c)).toArray∧sl (Rp.int .u32) G e c C.mag) U.m (u 14)∧(fun G v=>∃ j g,v = .agg ((v58' B j g)).toArray∧sl (Rp.int .u32) G j g B.mag) U.m (u 9)∧True from hu)
  exact⟨_,_,_,fun _=>t' E131 z,gW' ac,(by simp only[R,V] <;> rfl),⟨n,o⟩⟩
 refine cu (fun _ _ k=>ce' z)<|cu (fun _ _ k=>av' ((v58' a1.den a1denmagp a1denmagc)).toArray 2 bl' z z z (aN' ((v58' a1.num a1nummagp a1nummagc)) ((v58' a1.den a1denmagp a1denmagc)) ([])))<|cu (fun _ _ k=>ce' z)<|cu (fun _ _ k=>av' ((v58' b1.den b1denmagp b1denmagc)).toArray 3 bl' z z z (aN' ((v58' b1.num b1nummagp b1nummagc)) ((v58' b1.den b1denmagp b1denmagc)) ([])))<|Chain.tailU3 (d:=15) (post:=fun G v=>∃ m l,v = .agg ((v58' J m l)).toArray∧sl (Rp.int .u32) G m l J.mag) (d':=14) (post':=fun G v=>∃ e c,v = .agg ((v58' C e c)).toArray∧sl (Rp.int .u32) G e c C.mag) (d'':=9) (post'':=fun G v=>∃ j g,v = .agg ((v58' B j g)).toArray∧sl (Rp.int .u32) G j g B.mag) (fun ap al am ar I M P K=>?_)
 obtain⟨m,l,rfl,p⟩:=M
 obtain⟨e,c,rfl,o⟩:=P
 obtain⟨j,g,rfl,n⟩:=K
 obtain⟨aw,Z,hr⟩:=hr
 refine M' z z (t' E130 z) (en' Z) z (⟨(s.mono I),(q.mono I)⟩) (fun ao aq Y Q=>?_)
 obtain⟨ag,af,rfl,O⟩:=Q
 obtain⟨av,ae,hr⟩:=hr
 refine M' z z (t' E129 z) (fh' ae) z (⟨(p.mono Y),O⟩) (fun an au aj L=>?_)
 obtain⟨W,S,T,X,rfl,E,D⟩:=L
 refine v' 4 z sz60 z z z z z (List.all_eq_true.1 z)<|u'<|am'<|b'<|j' ?_
 obtain rfl:_=r:=hr
 exact k' z (ad' (i:=4) bS' z z z) ⟨_,_,_,_,z,E,D⟩
theorem eG'{a0_1 a1_1 a0_1p a0_1c a1_1p a1_1c r}(hr:(ZcX a0_1 a1_1).Ret r):Ctr Tryz.prog 57 #[.slice a0_1p a0_1.length a0_1c,.slice a1_1p a1_1.length a1_1c] (fun G=>sl r' G a0_1p a0_1c a0_1∧sl r' G a1_1p a1_1c a1_1) (fun G v=>∃ zp zc,v = .slice zp r.length zc∧sl r' G zp zc r):=by
 refine C' (args:=[_,_]) (N:=109) Tryz.func57 z z z (fun w0 G0 ao bu=>?_)
 obtain⟨t,K⟩:=bu
 refine sr<|sg z z<|nr<|aU' (e:=101) (r:=r') (vs:=#[]) (cs:=[]) ([]:List Zc) z z z z z (by decide) (fun _=>by kernel_rfl) (z) (key:=999) z (by rw[ao]; rfl) fun p1 aS m bT=>sg z z<|nr<|sg z z<|sg z z<|nx<|h'<|ab' (fun (⟨W,ac,af,ab,au⟩:(List Zc)×Option Addr×Nat×Option Ow×Mem)=>[(5,.slice ac W.length af)]) (fun ⟨W,ac,af,ab,au⟩=>Mem.le aS au∧sl r' au ac af W∧Tok 12 101 (.slice ac W.length af) W.length ab∧(ZfX W).Ret r) (fun ⟨W,ac,af,ab,au⟩=>St w0 G0 au [(1005,ab)]) ?_ ?_
 ·refine A' ?_
  let aj:(List Zc)→Prop:=fun oo=>((fun ov=>match ov with|W=>ZfX W:(List Zc)→Comp (List Zc)) oo).wp (fun a=>a=r)
  replace hr:(Comp.loop _ _).wp aj:=hr
  refine ac' (Φ:=aj) (fun (⟨D,F,H,E,M,p,aa⟩:(List Zc)×Option Addr×Nat×Option Ow×Int×Int×Mem)=>((D,M,p):(List Zc)×Int×Int)) (fun ⟨D,F,H,E,M,p,aa⟩=>[(0,.slice a0_1p a0_1.length a0_1c),(1,.slice a1_1p a1_1.length a1_1c),(5,.slice F D.length H),(6,i' M),(7,i' p)]) (fun ⟨D,F,H,E,M,p,aa⟩=>Mem.le aS aa∧sl r' aa F H D∧Tok 12 101 (.slice F D.length H) D.length E) (fun ⟨D,F,H,E,M,p,aa⟩=>St w0 G0 aa [(1005,E)]) ⟨[],p1,0,none,0,0,aS⟩ hr (fc z (fc z (fc z (fc z (fc z fn))))) ⟨mr,bT,ef'⟩ (wk (lw ln)) ?_
  ·intro aK gx hx hr
   obtain⟨D,F,H,E,M,p,aa⟩:=gx
   obtain⟨d,av,an⟩:=hx
   refine aV' (fun (gx:Mem)=>match gx with|ah=>[(0,.slice a0_1p a0_1.length a0_1c),(1,.slice a1_1p a1_1.length a1_1c),(5,.slice F D.length H),(6,i' M),(7,i' p)]) (fun (gx:Mem)=>match gx with|ah=>Mem.le aa ah∧(Zbf a0_1 a1_1 D M p).wp (Out aK aj)) (fun (gx:Mem)=>match gx with|ah=>St w0 G0 ah [(1005,E)]) ?_ ?_
   ·skip
    refine sr<|mv z z<|mv z z<|yy (L' R' (t.mono (mt m d)) z) z<|aj' hr z (V' z z) z (fun bE hr=>?_) (fun bE hr=>?_)
    ·refine mv z z<|sf z z z<|sf z z z<|sf z z z<|sf z z z<|yy (o' z z) z<|nx<|at' z<|n'<|ar' aa ⟨mr,hr⟩ (fc z (fc z (fc z (fc z (fc z fn))))) (wk (lc z ln))
    ·refine mv z z<|gy z z (f' z) z<|gy z z (f' z) z<|gy z z (L' R' (K.mono (mt m d)) z) z<|gy z z (V' z z) z<|yy (l' z z) z<|nx<|I' hr z (fun bI hr=>?_) (fun bI hr=>?_)
     ·refine n'<|ar' aa ⟨mr,hr⟩ (fc z (fc z (fc z (fc z (fc z fn))))) (wk (lc z ln))
     ·refine ae'<|m'<|m'<|J'<|af' ⟨D,F,H,E,aa⟩ ⟨d,av,an,hr⟩ (fc z fn) (wk (lc z ln))
   ·rintro ah ⟨f,hr⟩
    refine A'<|aV' (fun (⟨L,S,U,R,O,ag⟩:(List Zc)×Option Addr×Nat×Option Ow×Int×Mem)=>[(0,.slice a0_1p a0_1.length a0_1c),(1,.slice a1_1p a1_1.length a1_1c),(5,.slice S L.length U),(6,i' O),(7,i' p)]) (fun ⟨L,S,U,R,O,ag⟩=>Mem.le ah ag∧sl r' ag S U L∧Tok 12 101 (.slice S L.length U) L.length R∧(Zcr a0_1 a1_1 p L O).wp (Out aK aj)) (fun ⟨L,S,U,R,O,ag⟩=>St w0 G0 ag [(1005,R)]) ?_ ?_
    ·skip
     refine aV' (fun (⟨al,aq⟩:Bool×Mem)=>[(0,.slice a0_1p a0_1.length a0_1c),(1,.slice a1_1p a1_1.length a1_1c),(5,.slice F D.length H),(6,i' M),(7,i' p),(43,.bool al)]) (fun ⟨al,aq⟩=>Mem.le ah aq∧(ZaO a0_1 a1_1 D M p al).wp (Out aK aj)) (fun ⟨al,aq⟩=>St w0 G0 aq [(1005,E)]) ?_ ?_
     ·skip
      refine Z' [false,false,false,false,false,false,false,false,false,false,false,false,false,false,false,false,false,false,false,false] mix (by kernel_rfl) fun hb=>cn (fun _ c=>f' z)<|cn (fun _ c=>f' z)<|cn (fun _ c=>L' R' ((K.mono (mt (mt m d) f)).mono c) z)<|bY' hr z (fun _ c=>ak' z z) (fun bx hr=>?_) (fun bx hr=>?_)
      ·refine cn (fun _ c=>f' z)<|cf z z<|cf z z<|cf z z<|cf z z<|cf z z<|cs z z<|cs z z<|cs z z<|cs z z<|cs z z<|cs z z<|cs z z<|cs z z<|cs z z<|cs z z<|Y' hb<|aF' (ai' z z) z<|aF' (ai' z z) z<|sf z z z<|yy (o' z z) z<|u'<|am'<|ar' ⟨true,ah⟩ ⟨mr,hr⟩ (fc z (fc z (fc z (fc z (fc z (fc z fn)))))) (wk (lc z ln))
      ·refine cn (fun _ c=>f' z)<|cy z z (fun _ c=>f' z)<|cy z z (fun _ c=>f' z)<|cy z z (fun _ c=>L' R' ((t.mono (mt (mt m d) f)).mono c) z)<|bY' hr (F' z z) (fun _ c=>V' z z) (fun bO hr=>?_) (fun bO hr=>?_)
       ·refine cy z z (fun _ c=>f' z)<|cy z z (fun _ c=>f' z)<|cy z z (fun _ c=>f' z) ?_
        obtain⟨x8,aZ,hr⟩:=hr
        refine cy z z (fun _ c=>P' R' bC' ((t.mono (mt (mt m d) f)).mono c) z z aZ)<|cy z z (fun _ c=>bn' z)<|cy z z (fun _ c=>ax' _ ca' z (Q' _ _ _) (cZ' (E' (E' (aJ' (aA' (X' t aZ))) (mt (mt m d) f)) c)))<|cy z z (fun _ c=>f' z)<|cy z z (fun _ c=>f' z) ?_
        obtain⟨x9,bc,hr⟩:=hr
        refine cy z z (fun _ c=>P' R' bC' ((K.mono (mt (mt m d) f)).mono c) z z bc)<|cy z z (fun _ c=>bn' z)<|cy z z (fun _ c=>ax' _ ca' z (Q' _ _ _) (cZ' (E' (E' (aJ' (aA' (X' K bc))) (mt (mt m d) f)) c)))<|Y' hb ?_
        obtain⟨bG,bk,hr⟩:=hr
        refine H' (F' z z) z (t' E90 z) (fj' bk) z (trivial)<|gy z z (bt' z z) z<|gy z z (o' z z) z<|yy (l' z z) z<|u'<|am'<|ar' ⟨decide (0<bG),ah⟩ ⟨mr,hr⟩ (fc z (fc z (fc z (fc z (fc z (fc z fn)))))) (wk (lc z ln))
       ·refine cy z z (fun _ c=>f' z)<|ct z z<|ct z z<|ct z z<|ct z z<|ct z z<|ct z z<|ct z z<|ct z z<|ct z z<|ct z z<|Y' hb<|sk z z z<|sk z z z<|gy z z (l' z z) z<|yy (l' z z) z<|u'<|am'<|ar' ⟨false,ah⟩ ⟨mr,hr⟩ (fc z (fc z (fc z (fc z (fc z (fc z fn)))))) (wk (lc z ln))
     ·rintro⟨al,aq⟩ ⟨ae,hr⟩
      refine aM' hr z (fun bV hr=>?_) (fun bV hr=>?_)
      ·refine sr<|mv z z<|mv z z<|mv z z ?_
       obtain⟨I,a4,hr⟩:=hr
       refine yy (P' R' bC' (t.mono (mt (mt (mt m d) f) ae)) z z a4) z ?_
       obtain⟨q,u,B,x,bP,ay,aA⟩:=cF' (E' (X' t a4) (mt (mt (mt m d) f) ae))
       refine yy (ax' _ ag101 z z bP) z<|aU' (e:=101) (r:=r') (vs:=#[(0,.agg (([.bool I.c.num.neg,.slice q I.c.num.mag.length u,.bool I.c.den.neg,.slice B I.c.den.mag.length x]:List Value)++(vecG (Value.int .i64) 8 I.m)).toArray)]) (cs:=(([.bool I.c.num.neg,.slice q I.c.num.mag.length u,.bool I.c.den.neg,.slice B I.c.den.mag.length x]:List Value)++(vecG (Value.int .i64) 8 I.m))++([])) ([I]:List Zc) z z z z z (by decide) (fun _=>by kernel_rfl) ⟨([.bool I.c.num.neg,.slice q I.c.num.mag.length u,.bool I.c.den.neg,.slice B I.c.den.mag.length x]:List Value)++(vecG (Value.int .i64) 8 I.m),[],z,⟨[.bool I.c.num.neg,.slice q I.c.num.mag.length u,.bool I.c.den.neg,.slice B I.c.den.mag.length x],vecG (Value.int .i64) 8 I.m,z,⟨(v58' I.c.num q u),(v58' I.c.den B x),z,⟨[.bool I.c.num.neg],[.slice q I.c.num.mag.length u],z,z,⟨_,z,ay⟩⟩,⟨[.bool I.c.den.neg],[.slice B I.c.den.mag.length x],z,z,⟨_,z,aA⟩⟩⟩,z⟩,z⟩ (key:=999) z (by rw[ao]; rfl) (fun p6 ce aN bS=>?_)
       obtain⟨bg,hr⟩:=hr
       refine cE' (r:=r') 1005 z z R' el101 z (by decide) z z (av.mono (mt (mt f ae) aN)) z (by rw[ao]; rfl) an bS bg fun p7 bJ br bw aX bD bn=>sg z z<|nr<|mv z z<|yy (N' z z) z<|sg z z<|nx<|ae'<|m'<|J'<|O' ⟨(D++[I]),p7,bJ,br,IntKind.i64.wrap (M+1),p,bw⟩ hr ⟨(mt (mt (mt (mt d f) ae) aN) aX),bD,bn⟩ (fc z (fc z (fc z (fc z (fc z fn))))) (wk (lc z ln))
      ·refine n'<|ar' ⟨D,F,H,E,M,aq⟩ ⟨ae,(av.mono (mt f ae)),an,hr⟩ (fc z (fc z (fc z (fc z (fc z fn))))) (wk (lc z ln))
    ·rintro⟨L,S,U,R,O,ag⟩ ⟨o,aM,aC,hr⟩
     refine aV' (fun (⟨V,Z,Y,X,ai,ar⟩:(List Zc)×Option Addr×Nat×Option Ow×Int×Mem)=>[(0,.slice a0_1p a0_1.length a0_1c),(1,.slice a1_1p a1_1.length a1_1c),(5,.slice Z V.length Y),(6,i' O),(7,i' ai)]) (fun ⟨V,Z,Y,X,ai,ar⟩=>Mem.le ag ar∧sl r' ar Z Y V∧Tok 12 101 (.slice Z V.length Y) V.length X∧(ZfY a0_1 a1_1 O V ai).wp (Out aK aj)) (fun ⟨V,Z,Y,X,ai,ar⟩=>St w0 G0 ar [(1005,X)]) ?_ ?_
     ·skip
      refine aV' (fun (⟨ak,ap⟩:Bool×Mem)=>[(0,.slice a0_1p a0_1.length a0_1c),(1,.slice a1_1p a1_1.length a1_1c),(5,.slice S L.length U),(6,i' O),(7,i' p),(70,.bool ak)]) (fun ⟨ak,ap⟩=>Mem.le ag ap∧(Zcq a0_1 a1_1 p L O ak).wp (Out aK aj)) (fun ⟨ak,ap⟩=>St w0 G0 ap [(1005,R)]) ?_ ?_
      ·skip
       refine Z' [false,false,false,false,false,false,false,false,false,false,false,false,false,false,false] mix (by kernel_rfl) fun hb=>cn (fun _ c=>f' z)<|cn (fun _ c=>f' z)<|cn (fun _ c=>L' R' ((t.mono (mt (mt (mt m d) f) o)).mono c) z)<|bY' hr z (fun _ c=>ak' z z) (fun bC hr=>?_) (fun bC hr=>?_)
       ·refine cn (fun _ c=>f' z)<|cf z z<|cf z z<|cf z z<|cf z z<|cf z z<|cf z z<|cf z z<|cf z z<|cf z z<|cf z z<|Y' hb<|sf z z z<|sf z z z<|yy (o' z z) z<|u'<|am'<|ar' ⟨true,ag⟩ ⟨mr,hr⟩ (fc z (fc z (fc z (fc z (fc z (fc z fn)))))) (wk (lc z ln))
       ·refine cn (fun _ c=>f' z)<|cy z z (fun _ c=>f' z)<|cy z z (fun _ c=>f' z) ?_
        obtain⟨x5,bd,hr⟩:=hr
        refine cy z z (fun _ c=>P' R' bC' ((t.mono (mt (mt (mt m d) f) o)).mono c) z z bd)<|cy z z (fun _ c=>bn' z)<|cy z z (fun _ c=>ax' _ ca' z (Q' _ _ _) (cZ' (E' (E' (aJ' (aA' (X' t bd))) (mt (mt (mt m d) f) o)) c)))<|cy z z (fun _ c=>f' z)<|cy z z (fun _ c=>f' z) ?_
        obtain⟨x6,a8,hr⟩:=hr
        refine cy z z (fun _ c=>P' R' bC' ((K.mono (mt (mt (mt m d) f) o)).mono c) z z a8)<|cy z z (fun _ c=>bn' z)<|cy z z (fun _ c=>ax' _ ca' z (Q' _ _ _) (cZ' (E' (E' (aJ' (aA' (X' K a8))) (mt (mt (mt m d) f) o)) c)))<|Y' hb ?_
        obtain⟨bX,bl,hr⟩:=hr
        refine H' (F' z z) z (t' E90 z) (fj' bl) z (trivial)<|gy z z (V' z z) z<|yy (l' z z) z<|u'<|am'<|ar' ⟨decide (bX<0),ag⟩ ⟨mr,hr⟩ (fc z (fc z (fc z (fc z (fc z (fc z fn)))))) (wk (lc z ln))
      ·rintro⟨ak,ap⟩ ⟨ad,hr⟩
       refine aM' hr z (fun bN hr=>?_) (fun bN hr=>?_)
       ·refine sr<|mv z z<|mv z z<|mv z z ?_
        obtain⟨J,a6,hr⟩:=hr
        refine yy (P' R' bC' (K.mono (mt (mt (mt (mt m d) f) o) ad)) z z a6) z ?_
        obtain⟨s,y,C,A,bW,az,ax⟩:=cF' (E' (X' K a6) (mt (mt (mt (mt m d) f) o) ad))
        refine yy (ax' _ ag101 z z bW) z<|aU' (e:=101) (r:=r') (vs:=#[(0,.agg (([.bool J.c.num.neg,.slice s J.c.num.mag.length y,.bool J.c.den.neg,.slice C J.c.den.mag.length A]:List Value)++(vecG (Value.int .i64) 8 J.m)).toArray)]) (cs:=(([.bool J.c.num.neg,.slice s J.c.num.mag.length y,.bool J.c.den.neg,.slice C J.c.den.mag.length A]:List Value)++(vecG (Value.int .i64) 8 J.m))++([])) ([J]:List Zc) z z z z z (by decide) (fun _=>by kernel_rfl) ⟨([.bool J.c.num.neg,.slice s J.c.num.mag.length y,.bool J.c.den.neg,.slice C J.c.den.mag.length A]:List Value)++(vecG (Value.int .i64) 8 J.m),[],z,⟨[.bool J.c.num.neg,.slice s J.c.num.mag.length y,.bool J.c.den.neg,.slice C J.c.den.mag.length A],vecG (Value.int .i64) 8 J.m,z,⟨(v58' J.c.num s y),(v58' J.c.den C A),z,⟨[.bool J.c.num.neg],[.slice s J.c.num.mag.length y],z,z,⟨_,z,az⟩⟩,⟨[.bool J.c.den.neg],[.slice C J.c.den.mag.length A],z,z,⟨_,z,ax⟩⟩⟩,z⟩,z⟩ (key:=999) z (by rw[ao]; rfl) (fun p4 cd aQ bz=>?_)
        obtain⟨bh,hr⟩:=hr
        refine cE' (r:=r') 1005 z z R' el101 z (by decide) z z (aM.mono (mt ad aQ)) z (by rw[ao]; rfl) aC bz bh fun p5 bR bt bF aU bY bi=>sg z z<|nr<|mv z z<|yy (N' z z) z<|sg z z<|nx<|ae'<|m'<|J'<|O' ⟨(L++[J]),p5,bR,bt,O,IntKind.i64.wrap (p+1),bF⟩ hr ⟨(mt (mt (mt (mt (mt d f) o) ad) aQ) aU),bY,bi⟩ (fc z (fc z (fc z (fc z (fc z fn))))) (wk (lc z ln))
       ·refine n'<|ar' ⟨L,S,U,R,p,ap⟩ ⟨ad,(aM.mono ad),aC,hr⟩ (fc z (fc z (fc z (fc z (fc z fn))))) (wk (lc z ln))
     ·rintro⟨V,Z,Y,X,ai,ar⟩ ⟨T,aO,aD,hr⟩
      refine h'<|Z' [false,false,false,false,false,false,false,false,false,false,false,false] mix (by kernel_rfl) fun hb=>cn (fun _ c=>f' z)<|cn (fun _ c=>f' z) ?_
      obtain⟨x1,a9,hr⟩:=hr
      refine cn (fun _ c=>P' R' bC' ((t.mono (mt (mt (mt (mt m d) f) o) T)).mono c) z z a9)<|cn (fun _ c=>cg' z) ?_
      obtain⟨a3,a2,a0,be,bA,aH,aF⟩:=db' (E' (bb' (aA' (X' t a9))) (mt (mt (mt (mt m d) f) o) T))
      refine cn (fun _ c=>ax' _ bS' z z (fun j v hv=>c _ _ _ (bA j v hv)))<|cn (fun _ c=>f' z)<|cn (fun _ c=>f' z) ?_
      obtain⟨x2,ba,hr⟩:=hr
      refine cn (fun _ c=>P' R' bC' ((K.mono (mt (mt (mt (mt m d) f) o) T)).mono c) z z ba)<|cn (fun _ c=>cg' z) ?_
      obtain⟨a7,a5,a1,aY,bZ,aG,aI⟩:=db' (E' (bb' (aA' (X' K ba))) (mt (mt (mt (mt m d) f) o) T))
      refine cn (fun _ c=>ax' _ bS' z z (fun j v hv=>c _ _ _ (bZ j v hv))) ?_
      obtain⟨n,bf,hr⟩:=hr
      refine ay' (post:=fun G v=>∃ g i k l,v = .agg ([.bool n.num.neg,.slice g n.num.mag.length i,.bool n.den.neg,.slice k n.den.mag.length l]).toArray∧sl (Rp.int .u32) G g i n.num.mag∧sl (Rp.int .u32) G k l n.den.mag) (fun _=>z) (fun _ _=>t' E86 z) (gn' bf) z (fun G' c=>⟨(aH.mono c),(aF.mono c),(aG.mono c),(aI.mono c)⟩) (fun v G1 G2 c h=>?_) ?_
      ·obtain⟨g,i,k,l,rfl,P,Q⟩:=h
       exact⟨_,_,_,_,z,P.mono c,Q.mono c⟩
      refine bm' (fun _=>z) z60<|dx' (fun cc b8 X1 am aT aR=>?_)
      obtain⟨b1,rfl,bq⟩:=aT
      obtain⟨g,i,k,l,rfl,P,Q⟩:=aR
      refine ci' bq (bT' (show WL _ _ _ _ _ _ (St w0 G0 X1.m _) from ?_))
      refine v' 8 z sz60 z z z z z (List.all_eq_true.1 z)<|u'<|am'<|b'<|h'<|sr<|yy (s' 8 bS' z z z) z ?_
      obtain⟨cg,bm,hr⟩:=hr
      refine H' z z (t' E91 z) (eB' bm) z (⟨P,Q⟩)<|yy (aQ' z z) z<|nx<|I' hr z (fun bL hr=>?_) (fun bL hr=>?_)
      ·refine Z' [true,false,false,false,false,false,false] mix (by kernel_rfl) fun hb=>cO' z (f' z)<|cn (fun _ c=>s' 8 bS' z z z)<|cn (fun _ c=>f' z)<|cn (fun _ c=>f' z) ?_
       obtain⟨x3,bb,hr⟩:=hr
       refine cn (fun _ c=>P' R' bC' ((t.mono (mt (mt (mt (mt (mt m d) f) o) T) am)).mono c) z z bb)<|cn (fun _ c=>bn' z)<|cn (fun _ c=>ax' _ ca' z (Q' _ _ _) (cZ' (E' (E' (aJ' (aA' (X' t bb))) (mt (mt (mt (mt (mt m d) f) o) T) am)) c)))<|Y' hb<|yy (aq' (vs:=#[(0,.agg ([.bool n.num.neg,.slice g n.num.mag.length i,.bool n.den.neg,.slice k n.den.mag.length l]).toArray),(1,.agg (vecG (Value.int .i64) 8 x3.m).toArray)]) (v:=.agg (([.bool n.num.neg,.slice g n.num.mag.length i,.bool n.den.neg,.slice k n.den.mag.length l]:List Value)++(vecG (Value.int .i64) 8 x3.m)).toArray) z z (fun _=>by kernel_rfl)) z<|aU' (e:=101) (r:=r') (vs:=#[(0,.agg (([.bool n.num.neg,.slice g n.num.mag.length i,.bool n.den.neg,.slice k n.den.mag.length l]:List Value)++(vecG (Value.int .i64) 8 x3.m)).toArray)]) (cs:=(([.bool n.num.neg,.slice g n.num.mag.length i,.bool n.den.neg,.slice k n.den.mag.length l]:List Value)++(vecG (Value.int .i64) 8 x3.m))++([])) ([(Zc.mk n x3.m)]:List Zc) z z z z z (by decide) (fun _=>by kernel_rfl) ⟨([.bool n.num.neg,.slice g n.num.mag.length i,.bool n.den.neg,.slice k n.den.mag.length l]:List Value)++(vecG (Value.int .i64) 8 x3.m),[],z,⟨[.bool n.num.neg,.slice g n.num.mag.length i,.bool n.den.neg,.slice k n.den.mag.length l],vecG (Value.int .i64) 8 x3.m,z,⟨(v58' n.num g i),(v58' n.den k l),z,⟨[.bool n.num.neg],[.slice g n.num.mag.length i],z,z,⟨_,z,P⟩⟩,⟨[.bool n.den.neg],[.slice k n.den.mag.length l],z,z,⟨_,z,Q⟩⟩⟩,z⟩,z⟩ (key:=999) z (by rw[ao]; rfl) (fun p2 cb aP bH=>?_)
       obtain⟨bj,hr⟩:=hr
       refine cE' (r:=r') 1005 z z R' el101 z (by decide) z z (aO.mono (mt am aP)) z (by rw[ao]; rfl) aD bH bj fun p3 bB bp bM aW bv bo=>sg z z<|u'<|am'<|b'<|sr<|mv z z<|yy (N' z z) z<|sg z z<|nx<|w'<|mv z z<|yy (N' z z) z<|sg z z<|u'<|D'<|O' ⟨(V++[(Zc.mk n x3.m)]),p3,bB,bp,IntKind.i64.wrap (O+1),IntKind.i64.wrap (ai+1),bM⟩ hr ⟨(mt (mt (mt (mt (mt (mt d f) o) T) am) aP) aW),bv,bo⟩ (fc z (fc z (fc z (fc z (fc z fn))))) (wk (lc z ln))
      ·refine n'<|b'<|sr<|mv z z<|yy (N' z z) z<|sg z z<|nx<|w'<|mv z z<|yy (N' z z) z<|sg z z<|u'<|D'<|O' ⟨V,Z,Y,X,IntKind.i64.wrap (O+1),IntKind.i64.wrap (ai+1),X1.m⟩ hr ⟨(mt (mt (mt (mt d f) o) T) am),(aO.mono am),aD⟩ (fc z (fc z (fc z (fc z (fc z fn))))) (wk (lc z ln))
 ·rintro⟨W,ac,af,ab,au⟩ ⟨b2,aV,bQ,hr⟩
  refine b'<|sr<|mv z z<|sg z z<|nx<|j' ?_
  obtain rfl:_=r:=hr
  exact k' z z ⟨_,_,z,aV⟩
theorem gX'{p1 q1 p1p p1c q1p q1c r}(hr:(Zlp p1 q1).Ret r):Ctr Tryz.prog 59 #[.slice p1p p1.length p1c,.slice q1p q1.length q1c] (fun G=>sl r' G p1p p1c p1∧sl r' G q1p q1c q1) (fun G v=>∃ X Z,v = .tuple #[.slice X r.1.length Z,i' r.2]∧sl r' G X Z r.1):=by
 refine C' (args:=[_,_]) (N:=39) Tryz.func59 z z z (fun w0 G0 aC ao=>?_)
 obtain⟨I,az⟩:=ao
 refine sr<|sg z z<|sg z z<|nr<|aU' (e:=101) (r:=r') (vs:=#[]) (cs:=[]) ([]:List Zc) z z z z z (by decide) (fun _=>by kernel_rfl) (z) (key:=999) z (by rw[aC]; rfl) fun p2 W s au=>sg z z<|nx<|h'<|sr<|sg z z<|nx<|ab' (fun (⟨q,x,A,D⟩:(List Zc)×Option Addr×Nat×Mem)=>[(6,.slice x q.length A)]) (fun ⟨q,x,A,D⟩=>Mem.le W D∧sl r' D x A q∧(Zf1 q).Ret r) (fun ⟨q,x,A,D⟩=>St w0 G0 D []) ?_ ?_
 ·refine A' ?_
  let Y:(((List Zc)×Int)⊕(List Zc))→Prop:=fun oo=>((fun ov=>match ov with | .inl rv1=>Comp.ret rv1 | .inr q=>Zf1 q:(((List Zc)×Int)⊕(List Zc))→Comp ((List Zc)×Int)) oo).wp (fun a=>a=r)
  replace hr:(Comp.loop _ _).wp Y:=hr
  refine ac' (Φ:=Y) (fun (⟨p,n,o,K,B⟩:(List Zc)×Option Addr×Nat×Int×Mem)=>((p,K):(List Zc)×Int)) (fun ⟨p,n,o,K,B⟩=>[(0,.slice p1p p1.length p1c),(1,.slice q1p q1.length q1c),(6,.slice n p.length o),(7,i' K)]) (fun ⟨p,n,o,K,B⟩=>Mem.le W B∧sl r' B n o p) (fun ⟨p,n,o,K,B⟩=>St w0 G0 B []) ⟨[],p2,0,0,W⟩ hr (fc z (fc z (fc z (fc z fn)))) ⟨mr,au⟩ (wk ln) ?_
  ·intro aP gx hx hr
   obtain⟨p,n,o,K,B⟩:=gx
   obtain⟨m,M⟩:=hx
   refine h'<|sr<|mv z z<|mv z z<|yy (L' R' (I.mono (mt s m)) z) z<|yy (V' z z) z<|nx<|I' hr z (fun av hr=>?_) (fun av hr=>?_)
   ·refine n'<|b'<|h'<|A'<|h'<|Z' [false,false,false,false,false,false,false,false,false,false,false,false,false,false,true] mix (by kernel_rfl) fun hb=>cn (fun _ f=>f' z)<|cn (fun _ f=>f' z) ?_
    obtain⟨x1,ah,hr⟩:=hr
    refine cn (fun _ f=>P' R' bC' ((I.mono (mt s m)).mono f) z z ah)<|cn (fun _ f=>cg' z) ?_
    obtain⟨ag,af,ae,ad,aB,H,J⟩:=db' (E' (bb' (aA' (X' I ah))) (mt s m))
    refine cn (fun _ f=>ax' _ bS' z z (fun j v hv=>f _ _ _ (aB j v hv)))<|cn (fun _ f=>f' z)<|cn (fun _ f=>f' z) ?_
    obtain⟨x2,ai,hr⟩:=hr
    refine cn (fun _ f=>P' R' bC' ((I.mono (mt s m)).mono f) z z ai)<|cn (fun _ f=>bn' z)<|cn (fun _ f=>ax' _ ca' z (Q' _ _ _) (cZ' (E' (E' (aJ' (aA' (X' I ai))) (mt s m)) f)))<|cn (fun _ f=>f' z) ?_
    obtain⟨g,aj,hr⟩:=hr
    refine ay' (post:=fun G v=>∃ k i,v = .tuple #[.slice k g.1.length i,i' g.2]∧sl r' G k i g.1) (fun _=>z) (fun _ _=>t' E92 z) (fD' aj) z (fun Q f=>⟨(H.mono f),(J.mono f),((az.mono (mt s m)).mono f)⟩) (fun v G1 G2 f h=>?_) ?_
    ·obtain⟨k,i,rfl,y⟩:=h
     exact⟨_,_,z,y.mono f⟩
    refine bj' (φ:=fun G v=>∃ t l,v = .tuple #[.slice t g.1.length l,i' g.2]∧sl r' G t l g.1) (fun _=>z) (fun v G1 G2 f h=>?_) (fun u Q f U=>?_) ?_
    ·obtain⟨t,l,rfl,F⟩:=h
     exact⟨_,_,z,F.mono f⟩
    ·obtain⟨⟨k,i,ab,y⟩,_⟩:=(show (fun G v=>∃ k i,v = .tuple #[.slice k g.1.length i,i' g.2]∧sl r' G k i g.1) Q.m (u 29)∧True from U)
     simp only[undFr,ab]
     exact⟨_,f' z,k,i,z,y⟩
    refine bj' (φ:=fun G v=>∃ L C,v = .slice L g.1.length C∧sl r' G L C g.1) (fun _=>z) (fun v G1 G2 f h=>?_) (fun u Q f U=>?_) ?_
    ·obtain⟨L,C,rfl,V⟩:=h
     exact⟨_,_,z,V.mono f⟩
    ·obtain⟨⟨t,l,E,F⟩,_,_⟩:=(show (fun G v=>∃ t l,v = .tuple #[.slice t g.1.length l,i' g.2]∧sl r' G t l g.1) Q.m (u 17)∧True∧True from U)
     simp only[undFr,E]
     exact⟨_,K' z z,t,l,z,F⟩
    refine bN' (c:=i' g.2) (fun _=>z) (fun u Q f U=>?_) ?_
    ·obtain⟨_,⟨t,l,E,F⟩,_,_⟩:=(show True∧(fun G v=>∃ t l,v = .tuple #[.slice t g.1.length l,i' g.2]∧sl r' G t l g.1) Q.m (u 17)∧True∧True from U)
     simp only[undFr,E]
     exact K' z z
    refine Chain.tailU3 (d:=30) (post:=fun G v=>∃ L C,v = .slice L g.1.length C∧sl r' G L C g.1) (d':=17) (post':=fun G v=>∃ t l,v = .tuple #[.slice t g.1.length l,i' g.2]∧sl r' G t l g.1) (d'':=29) (post'':=fun G v=>∃ k i,v = .tuple #[.slice k g.1.length i,i' g.2]∧sl r' G k i g.1) (fun aM aF aJ aO O S T P=>?_)
    obtain⟨L,C,rfl,V⟩:=S
    obtain⟨t,l,rfl,F⟩:=T
    obtain⟨k,i,rfl,y⟩:=P
    refine sg z z<|sg z z<|u'<|am'<|b'<|h'<|sr<|mv z z<|yy (aQ' z z) z<|nx<|I' hr z (fun ax hr=>?_) (fun ax hr=>?_)
    ·exact (show False from hr).elim
    ·refine n'<|b'<|w'<|mv z z<|mv z z ?_
     obtain⟨ar,ak,hr⟩:=hr
     refine M' z z (t' E57 z) (eG' ak) z (⟨(M.mono O),V⟩) (fun aG ay ac R=>?_)
     obtain⟨al,an,rfl,am⟩:=R
     refine sg z z<|u'<|D'<|b'<|w'<|mv z z<|yy (N' z z) z<|sg z z<|u'<|O' ⟨ar,al,an,IntKind.i64.wrap (K+1),ay⟩ hr ⟨(mt (mt m O) ac),am⟩ (fc z (fc z (fc z (fc z fn)))) (wk ln)
   ·refine ae'<|m'<|m'<|J'<|af' ⟨p,n,o,B⟩ ⟨m,M,hr⟩ (fc z fn) (wk ln)
 ·rintro⟨q,x,A,D⟩ ⟨aD,aa,hr⟩
  refine b'<|sr<|mv z z<|sg z z<|sg z z<|nx<|j' ?_
  obtain rfl:_=r:=hr
  exact aI' z z z ⟨_,_,z,aa⟩
theorem hf'{p1 q1 p1p p1c q1p q1c r}(hr:(Zkb p1 q1).Ret r):Ctr Tryz.prog 31 #[.slice p1p p1.length p1c,.slice q1p q1.length q1c] (fun G=>sl r' G p1p p1c p1∧sl r' G q1p q1c q1) (fun G v=>∃ k h,v = .slice k r.length h∧sl r' G k h r):=by
 refine C' (args:=[_,_]) (N:=14) Tryz.func31 z z z (fun t s p f=>?_)
 obtain⟨l,j⟩:=f
 refine sr<|sg z z<|nr<|mv z z<|mv z z ?_
 obtain⟨o,e,hr⟩:=hr
 refine M' z z (t' E59 z) (gX' e) z (⟨l,j⟩) (fun n q m c=>?_)
 obtain⟨i,g,rfl,d⟩:=c
 refine mv z z<|yy (K' z z) z<|yy (K' z z) z<|sg z z<|sg z z<|nr<|mv z z<|sg z z<|nx<|j' ?_
 obtain rfl:_=r:=hr
 exact k' z z ⟨_,_,z,d⟩
theorem gf'{c1 c1nummagp c1nummagc c1denmagp c1denmagc r}(hr:(ZgD c1).Ret r):Ctr Tryz.prog 61 #[.agg ([.bool c1.num.neg,.slice c1nummagp c1.num.mag.length c1nummagc,.bool c1.den.neg,.slice c1denmagp c1.den.mag.length c1denmagc]).toArray] (fun G=>sl (Rp.int .u32) G c1nummagp c1nummagc c1.num.mag∧sl (Rp.int .u32) G c1denmagp c1denmagc c1.den.mag) (fun G v=>∃ k i,v = .slice k r.length i∧sl r' G k i r):=by
 refine C' (args:=[_]) (N:=9) Tryz.func61 z z z (fun p t j f=>?_)
 obtain⟨c,d⟩:=f
 refine sr<|W' 1 z z z fun q=>sg z z<|nx<|h'<|sr<|yy (s' 1 bS' z z z) z ?_
 obtain⟨n,g,hr⟩:=hr
 refine H' z z (t' E91 z) (eB' g) z (⟨c,d⟩)<|yy (ak' z z) z<|nx<|I' hr z (fun h hr=>?_) (fun h hr=>?_)
 ·exact (show False from hr).elim
 ·refine n'<|b'<|sr<|yy (s' 1 bS' z z z) z<|yy (aq' (vs:=#[(0,.agg ([.bool c1.num.neg,.slice c1nummagp c1.num.mag.length c1nummagc,.bool c1.den.neg,.slice c1denmagp c1.den.mag.length c1denmagc]).toArray)]) (v:=.agg (([.bool c1.num.neg,.slice c1nummagp c1.num.mag.length c1nummagc,.bool c1.den.neg,.slice c1denmagp c1.den.mag.length c1denmagc]:List Value)++(vecG (Value.int .i64) 8 (fun _=>0))).toArray) z z (fun _=>by kernel_rfl)) z<|aU' (e:=101) (r:=r') (vs:=#[(0,.agg (([.bool c1.num.neg,.slice c1nummagp c1.num.mag.length c1nummagc,.bool c1.den.neg,.slice c1denmagp c1.den.mag.length c1denmagc]:List Value)++(vecG (Value.int .i64) 8 (fun _=>0))).toArray)]) (cs:=(([.bool c1.num.neg,.slice c1nummagp c1.num.mag.length c1nummagc,.bool c1.den.neg,.slice c1denmagp c1.den.mag.length c1denmagc]:List Value)++(vecG (Value.int .i64) 8 (fun _=>0)))++([])) ([(Zc.mk c1 (fun _=>0))]:List Zc) z z z z z (by decide) (fun _=>by kernel_rfl) ⟨([.bool c1.num.neg,.slice c1nummagp c1.num.mag.length c1nummagc,.bool c1.den.neg,.slice c1denmagp c1.den.mag.length c1denmagc]:List Value)++(vecG (Value.int .i64) 8 (fun _=>0)),[],z,⟨[.bool c1.num.neg,.slice c1nummagp c1.num.mag.length c1nummagc,.bool c1.den.neg,.slice c1denmagp c1.den.mag.length c1denmagc],vecG (Value.int .i64) 8 (fun _=>0),z,⟨(v58' c1.num c1nummagp c1nummagc),(v58' c1.den c1denmagp c1denmagc),z,⟨[.bool c1.num.neg],[.slice c1nummagp c1.num.mag.length c1nummagc],z,z,⟨_,z,c⟩⟩,⟨[.bool c1.den.neg],[.slice c1denmagp c1.den.mag.length c1denmagc],z,z,⟨_,z,d⟩⟩⟩,z⟩,z⟩ (key:=999) z (by rw[j]; rfl) fun s o m l=>sg z z<|nx<|j' ?_
  obtain rfl:_=r:=hr
  exact k' z z ⟨_,_,z,l⟩
theorem gY'{n1 r}(hr:(Zi6 n1).Ret r):Ctr Tryz.prog 33 #[i' n1] (fun G=>True) (fun G v=>∃ o n,v = .slice o r.length n∧sl r' G o n r):=by
 refine C' (args:=[_]) (N:=6) Tryz.func33 z z z fun H F D y=>sr<|sg z z<|nr<|mv z z ?_
 obtain⟨A,l,hr⟩:=hr
 refine M' z z (t' E48 z) (cD' l) z (trivial) (fun t C p e=>?_)
 obtain⟨j,h,i,g,rfl,c,d⟩:=e
 obtain⟨E,m,hr⟩:=hr
 refine M' z z (t' E61 z) (gf' m) z (⟨c,d⟩) (fun u B q f=>?_)
 obtain⟨x,s,rfl,k⟩:=f
 refine sg z z<|nx<|j' ?_
 obtain rfl:_=r:=hr
 exact k' z z ⟨_,_,z,k⟩
theorem fE'{c1 p1 c1nummagp c1nummagc c1denmagp c1denmagc p1p p1c r}(hr:(ZeO c1 p1).Ret r):Ctr Tryz.prog 58 #[.agg ([.bool c1.num.neg,.slice c1nummagp c1.num.mag.length c1nummagc,.bool c1.den.neg,.slice c1denmagp c1.den.mag.length c1denmagc]).toArray,.slice p1p p1.length p1c] (fun G=>sl (Rp.int .u32) G c1nummagp c1nummagc c1.num.mag∧sl (Rp.int .u32) G c1denmagp c1denmagc c1.den.mag∧sl r' G p1p p1c p1) (fun G v=>∃ l j,v = .slice l r.length j∧sl r' G l j r):=by
 refine C' (args:=[_,_]) (N:=15) Tryz.func58 z z z (fun x u q h=>?_)
 obtain⟨c,d,m⟩:=h
 refine sr<|W' 2 z z z fun t=>sg z z<|nr<|yy (s' 2 bS' z z z) z<|yy (aq' (vs:=#[]) (v:=.agg (vecG (Value.int .i64) 8 (fun _=>0)).toArray) z z (fun _=>by kernel_rfl)) z<|mv z z ?_
 obtain⟨p,g,hr⟩:=hr
 refine M' z z (t' E92 z) (fD' g) z (⟨c,d,m⟩) (fun o s n e=>?_)
 obtain⟨k,i,rfl,f⟩:=e
 refine mv z z<|yy (K' z z) z<|yy (K' z z) z<|sg z z<|sg z z<|nr<|mv z z<|sg z z<|nx<|j' ?_
 obtain rfl:_=r:=hr
 exact k' z z ⟨_,_,z,f⟩
theorem gZ'{p1 q1 p1p p1c q1p q1c r}(hr:(Zi8 p1 q1).Ret r):Ctr Tryz.prog 30 #[.slice p1p p1.length p1c,.slice q1p q1.length q1c] (fun G=>sl r' G p1p p1c p1∧sl r' G q1p q1c q1) (fun G v=>∃ y u,v = .slice y r.length u∧sl r' G y u r):=by
 refine C' (args:=[_,_]) (N:=10) Tryz.func30 z z z (fun T S Q q=>?_)
 obtain⟨A,x⟩:=q
 refine sr<|sg z z<|nr<|mv z z ?_
 obtain⟨K,o,hr⟩:=hr
 refine M' z z (t' E48 z) (cD' o) z (trivial) (fun F R e f=>?_)
 obtain⟨l,j,k,i,rfl,c,d⟩:=f
 refine mv z z ?_
 obtain⟨L,t,hr⟩:=hr
 refine M' z z (t' E58 z) (fE' t) z (⟨c,d,(x.mono e)⟩) (fun H M m h=>?_)
 obtain⟨J,E,rfl,n⟩:=h
 obtain⟨P,s,hr⟩:=hr
 refine M' z z (t' E57 z) (eG' s) z (⟨(A.mono (mt e m)),n⟩) (fun D O B g=>?_)
 obtain⟨C,I,rfl,p⟩:=g
 refine sg z z<|nx<|j' ?_
 obtain rfl:_=r:=hr
 exact k' z z ⟨_,_,z,p⟩
theorem fQ'{c1 r}(hr:(Zb5 c1).Ret r):Ctr Tryz.prog 132 #[.int .i32 c1] (fun G=>True) (fun G v=>v = .bool r):=by
 refine C' (args:=[_]) (N:=13) Tryz.func132 z z z fun g h f e=>sr<|sg z z<|nr<|mv z z<|aj' hr z (bD' z z) z (fun d hr=>?_) (fun d hr=>?_)
 ·refine mv z z<|gy z z (f' z) z<|aj' hr (F' z z) (bD' z z) z (fun c hr=>?_) (fun c hr=>?_)
  ·refine yy (o' z z) z<|mv z z<|sf z z z<|sf z z z<|yy (o' z z) z<|sg z z<|nx<|j' ?_
   obtain rfl:_=r:=hr
   exact k' z z z
  ·refine yy (o' z z) z<|mv z z<|gy z z (f' z) z<|gy z z (ak' z z) z<|yy (l' z z) z<|sg z z<|nx<|j' ?_
   obtain rfl:_=r:=hr
   exact k' z z z
 ·refine mv z z<|sk z z z<|sk z z z<|yy (l' z z) z<|mv z z<|gy z z (f' z) z<|gy z z (ak' z z) z<|yy (l' z z) z<|sg z z<|nx<|j' ?_
  obtain rfl:_=r:=hr
  exact k' z z z
theorem fR'{s1 r}(hr:(Zb4 s1).Ret r):Ctr Tryz.prog 87 #[.string s1] (fun G=>True) (fun G v=>v = .bool r):=by
 refine C' (args:=[_]) (N:=45) Tryz.func87 z z z fun p n O I=>sr<|sg z z<|nx<|aV' (fun (f:Mem)=>match f with|g=>[(0,.string s1)]) (fun (f:Mem)=>match f with|g=>Mem.le n g∧(ZeG s1).Ret r) (fun (f:Mem)=>match f with|g=>St p n g []) ?_ ?_
 ·skip
  refine sr<|mv z z<|yy (Y0.lenS aR' z) z<|aj' hr z (V' z z) z (fun s hr=>?_) (fun s hr=>?_)
  ·refine mv z z<|sf z z z<|sf z z z<|sf z z z<|yy (o' z z) z<|nx<|at' z<|sr<|sg z z<|nx<|j' ?_
   replace hr:_=r:=hr
   refine g' ?_
   subst hr
   exact k' z z z
  ·refine mv z z<|gy z z (f' z) z<|gy z z (Y0.lenS aR' z) z<|gy z z (bt' z z) z<|yy (l' z z) z<|nx<|I' hr z (fun B hr=>?_) (fun B hr=>?_)
   ·refine sr<|sg z z<|nx<|j' ?_
    replace hr:_=r:=hr
    refine g' ?_
    subst hr
    exact k' z z z
   ·refine n'<|ar' n ⟨mr,hr⟩ (fc z fn) (wk ln)
 ·rintro g ⟨F,hr⟩
  refine h'<|sr<|mv z z<|WL.rangeS 4015 z z aR' z fun l=>nx<|ab' (fun (f:Mem)=>match f with|j=>[]) (fun (f:Mem)=>match f with|j=>Mem.le g j∧(ZaK).Ret r) (fun (f:Mem)=>match f with|j=>St p n j []) ?_ ?_
  ·refine A' ?_
   let k:(Bool⊕Unit)→Prop:=fun J=>((fun L=>match L with | .inl rv1=>Comp.ret rv1 | .inr ()=>ZaK:(Bool⊕Unit)→Comp Bool) J).wp (fun a=>a=r)
   replace hr:(Comp.loop _ _).wp k:=hr
   refine ac' (Φ:=k) (fun (⟨c,d⟩:Nat×Mem)=>(c:Nat)) (fun ⟨c,d⟩=>[(15,.pointer (some ⟨l,0,none⟩))]) (fun ⟨c,d⟩=>Mem.le g d) (fun ⟨c,d⟩=>St p n d [(4015,(some ⟨l,.stringIter s1 c,0⟩))]) ⟨0,g⟩ hr (fc z fn) mr (wk (lc z ln)) ?_
   ·intro D f K hr
    obtain⟨c,d⟩:=f
    have i:=K
    refine sr<|WL.nextS 4015 z z z z (fun o=>?_) (fun o=>?_)
    ·replace hr:=hr.pos o
     refine yy (K' z z) z<|nx<|h'<|at' z<|n'<|b'<|A'<|sr<|yy (K' z z) z<|yy (K' z z) z<|sg z z<|sg z z<|nx<|aV' (fun (⟨e,h⟩:Bool×Mem)=>[(3,i' (c:Int)),(4,.int .i32 ((Utf8.decode s1 c).1:Int)),(5,.bool e),(15,.pointer (some ⟨l,0,none⟩))]) (fun ⟨e,h⟩=>Mem.le d h∧(ZQ s1 c e).wp (Out D k)) (fun ⟨e,h⟩=>St p n h [(4015,(some ⟨l,.stringIter s1 (c+(Utf8.decode s1 c).2),0⟩))]) ?_ ?_
     ·skip
      refine w'<|mv z z<|aj' hr z (bD' z z) z (fun E hr=>?_) (fun E hr=>?_)
      ·refine mv z z<|gy z z (f' z) z<|aj' hr (F' z z) (bD' z z) z (fun C hr=>?_) (fun C hr=>?_)
       ·refine yy (o' z z) z<|mv z z<|sf z z z<|sf z z z<|sf z z z<|aF' (ai' z z) z<|aF' (ai' z z) z<|sf z z z<|yy (o' z z) z<|sg z z<|u'<|ar' ⟨true,d⟩ ⟨mr,hr⟩ (fc z (fc z (fc z (fc z fn)))) (wk (lc z ln))
       ·refine yy (o' z z) z<|mv z z<|gy z z (f' z) z<|aj' hr (F' z z) (bD' z z) z (fun y hr=>?_) (fun y hr=>?_)
        ·refine gy z z (f' z) z<|gy z z (f' z) z<|gy z z (bD' z z) z<|gy z z (o' z z) z<|yy (l' z z) z<|sg z z<|u'<|ar' ⟨decide (((Utf8.decode s1 c).1:Int)≤122),d⟩ ⟨mr,hr⟩ (fc z (fc z (fc z (fc z fn)))) (wk (lc z ln))
        ·refine gy z z (f' z) z<|sk z z z<|sk z z z<|gy z z (l' z z) z<|yy (l' z z) z<|sg z z<|u'<|ar' ⟨false,d⟩ ⟨mr,hr⟩ (fc z (fc z (fc z (fc z fn)))) (wk (lc z ln))
      ·refine mv z z<|sk z z z<|sk z z z<|yy (l' z z) z<|mv z z<|gy z z (f' z) z<|aj' hr (F' z z) (bD' z z) z (fun x hr=>?_) (fun x hr=>?_)
       ·refine gy z z (f' z) z<|gy z z (f' z) z<|gy z z (bD' z z) z<|gy z z (o' z z) z<|yy (l' z z) z<|sg z z<|u'<|ar' ⟨decide (((Utf8.decode s1 c).1:Int)≤122),d⟩ ⟨mr,hr⟩ (fc z (fc z (fc z (fc z fn)))) (wk (lc z ln))
       ·refine gy z z (f' z) z<|sk z z z<|sk z z z<|gy z z (l' z z) z<|yy (l' z z) z<|sg z z<|u'<|ar' ⟨false,d⟩ ⟨mr,hr⟩ (fc z (fc z (fc z (fc z fn)))) (wk (lc z ln))
     ·rintro⟨e,h⟩ ⟨m,hr⟩
      refine sr<|aj' hr z (cN' (f' z) (congrArg Value.bool (bdec _))) z (fun u hr=>?_) (fun u hr=>?_)
      ·refine yy (an' z) z<|mv z z<|sk z z z<|sk z z z<|sk z z z<|aF' (ai' z z) z<|aF' (ai' z z) z<|aF' (ai' z z) z<|sk z z z<|yy (l' z z) z<|nx<|bh' z<|n'<|D'<|O' ⟨(c+(Utf8.decode s1 c).2),h⟩ hr (mt i m) (fc z fn) (wk (lc z ln))
      ·refine yy (an' z) z<|mv z z<|gy z z (f' z) z<|aj' hr (F' z z) (ak' z z) z (fun A hr=>?_) (fun A hr=>?_)
       ·refine gy z z (f' z) z<|sf z z z<|sf z z z<|sf z z z<|gy z z (o' z z) z<|yy (o' z z) z<|nx<|at' z<|sr<|sg z z<|nx<|j' ?_
        replace hr:_=r:=hr
        refine x'<|g'<|x'<|aH'<|g' ?_
        subst hr
        exact k' z z z
       ·refine gy z z (f' z) z<|gy z z (f' z) z ?_
        obtain⟨M,q,hr⟩:=hr
        refine H' (F' z z) z (t' E132 z) (fQ' q) z (trivial)<|gy z z (an' z) z<|gy z z (l' z z) z<|yy (o' z z) z<|nx<|aM' hr z (fun t hr=>?_) (fun t hr=>?_)
        ·refine sr<|sg z z<|nx<|j' ?_
         replace hr:_=r:=hr
         refine x'<|g'<|x'<|aH'<|g' ?_
         subst hr
         exact k' z z z
        ·refine n'<|D'<|O' ⟨(c+(Utf8.decode s1 c).2),h⟩ hr (mt i m) (fc z fn) (wk (lc z ln))
    ·replace hr:=hr.neg o
     refine yy (K' z z) z<|nx<|h'<|bh' z<|ae'<|m'<|m'<|J'<|af' d ⟨i,hr⟩ fn (wk ln)
  ·rintro j ⟨H,hr⟩
   refine b'<|sr<|sg z z<|nx<|j' ?_
   obtain rfl:_=r:=hr
   exact k' z z z
theorem eH'{a1 a1magp a1magc r}(hr:(ZdO a1).Ret r):Ctr Tryz.prog 188 #[.agg ((v58' a1 a1magp a1magc)).toArray] (fun G=>sl (Rp.int .u32) G a1magp a1magc a1.mag) (fun G v=>v = .bool r):=by
 refine C' (args:=[_]) (N:=19) Tryz.func188 z z z (fun h k g e=>?_)
 have c:=e
 refine sr<|W' 1 z z z fun i=>sg z z<|nr<|yy (aP' z) z<|yy (e' 1 bJ' z z z) z<|yy (L' B' c z) z<|sg z z<|nx<|h'<|sr<|mv z z<|yy (ak' z z) z<|nx<|I' hr z (fun f hr=>?_) (fun f hr=>?_)
 ·exact (show False from hr).elim
 ·refine n'<|b'<|sr<|yy (aP' z) z<|yy (e' 1 bJ' z z z) z<|mv z z<|yy (bf' z z) z ?_
  obtain⟨j,d,hr⟩:=hr
  refine yy (P' B' bi' c z z d) z<|yy (T' bH' z (aC' (X' c d))) z<|yy (aQ' z z) z<|sg z z<|nx<|j' ?_
  obtain rfl:_=r:=hr
  exact k' z z z
theorem dC'{a1 a1magp a1magc r}(hr:(ZbF a1).Ret r):Ctr Tryz.prog 189 #[.agg ((v58' a1 a1magp a1magc)).toArray] (fun G=>sl (Rp.int .u32) G a1magp a1magc a1.mag) (fun G v=>v=i' r):=by
 refine C' (args:=[_]) (N:=9) Tryz.func189 z z z (fun h j g d=>?_)
 have c:=d
 refine sr<|W' 1 z z z fun i=>sg z z<|nx<|h'<|sr<|yy (aP' z) z<|yy (e' 1 bJ' z z z) z<|yy (L' B' c z) z<|yy (ak' z z) z<|nx<|I' hr z (fun e hr=>?_) (fun e hr=>?_)
 ·exact (show False from hr).elim
 ·refine n'<|b'<|h'<|sr<|yy (bp' z) z<|yy (e' 1 sc4 z z z) z<|nx<|aM' hr z (fun f hr=>?_) (fun f hr=>?_)
  ·refine sr<|sg z z<|nx<|j' ?_
   replace hr:_=r:=hr
   refine g' ?_
   subst hr
   exact k' z z z
  ·refine n'<|b'<|sr<|sg z z<|nx<|j' ?_
   obtain rfl:_=r:=hr
   exact k' z z z
theorem do'{a1 a1magp a1magc r}(hr:(Za7 a1).Ret r):Ctr Tryz.prog 190 #[.agg ((v58' a1 a1magp a1magc)).toArray] (fun G=>sl (Rp.int .u32) G a1magp a1magc a1.mag) (fun G v=>v = .bool r):=by
 refine C' (args:=[_]) (N:=19) Tryz.func190 z z z (fun i l h e=>?_)
 have c:=e
 refine sr<|W' 1 z z z fun j=>sg z z<|nr<|yy (bp' z) z<|aj' hr z (cN' (e' 1 sc4 z z z) (congrArg Value.bool (bdec _))) z (fun g hr=>?_) (fun g hr=>?_)
 ·refine yy (an' z) z<|mv z z<|sk z z z<|sk z z z<|sk z z z<|sk z z z<|yy (l' z z) z<|mv z z<|sk z z z<|sk z z z<|sk z z z<|sk z z z<|sk z z z<|yy (l' z z) z<|sg z z<|nx<|j' ?_
  obtain rfl:_=r:=hr
  exact k' z z z
 ·refine yy (an' z) z<|mv z z<|gy z z (aP' z) z<|gy z z (e' 1 bJ' z z z) z<|gy z z (L' B' c z) z<|aj' hr (F' z z) (ak' z z) z (fun f hr=>?_) (fun f hr=>?_)
  ·refine yy (o' z z) z<|mv z z<|gy z z (aP' z) z<|gy z z (e' 1 bJ' z z z) z ?_
   obtain⟨k,d,hr⟩:=hr
   refine gy z z (P' B' bi' c z z d) z<|gy z z (T' bH' z (aC' (X' c d))) z<|gy z z (ak' z z) z<|yy (o' z z) z<|sg z z<|nx<|j' ?_
   obtain rfl:_=r:=hr
   exact k' z z z
  ·refine yy (o' z z) z<|mv z z<|sk z z z<|sk z z z<|sk z z z<|sk z z z<|sk z z z<|yy (l' z z) z<|sg z z<|nx<|j' ?_
   obtain rfl:_=r:=hr
   exact k' z z z
theorem cT'{a1 a1p a1c r}(hr:(ZbH a1).Ret r):Ctr Tryz.prog 203 #[.slice a1p a1.length a1c] (fun G=>sl (Rp.int .u32) G a1p a1c a1) (fun G v=>∃ t q,v = .slice t r.length q∧sl (Rp.int .u32) G t q r):=by
 refine C' (args:=[_]) (N:=21) Tryz.func203 z z z (fun s j E m=>?_)
 have h:=m
 refine sr<|sg z z<|nr<|mv z z<|yy (L' B' h z) z<|sg z z<|nx<|h'<|ab' (fun (⟨g,f⟩:Int×Mem)=>[(0,.slice a1p a1.length a1c),(3,i' g)]) (fun ⟨g,f⟩=>Mem.le j f∧(ZcH a1 g).Ret r) (fun ⟨g,f⟩=>St s j f []) ?_ ?_
 ·refine A' ?_
  let i:Int→Prop:=fun x=>((fun B=>match B with|g=>ZcH a1 g:Int→Comp (List Int)) x).wp (fun a=>a=r)
  replace hr:(Comp.loop _ _).wp i:=hr
  refine ac' (Φ:=i) (fun (⟨e,c⟩:Int×Mem)=>(e:Int)) (fun ⟨e,c⟩=>[(0,.slice a1p a1.length a1c),(3,i' e)]) (fun ⟨e,c⟩=>Mem.le j c) (fun ⟨e,c⟩=>St s j c []) ⟨(a1.length:Int),j⟩ hr (fc z (fc z fn)) mr (wk ln) ?_
  ·intro D y A hr
   obtain⟨e,c⟩:=y
   have d:=A
   refine h'<|sr<|mv z z<|aj' hr z (bt' z z) z (fun p hr=>?_) (fun p hr=>?_)
   ·refine mv z z<|gy z z (f' z) z<|gy z z (f' z) z<|gy z z (bf' z z) z ?_
    obtain⟨H,l,hr⟩:=hr
    refine gy z z (P' B' bi' (h.mono d) z z l) z<|gy z z (T' bH' z (aC' (E' (X' h l) d))) z<|gy z z (ak' z z) z<|yy (o' z z) z<|nx<|I' hr z (fun n hr=>?_) (fun n hr=>?_)
    ·refine n'<|b'<|A'<|w'<|mv z z<|yy (bf' z z) z<|sg z z<|u'<|D'<|O' ⟨IntKind.i64.wrap (e-1),c⟩ hr d (fc z (fc z fn)) (wk ln)
    ·refine ae'<|m'<|m'<|J'<|af' ⟨e,c⟩ ⟨d,hr⟩ (fc z (fc z fn)) (wk ln)
   ·refine mv z z<|sk z z z<|sk z z z<|sk z z z<|sk z z z<|sk z z z<|sk z z z<|yy (l' z z) z<|nx<|bh' z<|ae'<|m'<|m'<|J'<|af' ⟨e,c⟩ ⟨d,hr⟩ (fc z (fc z fn)) (wk ln)
 ·rintro⟨g,f⟩ ⟨k,hr⟩
  refine b'<|sr<|mv z z<|mv z z ?_
  obtain⟨o,hr⟩:=hr
  refine WL.sliceRH (r:=(Rp.int .u32)) z z B' bi' z (h.mono k) z z o fun F C u=>sg z z<|nx<|j' ?_
  obtain rfl:_=r:=hr
  exact k' z z ⟨_,_,z,u⟩
theorem eI'{a1 a1p a1c r}(hr:(ZdP a1).Ret r):Ctr Tryz.prog 202 #[.slice a1p a1.length a1c] (fun G=>sl (Rp.int .u32) G a1p a1c a1) (fun G v=>∃ g e,v = .slice g r.length e∧sl (Rp.int .u32) G g e r):=by
 refine C' (args:=[_]) (N:=5) Tryz.func202 z z z (fun p o f c=>?_)
 have h:=c
 refine sr<|sg z z<|nr<|mv z z ?_
 obtain⟨d,hr⟩:=hr
 refine cE' (r:=(Rp.int .u32)) 2004 z z B' el156 z (by decide) z z (aa' (Rp.int .u32) _) z (by rw[f]; rfl) ef' h d fun q m k n j i l=>sg z z<|nx<|j' ?_
 obtain rfl:_=r:=hr
 exact k' z z ⟨_,_,z,i⟩
theorem fS'{m1 r}(hr:(Zgt m1).Ret r):Ctr Tryz.prog 206 #[.int .u64 m1] (fun G=>True) (fun G v=>∃ i g,v = .slice i r.length g∧sl (Rp.int .u32) G i g r):=by
 refine C' (args:=[_]) (N:=10) Tryz.func206 z z z fun y x h o=>sr<|sg z z<|nr<|mv z z<|yy (aD' al' ap' z) z<|mv z z<|yy (Y0.shr z z (by decide)) z<|yy (aD' al' ap' z) z<|aU' (e:=156) (r:=(Rp.int .u32)) (vs:=#[(0,.int .u32 (IntKind.u32.wrap m1)),(1,.int .u32 (IntKind.u32.wrap (Int.fdiv m1 (2 ^ (min (32:Int).toNat IntKind.u64.bits)))))]) (cs:=[.int .u32 (IntKind.u32.wrap m1)]++([.int .u32 (IntKind.u32.wrap (Int.fdiv m1 (2 ^ (min (32:Int).toNat IntKind.u64.bits))))]++([]))) ([IntKind.u32.wrap m1,IntKind.u32.wrap (Int.fdiv m1 (2 ^ (min (32:Int).toNat IntKind.u64.bits)))]:List Int) z z z z z (by decide) (fun _=>by kernel_rfl) ⟨[.int .u32 (IntKind.u32.wrap m1)],[.int .u32 (IntKind.u32.wrap (Int.fdiv m1 (2 ^ (min (32:Int).toNat IntKind.u64.bits))))]++([]),z,z,⟨[.int .u32 (IntKind.u32.wrap (Int.fdiv m1 (2 ^ (min (32:Int).toNat IntKind.u64.bits))))],[],z,z,z⟩⟩ (key:=999) z (by rw[h]; rfl) (fun u t k j=>?_)
 obtain⟨q,f,hr⟩:=hr
 refine M' z z (t' E203 z) (cT' f) z (j) (fun n s l c=>?_)
 obtain⟨p,m,rfl,d⟩:=c
 refine sg z z<|nx<|j' ?_
 obtain rfl:_=r:=hr
 exact k' z z ⟨_,_,z,d⟩
theorem dR'{neg1 mag1 mag1p mag1c r}(hr:(Zc9 neg1 mag1).Ret r):Ctr Tryz.prog 205 #[.bool neg1,.slice mag1p mag1.length mag1c] (fun G=>sl (Rp.int .u32) G mag1p mag1c mag1) (fun G v=>∃ c d,v = .agg ((v58' r c d)).toArray∧sl (Rp.int .u32) G c d r.mag):=by
 refine C' (args:=[_,_]) (N:=14) Tryz.func205 z z z (fun x u q m=>?_)
 have j:=m
 refine sr<|U' 4 z z58 z fun t=>nr<|mv z z ?_
 obtain⟨k,l,hr⟩:=hr
 refine M' z z (t' E203 z) (cT' l) z (j) (fun p s o e=>?_)
 obtain⟨h,g,rfl,f⟩:=e
 refine sg z z<|nx<|h'<|sr<|mv z z<|yy (L' B' f z) z<|yy (ak' z z) z<|nx<|I' hr z (fun n hr=>?_) (fun n hr=>?_)
 ·exact (show False from hr).elim
 ·refine n'<|b'<|sr<|mv z z<|mv z z<|yy (aq' (vs:=#[(0,.bool neg1),(1,.slice h k.length g)]) (v:=.agg ([.bool neg1,.slice h k.length g]).toArray) z z (fun _=>by kernel_rfl)) z<|v' 4 z sz58 z z z z z (List.all_eq_true.1 z)<|nx<|j' ?_
  obtain rfl:_=r:=hr
  exact k' z (ad' (i:=4) bl' z z z) ⟨_,_,z,f⟩
theorem ex'{a1 b1 a1p a1c b1p b1c r}(hr:(ZcG a1 b1).Ret r):Ctr Tryz.prog 192 #[.slice a1p a1.length a1c,.slice b1p b1.length b1c] (fun G=>sl (Rp.int .u32) G a1p a1c a1∧sl (Rp.int .u32) G b1p b1c b1) (fun G v=>v=i' r):=by
 refine C' (args:=[_,_]) (N:=41) Tryz.func192 z z z (fun y l H s=>?_)
 obtain⟨f,h⟩:=s
 refine sr<|sg z z<|nx<|h'<|sr<|mv z z<|yy (L' B' f z) z<|mv z z<|yy (L' B' h z) z<|yy (aQ' z z) z<|nx<|I' hr z (fun u hr=>?_) (fun u hr=>?_)
 ·exact (show False from hr).elim
 ·refine n'<|b'<|h'<|sr<|mv z z<|yy (L' B' f z) z<|yy (bf' z z) z<|sg z z<|nx<|ab' (fun (j:Mem)=>match j with|g=>[]) (fun (j:Mem)=>match j with|g=>Mem.le l g∧(ZbG).Ret r) (fun (j:Mem)=>match j with|g=>St y l g []) ?_ ?_
  ·refine A' ?_
   let k:(Int⊕Unit)→Prop:=fun C=>((fun E=>match E with | .inl rv1=>Comp.ret rv1 | .inr ()=>ZbG:(Int⊕Unit)→Comp Int) C).wp (fun a=>a=r)
   replace hr:(Comp.loop _ _).wp k:=hr
   refine ac' (Φ:=k) (fun (⟨i,e⟩:Int×Mem)=>(i:Int)) (fun ⟨i,e⟩=>[(0,.slice a1p a1.length a1c),(1,.slice b1p b1.length b1c),(5,i' i)]) (fun ⟨i,e⟩=>Mem.le l e) (fun ⟨i,e⟩=>St y l e []) ⟨IntKind.i64.wrap ((a1.length:Int)-1),l⟩ hr (fc z (fc z (fc z fn))) mr (wk ln) ?_
   ·intro F j D hr
    obtain⟨i,e⟩:=j
    have d:=D
    refine h'<|sr<|mv z z<|yy (be' z z) z<|nx<|I' hr z (fun A hr=>?_) (fun A hr=>?_)
    ·refine n'<|b'<|h'<|A'<|h'<|Z' [false,false,false,false,false,false,false,false] mix (by kernel_rfl) fun q=>cn (fun _ c=>f' z)<|cn (fun _ c=>f' z) ?_
     obtain⟨L,n,hr⟩:=hr
     refine cn (fun _ c=>P' B' bi' ((f.mono d).mono c) z z n)<|cn (fun _ c=>T' bH' z (aC' (E' (E' (X' f n) d) c)))<|cn (fun _ c=>f' z)<|cn (fun _ c=>f' z) ?_
     obtain⟨K,o,hr⟩:=hr
     refine cn (fun _ c=>P' B' bi' ((h.mono d).mono c) z z o)<|cn (fun _ c=>T' bH' z (aC' (E' (E' (X' h o) d) c)))<|Y' q<|yy (aQ' z z) z<|u'<|am'<|b'<|I' hr z (fun x hr=>?_) (fun x hr=>?_)
     ·refine h'<|h'<|Z' [false,false,false,false,false,false,false,false] mix (by kernel_rfl) fun q=>cn (fun _ c=>f' z)<|cn (fun _ c=>f' z) ?_
      obtain⟨I,p,hr⟩:=hr
      refine cn (fun _ c=>P' B' bi' ((f.mono d).mono c) z z p)<|cn (fun _ c=>T' bH' z (aC' (E' (E' (X' f p) d) c)))<|cn (fun _ c=>f' z)<|cn (fun _ c=>f' z) ?_
      obtain⟨J,m,hr⟩:=hr
      refine cn (fun _ c=>P' B' bi' ((h.mono d).mono c) z z m)<|cn (fun _ c=>T' bH' z (aC' (E' (E' (X' h m) d) c)))<|Y' q<|yy (V' z z) z<|u'<|am'<|b'<|I' hr z (fun t hr=>?_) (fun t hr=>?_)
      ·refine sr<|sg z z<|nx<|j' ?_
       replace hr:_=r:=hr
       refine g'<|x'<|g'<|g'<|x'<|aH'<|g' ?_
       subst hr
       exact k' z z z
      ·refine n'<|b'<|sr<|sg z z<|nx<|j' ?_
       replace hr:_=r:=hr
       refine x'<|g'<|g'<|x'<|aH'<|g' ?_
       subst hr
       exact k' z z z
     ·refine n'<|D'<|b'<|w'<|mv z z<|yy (bf' z z) z<|sg z z<|u'<|O' ⟨IntKind.i64.wrap (i-1),e⟩ hr d (fc z (fc z (fc z fn))) (wk ln)
    ·refine ae'<|m'<|m'<|J'<|af' e ⟨d,hr⟩ fn (wk ln)
  ·rintro g ⟨B,hr⟩
   refine b'<|sr<|sg z z<|nx<|j' ?_
   obtain rfl:_=r:=hr
   exact k' z z z
theorem gr'{a1 b1 a1magp a1magc b1magp b1magc r}(hr:(ZhP a1 b1).Ret r):Ctr Tryz.prog 191 #[.agg ((v58' a1 a1magp a1magc)).toArray,.agg ((v58' b1 b1magp b1magc)).toArray] (fun G=>sl (Rp.int .u32) G a1magp a1magc a1.mag∧sl (Rp.int .u32) G b1magp b1magc b1.mag) (fun G v=>∃ M O,v = .agg ((v58' r M O)).toArray∧sl (Rp.int .u32) G M O r.mag):=by
 refine C' (args:=[_,_]) (N:=53) Tryz.func191 z z z (fun w0 G0 aZ aq=>?_)
 obtain⟨Z,W⟩:=aq
 refine sr<|W' 2 z z z fun b2=>W' 3 z z z fun b3=>U' 4 z z58 z fun b4=>nx<|h'<|Z' [false,false,false,false,false,false] mix (by kernel_rfl) fun hb=>cn (fun _ o=>aP' z)<|cn (fun _ o=>e' 2 bJ' z z z) ?_
 obtain⟨C,ag,hr⟩:=hr
 refine ay' (post:=fun G v=>∃ j g,v = .slice j C.length g∧sl (Rp.int .u32) G j g C) (fun _=>z) (fun _ _=>t' E203 z) (cT' ag) z (fun G' o=>(Z.mono o)) (fun v G1 G2 o h=>?_) ?_
 ·obtain⟨j,g,rfl,E⟩:=h
  exact⟨_,_,z,E.mono o⟩
 obtain⟨K,al,hr⟩:=hr
 refine cU' (f:=202) (φ:=fun G v=>∃ m n,v = .slice m K.length n∧sl (Rp.int .u32) G m n K) (fun _=>z) (fun v G1 G2 o h=>?_) (fun u G' o hu=>?_) ?_
 ·obtain⟨m,n,rfl,L⟩:=h
  exact⟨_,_,z,L.mono o⟩
 ·obtain⟨⟨j,g,ac,E⟩,_⟩:=(show (fun G v=>∃ j g,v = .slice j C.length g∧sl (Rp.int .u32) G j g C) G'.m (u 13)∧True from hu)
  exact⟨_,_,_,fun _=>t' E202 z,eI' al,(by simp only[ac] <;> rfl),E⟩
 refine cu (fun _ _ o=>aP' z)<|cu (fun _ _ o=>e' 3 bJ' z z z)<|df' (d:=14) (post:=fun G v=>∃ m n,v = .slice m K.length n∧sl (Rp.int .u32) G m n K) (d':=13) (post':=fun G v=>∃ j g,v = .slice j C.length g∧sl (Rp.int .u32) G j g C) (fun aJ aN aV ae V P=>?_)
 obtain⟨m,n,rfl,L⟩:=V
 obtain⟨j,g,rfl,E⟩:=P
 obtain⟨aY,ak,hr⟩:=hr
 refine M' z z (t' E203 z) (cT' ak) z ((W.mono ae)) (fun aR aT ad U=>?_)
 obtain⟨aM,aG,rfl,ap⟩:=U
 obtain⟨ay,ai,hr⟩:=hr
 refine M' z z (t' E202 z) (eI' ai) z (ap) (fun aK Y af R=>?_)
 obtain⟨am,ao,rfl,an⟩:=R
 refine sg z z<|sg z z<|u'<|am'<|b'<|h'<|ab' (fun (⟨H,J,F,D,l,k,B⟩:(List Int)×Option Addr×Nat×Zg×Option Addr×Nat×Mem)=>[(4,.pointer (some ⟨b4,0,none⟩)),(5,.slice J H.length F)]) (fun ⟨H,J,F,D,l,k,B⟩=>Mem.le Y B∧sl (Rp.int .u32) B J F H∧sl (Rp.int .u32) B l k D.mag∧(Zc8 H).Ret r) (fun ⟨H,J,F,D,l,k,B⟩=>St w0 G0 B [(4,some ⟨b4,.cells ((v58' D l k)).toArray 58 (0,0),0⟩)]) ?_ ?_
 ·refine A' ?_
  let X:(Zg⊕((List Int)×Zg))→Prop:=fun oo=>((fun ov=>match ov with | .inl rv1=>Comp.ret rv1 | .inr (H,D)=>Zc8 H:(Zg⊕((List Int)×Zg))→Comp Zg) oo).wp (fun a=>a=r)
  replace hr:(Comp.loop _ _).wp X:=hr
  refine ac' (Φ:=X) (fun (⟨I,y,A,x,q,s,t,e,c,p⟩:(List Int)×Option Addr×Nat×(List Int)×Option Addr×Nat×Zg×Option Addr×Nat×Mem)=>((I,x,t):(List Int)×(List Int)×Zg)) (fun ⟨I,y,A,x,q,s,t,e,c,p⟩=>[(4,.pointer (some ⟨b4,0,none⟩)),(5,.slice y I.length A),(6,.slice q x.length s)]) (fun ⟨I,y,A,x,q,s,t,e,c,p⟩=>Mem.le Y p∧sl (Rp.int .u32) p y A I∧sl (Rp.int .u32) p q s x∧sl (Rp.int .u32) p e c t.mag) (fun ⟨I,y,A,x,q,s,t,e,c,p⟩=>St w0 G0 p [(4,some ⟨b4,.cells ((v58' t e c)).toArray 58 (0,0),0⟩)]) ⟨K,m,n,ay,am,ao,(Zg.mk false []),none,0,Y⟩ hr (fc z (fc z (fc z fn))) ⟨mr,(L.mono (mt ad af)),an,(aa' _ _)⟩ (wk (lc z ln)) ?_
  ·intro aX gx hx hr
   obtain⟨I,y,A,x,q,s,t,e,c,p⟩:=gx
   obtain⟨aa,aA,aj,T⟩:=hx
   refine h'<|sr<|mv z z<|yy (L' B' aj z) z<|yy (bt' z z) z<|nx<|I' hr z (fun az hr=>?_) (fun az hr=>?_)
   ·exact (show False from hr).elim
   ·refine ae'<|m'<|m'<|J'<|af' ⟨I,y,A,t,e,c,p⟩ ⟨aa,aA,T,hr⟩ (fc z (fc z fn)) (wk (lc z ln))
 ·rintro⟨H,J,F,D,l,k,B⟩ ⟨aD,aC,av,hr⟩
  refine b'<|sr<|mv z z ?_
  obtain⟨aU,ah,hr⟩:=hr
  refine M' z z (t' E205 z) (dR' ah) z (aC) (fun aO aW aE S=>?_)
  obtain⟨ar,au,rfl,Q⟩:=S
  refine v' 4 z sz58 z z z z z (List.all_eq_true.1 z)<|nx<|j' ?_
  obtain rfl:_=r:=hr
  exact k' z (ad' (i:=4) bl' z z z) ⟨_,_,z,Q⟩
theorem fM'{a1 a1nummagp a1nummagc a1denmagp a1denmagc r}(hr:(ZbV a1).Ret r):Ctr Tryz.prog 169 #[.agg ([.bool a1.num.neg,.slice a1nummagp a1.num.mag.length a1nummagc,.bool a1.den.neg,.slice a1denmagp a1.den.mag.length a1denmagc]).toArray] (fun G=>sl (Rp.int .u32) G a1nummagp a1nummagc a1.num.mag∧sl (Rp.int .u32) G a1denmagp a1denmagc a1.den.mag) (fun G v=>v = .bool r):=by
 refine C' (args:=[_]) (N:=30) Tryz.func169 z z z (fun E l I n=>?_)
 obtain⟨d,c⟩:=n
 refine sr<|W' 1 z z z fun y=>sg z z<|nx<|aV' (fun (i:Mem)=>match i with|f=>[(1,.pointer (some ⟨y,0,none⟩))]) (fun (i:Mem)=>match i with|f=>Mem.le l f∧(ZdR a1).Ret r) (fun (i:Mem)=>match i with|f=>St E l f [(1,some ⟨y,.cells ([.bool a1.num.neg,.slice a1nummagp a1.num.mag.length a1nummagc,.bool a1.den.neg,.slice a1denmagp a1.den.mag.length a1denmagc]).toArray 60 (0,0),0⟩)]) ?_ ?_
 ·skip
  refine sr<|yy (cp' z) z<|yy (av' ((v58' a1.num a1nummagp a1nummagc)).toArray 1 bl' z z z (aN' ([]) ((v58' a1.num a1nummagp a1nummagc)) ((v58' a1.den a1denmagp a1denmagc)))) z ?_
  obtain⟨B,j,hr⟩:=hr
  refine H' z z (t' E188 z) (eH' j) z (d) ?_
  cases B
  ·skip
   refine yy (an' z) z<|mv z z<|sf z z z<|sf z z z<|sf z z z<|sf z z z<|yy (o' z z) z<|mv z z<|sf z z z<|sf z z z<|sf z z z<|sf z z z<|yy (o' z z) z<|nx<|at' z<|sr<|sg z z<|nx<|j' ?_
   replace hr:_=r:=hr
   refine g' ?_
   subst hr
   exact k' z z z
  ·skip
   refine yy (an' z) z<|mv z z<|gy z z (ce' z) z<|gy z z (av' ((v58' a1.den a1denmagp a1denmagc)).toArray 1 bl' z z z (aN' ((v58' a1.num a1nummagp a1nummagc)) ((v58' a1.den a1denmagp a1denmagc)) ([]))) z ?_
   obtain⟨A,q,hr⟩:=hr
   refine H' (F' z z) z (t' E188 z) (eH' q) z (c) ?_
   cases A
   ·skip
    refine gy z z (an' z) z<|yy (l' z z) z<|mv z z<|sf z z z<|sf z z z<|sf z z z<|sf z z z<|yy (o' z z) z<|nx<|at' z<|sr<|sg z z<|nx<|j' ?_
    replace hr:_=r:=hr
    refine g' ?_
    subst hr
    exact k' z z z
   ·skip
    refine gy z z (an' z) z<|yy (l' z z) z<|mv z z<|gy z z (ce' z) z<|gy z z (av' ((v58' a1.den a1denmagp a1denmagc)).toArray 1 bl' z z z (aN' ((v58' a1.num a1nummagp a1nummagc)) ((v58' a1.den a1denmagp a1denmagc)) ([]))) z ?_
    obtain⟨K,m,hr⟩:=hr
    refine H' (F' z z) z (t' E189 z) (dC' m) z (c)<|gy z z (bD' z z) z<|yy (l' z z) z<|nx<|I' hr z (fun x hr=>?_) (fun x hr=>?_)
    ·exact (show False from hr).elim
    ·refine n'<|ar' l ⟨mr,hr⟩ (fc z fn) (wk (lc z ln))
 ·rintro f ⟨e,hr⟩
  refine sr<|yy (ce' z) z<|yy (av' ((v58' a1.den a1denmagp a1denmagc)).toArray 1 bl' z z z (aN' ((v58' a1.num a1nummagp a1nummagc)) ((v58' a1.den a1denmagp a1denmagc)) ([]))) z ?_
  obtain⟨u,k,hr⟩:=hr
  refine H' z z (t' E190 z) (do' k) z ((c.mono e)) ?_
  cases u
  ·skip
   refine mv z z<|gy z z (cp' z) z<|gy z z (av' ((v58' a1.num a1nummagp a1nummagc)).toArray 1 bl' z z z (aN' ([]) ((v58' a1.num a1nummagp a1nummagc)) ((v58' a1.den a1denmagp a1denmagc)))) z<|gy z z (ce' z) z<|gy z z (av' ((v58' a1.den a1denmagp a1denmagc)).toArray 1 bl' z z z (aN' ((v58' a1.num a1nummagp a1nummagc)) ((v58' a1.den a1denmagp a1denmagc)) ([]))) z ?_
   obtain⟨J,p,hr⟩:=hr
   refine M' (F' z z) z (t' E191 z) (gr' p) z (⟨(d.mono e),(c.mono e)⟩) (fun D F C h=>?_)
   obtain⟨t,s,rfl,g⟩:=h
   obtain⟨H,o,hr⟩:=hr
   refine H' (F' z z) z (t' E190 z) (do' o) z (g)<|yy (l' z z) z<|sg z z<|nx<|j' ?_
   obtain rfl:_=r:=hr
   exact k' z z z
  ·skip
   refine mv z z<|sf z z z<|sf z z z<|sf z z z<|sf z z z<|sf z z z<|sf z z z<|yy (o' z z) z<|sg z z<|nx<|j' ?_
   obtain rfl:_=r:=hr
   exact k' z z z
theorem du'{a1 a1nummagp a1nummagc a1denmagp a1denmagc r}(hr:(Zaw a1).Ret r):Ctr Tryz.prog 170 #[.agg ([.bool a1.num.neg,.slice a1nummagp a1.num.mag.length a1nummagc,.bool a1.den.neg,.slice a1denmagp a1.den.mag.length a1denmagc]).toArray] (fun G=>sl (Rp.int .u32) G a1nummagp a1nummagc a1.num.mag∧sl (Rp.int .u32) G a1denmagp a1denmagc a1.den.mag) (fun G v=>v=i' r):=by
 refine C' (args:=[_]) (N:=6) Tryz.func170 z z z (fun i k h e=>?_)
 obtain⟨c,d⟩:=e
 refine sr<|W' 1 z z z fun j=>sg z z<|nr<|yy (cp' z) z<|yy (av' ((v58' a1.num a1nummagp a1nummagc)).toArray 1 bl' z z z (aN' ([]) ((v58' a1.num a1nummagp a1nummagc)) ((v58' a1.den a1denmagp a1denmagc)))) z ?_
 obtain⟨g,f,hr⟩:=hr
 refine H' z z (t' E189 z) (dC' f) z (c)<|sg z z<|nx<|j' ?_
 obtain rfl:_=r:=hr
 exact k' z z z
theorem fN'{m1 r}(hr:(Zdd m1).Ret r):Ctr Tryz.prog 171 #[.agg (vecG (Value.int .i64) 8 m1).toArray] (fun G=>True) (fun G v=>v = .bool r):=by
 refine C' (args:=[_]) (N:=16) Tryz.func171 z z z fun n i x p=>sr<|W' 1 z z z fun y=>sg z z<|nx<|h'<|sr<|yy (s' 1 ca' z z (Q' _ _ _)) z<|mv z z<|nx<|ab' (fun (f:Mem)=>match f with|e=>[]) (fun (f:Mem)=>match f with|e=>Mem.le i e∧(ZbX).Ret r) (fun (f:Mem)=>match f with|e=>St n i e []) ?_ ?_
 ·refine A' ?_
  let h:(Bool⊕Unit)→Prop:=fun q=>((fun t=>match t with | .inl rv1=>Comp.ret rv1 | .inr ()=>ZbX:(Bool⊕Unit)→Comp Bool) q).wp (fun a=>a=r)
  replace hr:(Comp.loop _ _).wp h:=hr
  refine ac' (Φ:=h) (fun (⟨c,d⟩:Int×Mem)=>(c:Int)) (fun ⟨c,d⟩=>[(5,.agg (vecG (Value.int .i64) 8 m1).toArray),(6,i' c)]) (fun ⟨c,d⟩=>Mem.le i d) (fun ⟨c,d⟩=>St n i d []) ⟨0,i⟩ hr (fc z (fc z fn)) mr (wk ln) ?_
  ·intro u f s hr
   obtain⟨c,d⟩:=f
   have g:=s
   refine sr<|yy (V' z z) z<|nx<|h'<|I' hr z (fun k hr=>?_) (fun k hr=>?_)
   ·refine n'<|b'<|h'<|A'<|sr ?_
    obtain⟨j,hr⟩:=hr
    refine yy (Y0.index aG' sc3 sz3 z z j (bA' _ _ _ j)) z<|sg z z<|nr<|mv z z<|aj' hr z (V' z z) z (fun l hr=>?_) (fun l hr=>?_)
    ·refine mv z z<|sf z z z<|sf z z z<|yy (o' z z) z<|nx<|at' z<|sr<|sg z z<|nx<|j' ?_
     replace hr:_=r:=hr
     refine x'<|g'<|g'<|x'<|aH'<|g' ?_
     subst hr
     exact k' z z z
    ·refine mv z z<|gy z z (f' z) z<|gy z z (bt' z z) z<|yy (l' z z) z<|nx<|I' hr z (fun m hr=>?_) (fun m hr=>?_)
     ·exact (show False from hr).elim
     ·refine n'<|D'<|b'<|w'<|yy (N' z z) z<|mv z z<|u'<|O' ⟨IntKind.i64.wrap (c+1),d⟩ hr g (fc z (fc z fn)) (wk ln)
   ·refine ae'<|m'<|m'<|J'<|af' d ⟨g,hr⟩ fn (wk ln)
 ·rintro e ⟨o,hr⟩
  refine b'<|sr<|sg z z<|nx<|j' ?_
  obtain rfl:_=r:=hr
  exact k' z z z
theorem dy'{p1 p1p p1c r}(hr:(Zbm p1).Ret r):Ctr Tryz.prog 133 #[.slice p1p p1.length p1c] (fun G=>sl r' G p1p p1c p1) (fun G v=>v = .bool r):=by
 refine C' (args:=[_]) (N:=43) Tryz.func133 z z z (fun E y ab F=>?_)
 have s:=F
 refine sr<|sg z z<|nx<|h'<|sr<|mv z z<|yy (L' R' s z) z<|mv z z<|nx<|ab' (fun (n:Mem)=>match n with|q=>[]) (fun (n:Mem)=>match n with|q=>Mem.le y q∧(Zbw).Ret r) (fun (n:Mem)=>match n with|q=>St E y q []) ?_ ?_
 ·refine A' ?_
  let t:(Bool⊕Unit)→Prop:=fun W=>((fun Y=>match Y with | .inl rv1=>Comp.ret rv1 | .inr ()=>Zbw:(Bool⊕Unit)→Comp Bool) W).wp (fun a=>a=r)
  replace hr:(Comp.loop _ _).wp t:=hr
  refine ac' (Φ:=t) (fun (⟨h,m⟩:Int×Mem)=>(h:Int)) (fun ⟨h,m⟩=>[(0,.slice p1p p1.length p1c),(5,.slice p1p p1.length p1c),(6,i' (p1.length:Int)),(7,i' h)]) (fun ⟨h,m⟩=>Mem.le y m) (fun ⟨h,m⟩=>St E y m []) ⟨0,y⟩ hr (fc z (fc z (fc z (fc z fn)))) mr (wk ln) ?_
  ·intro S n X hr
   obtain⟨h,m⟩:=n
   have k:=X
   refine sr<|yy (V' z z) z<|nx<|h'<|I' hr z (fun K hr=>?_) (fun K hr=>?_)
   ·refine n'<|b'<|h'<|A'<|sr<|mv z z ?_
    obtain⟨g,A,hr⟩:=hr
    refine yy (P' R' bC' (s.mono k) z z A) z ?_
    obtain⟨d,c,e,f,T,j,l⟩:=cF' (E' (X' s A) k)
    refine yy (ax' _ ag101 z z T) z<|U' 4 z z101 z fun P=>sg z z<|v' 4 z bC' z z z z z (fun u M=>Rp.one r' (G:=m) (x:=g) (cs:=([.bool g.c.num.neg,.slice d g.c.num.mag.length c,.bool g.c.den.neg,.slice e g.c.den.mag.length f]:List Value)++(vecG (Value.int .i64) 8 g.m)) ⟨[.bool g.c.num.neg,.slice d g.c.num.mag.length c,.bool g.c.den.neg,.slice e g.c.den.mag.length f],vecG (Value.int .i64) 8 g.m,z,⟨(v58' g.c.num d c),(v58' g.c.den e f),z,⟨[.bool g.c.num.neg],[.slice d g.c.num.mag.length c],z,z,⟨_,z,j⟩⟩,⟨[.bool g.c.den.neg],[.slice e g.c.den.mag.length f],z,z,⟨_,z,l⟩⟩⟩,z⟩ u (by first|simpa using M|simpa [Value.cells] using M))<|nx<|aV' (fun (n:Mem)=>match n with|p=>[(0,.slice p1p p1.length p1c),(3,i' h),(4,.pointer (some ⟨P,0,none⟩)),(5,.slice p1p p1.length p1c),(6,i' (p1.length:Int)),(7,i' h)]) (fun (n:Mem)=>match n with|p=>Mem.le m p∧(ZaL p1 h g).wp (Out S t)) (fun (n:Mem)=>match n with|p=>St E y p [(4,some ⟨P,.cells (([.bool g.c.num.neg,.slice d g.c.num.mag.length c,.bool g.c.den.neg,.slice e g.c.den.mag.length f]:List Value)++(vecG (Value.int .i64) 8 g.m)).toArray 101 (0,0),0⟩)]) ?_ ?_
    ·skip
     refine sr<|yy (cg' z) z<|yy (av' ([.bool g.c.num.neg,.slice d g.c.num.mag.length c,.bool g.c.den.neg,.slice e g.c.den.mag.length f]).toArray 4 bS' z z z (aN' ([]) ([.bool g.c.num.neg,.slice d g.c.num.mag.length c,.bool g.c.den.neg,.slice e g.c.den.mag.length f]) ((vecG (Value.int .i64) 8 g.m)))) z ?_
     obtain⟨U,I,hr⟩:=hr
     refine H' z z (t' E169 z) (fM' I) z (⟨j,l⟩) ?_
     cases U
     ·skip
      refine yy (an' z) z<|mv z z<|sf z z z<|sf z z z<|sf z z z<|sf z z z<|yy (o' z z) z<|mv z z<|sf z z z<|sf z z z<|sf z z z<|sf z z z<|yy (o' z z) z<|nx<|at' z<|sr<|sg z z<|nx<|j' ?_
      replace hr:_=r:=hr
      refine g'<|x'<|g'<|g'<|x'<|aH'<|g' ?_
      subst hr
      exact k' z z z
     ·skip
      refine yy (an' z) z<|mv z z<|gy z z (cg' z) z<|gy z z (av' ([.bool g.c.num.neg,.slice d g.c.num.mag.length c,.bool g.c.den.neg,.slice e g.c.den.mag.length f]).toArray 4 bS' z z z (aN' ([]) ([.bool g.c.num.neg,.slice d g.c.num.mag.length c,.bool g.c.den.neg,.slice e g.c.den.mag.length f]) ((vecG (Value.int .i64) 8 g.m)))) z ?_
      obtain⟨aa,H,hr⟩:=hr
      refine H' (F' z z) z (t' E170 z) (du' H) z (⟨j,l⟩)<|aj' hr (F' z z) (ak' z z) z (fun Q hr=>?_) (fun Q hr=>?_)
      ·refine yy (l' z z) z<|mv z z<|sf z z z<|sf z z z<|sf z z z<|sf z z z<|yy (o' z z) z<|nx<|at' z<|sr<|sg z z<|nx<|j' ?_
       replace hr:_=r:=hr
       refine g'<|x'<|g'<|g'<|x'<|aH'<|g' ?_
       subst hr
       exact k' z z z
      ·refine yy (l' z z) z<|mv z z<|gy z z (bn' z) z<|gy z z (av' (vecG (Value.int .i64) 8 g.m).toArray 4 ca' z z (Q' _ _ _) (aN' ([.bool g.c.num.neg,.slice d g.c.num.mag.length c,.bool g.c.den.neg,.slice e g.c.den.mag.length f]) (vecG (Value.int .i64) 8 g.m) ([]))) z ?_
       obtain⟨ac,C,hr⟩:=hr
       refine H' (F' z z) z (t' E171 z) (fN' C) z (trivial)<|gy z z (an' z) z<|yy (l' z z) z<|nx<|aM' hr z (fun O hr=>?_) (fun O hr=>?_)
       ·exact (show False from hr).elim
       ·refine n'<|ar' m ⟨mr,hr⟩ (fc z (fc z (fc z (fc z (fc z (fc z fn)))))) (wk (lc z ln))
    ·rintro p ⟨o,hr⟩
     refine h'<|Z' [false,false,false,false,false,false,false,false,false,false,false] mix (by kernel_rfl) fun J=>cn (fun _ i=>f' z)<|bY' hr z (fun _ i=>bt' z z) (fun L hr=>?_) (fun L hr=>?_)
     ·refine cn (fun _ i=>f' z)<|cy z z (fun _ i=>f' z)<|cy z z (fun _ i=>f' z)<|cy z z (fun _ i=>bf' z z) ?_
      obtain⟨x2,B,hr⟩:=hr
      refine cy z z (fun _ i=>P' R' bC' ((s.mono (mt k o)).mono i) z z B)<|cy z z (fun _ i=>bn' z)<|cy z z (fun _ i=>ax' _ ca' z (Q' _ _ _) (cZ' (E' (E' (aJ' (aA' (X' s B))) (mt k o)) i)))<|cy z z (fun _ i=>bn' z)<|cy z z (fun _ i=>av' (vecG (Value.int .i64) 8 g.m).toArray 4 ca' z z (Q' _ _ _) (aN' ([.bool g.c.num.neg,.slice d g.c.num.mag.length c,.bool g.c.den.neg,.slice e g.c.den.mag.length f]) (vecG (Value.int .i64) 8 g.m) ([])))<|Y' J ?_
      obtain⟨Z,D,hr⟩:=hr
      refine H' (F' z z) z (t' E172 z) (eM' D) z (trivial)<|gy z z (bD' z z) z<|yy (o' z z) z<|u'<|am'<|b'<|I' hr z (fun R hr=>?_) (fun R hr=>?_)
      ·exact (show False from hr).elim
      ·refine n'<|D'<|b'<|w'<|yy (N' z z) z<|mv z z<|u'<|O' ⟨IntKind.i64.wrap (h+1),p⟩ hr (mt k o) (fc z (fc z (fc z (fc z fn)))) (wk ln)
     ·refine cn (fun _ i=>f' z)<|ct z z<|ct z z<|ct z z<|ct z z<|ct z z<|ct z z<|ct z z<|ct z z<|Y' J<|sk z z z<|sk z z z<|yy (l' z z) z<|u'<|am'<|b'<|bh' z<|n'<|D'<|b'<|w'<|yy (N' z z) z<|mv z z<|u'<|O' ⟨IntKind.i64.wrap (h+1),p⟩ hr (mt k o) (fc z (fc z (fc z (fc z fn)))) (wk ln)
   ·refine ae'<|m'<|m'<|J'<|af' m ⟨k,hr⟩ fn (wk ln)
 ·rintro q ⟨V,hr⟩
  refine b'<|sr<|sg z z<|nx<|j' ?_
  obtain rfl:_=r:=hr
  exact k' z z z
theorem fk'{m1 r}(hr:(Zb9 m1).Ret r):Ctr Tryz.prog 146 #[.agg (vecG (Value.int .i64) 8 m1).toArray] (fun G=>True) (fun G v=>v = .int .u8 r):=by
 refine C' (args:=[_]) (N:=19) Tryz.func146 z z z fun n j A q=>sr<|W' 1 z z z fun B=>sg z z<|nr<|sg z z<|nx<|h'<|sr<|yy (s' 1 ca' z z (Q' _ _ _)) z<|mv z z<|nx<|ab' (fun (⟨h,g⟩:Int×Mem)=>[(3,.int .u8 h)]) (fun ⟨h,g⟩=>Mem.le j g∧(Zbv h).Ret r) (fun ⟨h,g⟩=>St n j g []) ?_ ?_
 ·refine A' ?_
  let i:Int→Prop:=fun s=>((fun x=>match x with|h=>Zbv h:Int→Comp Int) s).wp (fun a=>a=r)
  replace hr:(Comp.loop _ _).wp i:=hr
  refine ac' (Φ:=i) (fun (⟨f,c,d⟩:Int×Int×Mem)=>((f,c):Int×Int)) (fun ⟨f,c,d⟩=>[(3,.int .u8 f),(6,.agg (vecG (Value.int .i64) 8 m1).toArray),(7,i' c)]) (fun ⟨f,c,d⟩=>Mem.le j d) (fun ⟨f,c,d⟩=>St n j d []) ⟨0,0,j⟩ hr (fc z (fc z (fc z fn))) mr (wk ln) ?_
  ·intro y t u hr
   obtain⟨f,c,d⟩:=t
   have e:=u
   refine sr<|yy (V' z z) z<|nx<|h'<|I' hr z (fun l hr=>?_) (fun l hr=>?_)
   ·refine n'<|b'<|h'<|A'<|sr<|mv z z ?_
    obtain⟨k,hr⟩:=hr
    refine yy (Y0.index aG' sc3 sz3 z z k (bA' _ _ _ k)) z<|sg z z<|sg z z<|nr<|mv z z<|yy (bt' z z) z<|nx<|I' hr z (fun m hr=>?_) (fun m hr=>?_)
    ·refine w'<|mv z z<|mv z z ?_
     obtain⟨o,hr⟩:=hr
     refine yy (Y0.shl z z o) z<|yy (Y0.or z z) z<|sg z z<|u'<|D'<|b'<|w'<|yy (N' z z) z<|mv z z<|u'<|O' ⟨IntKind.u8.wrap (BitVec.ofInt IntKind.u8.bits f ||| BitVec.ofInt IntKind.u8.bits (IntKind.u8.wrap (1*2 ^ (min (c).toNat IntKind.u8.bits)))).toNat,IntKind.i64.wrap (c+1),d⟩ hr e (fc z (fc z (fc z fn))) (wk ln)
    ·refine n'<|D'<|b'<|w'<|yy (N' z z) z<|mv z z<|u'<|O' ⟨f,IntKind.i64.wrap (c+1),d⟩ hr e (fc z (fc z (fc z fn))) (wk ln)
   ·refine ae'<|m'<|m'<|J'<|af' ⟨f,d⟩ ⟨e,hr⟩ (fc z fn) (wk ln)
 ·rintro⟨h,g⟩ ⟨p,hr⟩
  refine b'<|sr<|mv z z<|sg z z<|nx<|j' ?_
  obtain rfl:_=r:=hr
  exact k' z z z
theorem cL'{p1 p1p p1c r}(hr:(ZaT p1).Ret r):Ctr Tryz.prog 106 #[.slice p1p p1.length p1c] (fun G=>sl r' G p1p p1c p1) (fun G v=>v = .int .u8 r):=by
 refine C' (args:=[_]) (N:=19) Tryz.func106 z z z (fun E q O A=>?_)
 have s:=A
 refine sr<|sg z z<|nr<|sg z z<|nx<|h'<|sr<|mv z z<|yy (L' R' s z) z<|mv z z<|nx<|ab' (fun (⟨o,m⟩:Int×Mem)=>[(3,.int .u8 o)]) (fun ⟨o,m⟩=>Mem.le q m∧(ZbM o).Ret r) (fun ⟨o,m⟩=>St E q m []) ?_ ?_
 ·refine A' ?_
  let p:Int→Prop:=fun I=>((fun L=>match L with|o=>ZbM o:Int→Comp Int) I).wp (fun a=>a=r)
  replace hr:(Comp.loop _ _).wp p:=hr
  refine ac' (Φ:=p) (fun (⟨n,h,i⟩:Int×Int×Mem)=>((n,h):Int×Int)) (fun ⟨n,h,i⟩=>[(3,.int .u8 n),(6,.slice p1p p1.length p1c),(7,i' (p1.length:Int)),(8,i' h)]) (fun ⟨n,h,i⟩=>Mem.le q i) (fun ⟨n,h,i⟩=>St E q i []) ⟨0,0,q⟩ hr (fc z (fc z (fc z (fc z fn)))) mr (wk ln) ?_
  ·intro M J K hr
   obtain⟨n,h,i⟩:=J
   have j:=K
   refine sr<|yy (V' z z) z<|nx<|h'<|I' hr z (fun C hr=>?_) (fun C hr=>?_)
   ·refine n'<|b'<|h'<|A'<|sr ?_
    obtain⟨g,t,hr⟩:=hr
    refine yy (P' R' bC' (s.mono j) z z t) z ?_
    obtain⟨d,c,e,f,F,k,l⟩:=cF' (E' (X' s t) j)
    refine yy (ax' _ ag101 z z F) z<|U' 5 z z101 z fun P=>v' 5 z bC' z z z z z (fun u D=>Rp.one r' (G:=i) (x:=g) (cs:=([.bool g.c.num.neg,.slice d g.c.num.mag.length c,.bool g.c.den.neg,.slice e g.c.den.mag.length f]:List Value)++(vecG (Value.int .i64) 8 g.m)) ⟨[.bool g.c.num.neg,.slice d g.c.num.mag.length c,.bool g.c.den.neg,.slice e g.c.den.mag.length f],vecG (Value.int .i64) 8 g.m,z,⟨(v58' g.c.num d c),(v58' g.c.den e f),z,⟨[.bool g.c.num.neg],[.slice d g.c.num.mag.length c],z,z,⟨_,z,k⟩⟩,⟨[.bool g.c.den.neg],[.slice e g.c.den.mag.length f],z,z,⟨_,z,l⟩⟩⟩,z⟩ u (by first|simpa using D|simpa [Value.cells] using D))<|nx<|w'<|mv z z<|yy (bn' z) z<|yy (av' (vecG (Value.int .i64) 8 g.m).toArray 5 ca' z z (Q' _ _ _) (aN' ([.bool g.c.num.neg,.slice d g.c.num.mag.length c,.bool g.c.den.neg,.slice e g.c.den.mag.length f]) (vecG (Value.int .i64) 8 g.m) ([]))) z ?_
    obtain⟨B,y,hr⟩:=hr
    refine H' z z (t' E146 z) (fk' y) z (trivial)<|yy (Y0.or z z) z<|sg z z<|u'<|D'<|b'<|w'<|yy (N' z z) z<|mv z z<|u'<|O' ⟨IntKind.u8.wrap (BitVec.ofInt IntKind.u8.bits n ||| BitVec.ofInt IntKind.u8.bits B).toNat,IntKind.i64.wrap (h+1),i⟩ hr j (fc z (fc z (fc z (fc z fn)))) (wk ln)
   ·refine ae'<|m'<|m'<|J'<|af' ⟨n,i⟩ ⟨j,hr⟩ (fc z fn) (wk ln)
 ·rintro⟨o,m⟩ ⟨H,hr⟩
  refine b'<|sr<|mv z z<|sg z z<|nx<|j' ?_
  obtain rfl:_=r:=hr
  exact k' z z z
theorem fu'{m1 r}(hr:(ZcK m1).Ret r):Ctr Tryz.prog 173 #[.agg (vecG (Value.int .i64) 8 m1).toArray] (fun G=>True) (fun G v=>v=i' r):=by
 refine C' (args:=[_]) (N:=15) Tryz.func173 z z z fun m j x o=>sr<|W' 1 z z z fun y=>sg z z<|nr<|sg z z<|nx<|h'<|sr<|yy (s' 1 ca' z z (Q' _ _ _)) z<|mv z z<|nx<|ab' (fun (⟨g,e⟩:Int×Mem)=>[(3,i' g)]) (fun ⟨g,e⟩=>Mem.le j e∧(ZbK g).Ret r) (fun ⟨g,e⟩=>St m j e []) ?_ ?_
 ·refine A' ?_
  let i:Int→Prop:=fun p=>((fun t=>match t with|g=>ZbK g:Int→Comp Int) p).wp (fun a=>a=r)
  replace hr:(Comp.loop _ _).wp i:=hr
  refine ac' (Φ:=i) (fun (⟨f,c,d⟩:Int×Int×Mem)=>((f,c):Int×Int)) (fun ⟨f,c,d⟩=>[(3,i' f),(6,.agg (vecG (Value.int .i64) 8 m1).toArray),(7,i' c)]) (fun ⟨f,c,d⟩=>Mem.le j d) (fun ⟨f,c,d⟩=>St m j d []) ⟨0,0,j⟩ hr (fc z (fc z (fc z fn))) mr (wk ln) ?_
  ·intro u q s hr
   obtain⟨f,c,d⟩:=q
   have h:=s
   refine sr<|yy (V' z z) z<|nx<|h'<|I' hr z (fun l hr=>?_) (fun l hr=>?_)
   ·refine n'<|b'<|h'<|A'<|sr ?_
    obtain⟨k,hr⟩:=hr
    refine yy (Y0.index aG' sc3 sz3 z z k (bA' _ _ _ k)) z<|sg z z<|nx<|w'<|mv z z<|mv z z<|yy (N' z z) z<|sg z z<|u'<|D'<|b'<|w'<|yy (N' z z) z<|mv z z<|u'<|O' ⟨IntKind.i64.wrap (f+(getF m1 c)),IntKind.i64.wrap (c+1),d⟩ hr h (fc z (fc z (fc z fn))) (wk ln)
   ·refine ae'<|m'<|m'<|J'<|af' ⟨f,d⟩ ⟨h,hr⟩ (fc z fn) (wk ln)
 ·rintro⟨g,e⟩ ⟨n,hr⟩
  refine b'<|sr<|mv z z<|sg z z<|nx<|j' ?_
  obtain rfl:_=r:=hr
  exact k' z z z
theorem dt'{p1 p1p p1c r}(hr:(Za2 p1).Ret r):Ctr Tryz.prog 134 #[.slice p1p p1.length p1c] (fun G=>sl r' G p1p p1c p1) (fun G v=>v=i' r):=by
 refine C' (args:=[_]) (N:=19) Tryz.func134 z z z (fun E q O B=>?_)
 have s:=B
 refine sr<|sg z z<|nr<|sg z z<|nx<|h'<|sr<|mv z z<|yy (L' R' s z) z<|mv z z<|nx<|ab' (fun (⟨o,n⟩:Int×Mem)=>[(3,i' o)]) (fun ⟨o,n⟩=>Mem.le q n∧(Zbl o).Ret r) (fun ⟨o,n⟩=>St E q n []) ?_ ?_
 ·refine A' ?_
  let p:Int→Prop:=fun I=>((fun L=>match L with|o=>Zbl o:Int→Comp Int) I).wp (fun a=>a=r)
  replace hr:(Comp.loop _ _).wp p:=hr
  refine ac' (Φ:=p) (fun (⟨l,h,i⟩:Int×Int×Mem)=>((l,h):Int×Int)) (fun ⟨l,h,i⟩=>[(3,i' l),(6,.slice p1p p1.length p1c),(7,i' (p1.length:Int)),(8,i' h)]) (fun ⟨l,h,i⟩=>Mem.le q i) (fun ⟨l,h,i⟩=>St E q i []) ⟨(-1),0,q⟩ hr (fc z (fc z (fc z (fc z fn)))) mr (wk ln) ?_
  ·intro M J K hr
   obtain⟨l,h,i⟩:=J
   have j:=K
   refine sr<|yy (V' z z) z<|nx<|h'<|I' hr z (fun C hr=>?_) (fun C hr=>?_)
   ·refine n'<|b'<|h'<|A'<|sr ?_
    obtain⟨g,y,hr⟩:=hr
    refine yy (P' R' bC' (s.mono j) z z y) z ?_
    obtain⟨d,c,e,f,F,k,m⟩:=cF' (E' (X' s y) j)
    refine yy (ax' _ ag101 z z F) z<|U' 5 z z101 z fun P=>v' 5 z bC' z z z z z (fun u D=>Rp.one r' (G:=i) (x:=g) (cs:=([.bool g.c.num.neg,.slice d g.c.num.mag.length c,.bool g.c.den.neg,.slice e g.c.den.mag.length f]:List Value)++(vecG (Value.int .i64) 8 g.m)) ⟨[.bool g.c.num.neg,.slice d g.c.num.mag.length c,.bool g.c.den.neg,.slice e g.c.den.mag.length f],vecG (Value.int .i64) 8 g.m,z,⟨(v58' g.c.num d c),(v58' g.c.den e f),z,⟨[.bool g.c.num.neg],[.slice d g.c.num.mag.length c],z,z,⟨_,z,k⟩⟩,⟨[.bool g.c.den.neg],[.slice e g.c.den.mag.length f],z,z,⟨_,z,m⟩⟩⟩,z⟩ u (by first|simpa using D|simpa [Value.cells] using D))<|nx<|w'<|mv z z<|yy (bn' z) z<|yy (av' (vecG (Value.int .i64) 8 g.m).toArray 5 ca' z z (Q' _ _ _) (aN' ([.bool g.c.num.neg,.slice d g.c.num.mag.length c,.bool g.c.den.neg,.slice e g.c.den.mag.length f]) (vecG (Value.int .i64) 8 g.m) ([]))) z ?_
    obtain⟨t,A,hr⟩:=hr
    refine H' z z (t' E173 z) (fu' A) z (trivial)<|yy (Y0.max2 z z) z<|sg z z<|u'<|D'<|b'<|w'<|yy (N' z z) z<|mv z z<|u'<|O' ⟨if l<t then t else l,IntKind.i64.wrap (h+1),i⟩ hr j (fc z (fc z (fc z (fc z fn)))) (wk ln)
   ·refine ae'<|m'<|m'<|J'<|af' ⟨l,i⟩ ⟨j,hr⟩ (fc z fn) (wk ln)
 ·rintro⟨o,n⟩ ⟨H,hr⟩
  refine b'<|sr<|mv z z<|sg z z<|nx<|j' ?_
  obtain rfl:_=r:=hr
  exact k' z z z
theorem gs'{p1 n1 p1p p1c r}(hr:(ZfA p1 n1).Ret r):Ctr Tryz.prog 88 #[.slice p1p p1.length p1c,i' n1] (fun G=>sl r' G p1p p1c p1) (fun G v=>v = .bool r):=by
 refine C' (args:=[_,_]) (N:=20) Tryz.func88 z z z (fun o n k d=>?_)
 have c:=d
 refine sr<|sg z z<|nr<|mv z z ?_
 obtain⟨h,g,hr⟩:=hr
 refine H' z z (t' E133 z) (dy' g) z (c) ?_
 cases h
 ·skip
  refine mv z z<|sk z z z<|sk z z z<|sk z z z<|sk z z z<|sk z z z<|sk z z z<|yy (l' z z) z<|mv z z<|sk z z z<|sk z z z<|sk z z z<|yy (l' z z) z<|sg z z<|nx<|j' ?_
  obtain rfl:_=r:=hr
  exact k' z z z
 ·skip
  refine mv z z<|gy z z (f' z) z ?_
  obtain⟨m,f,hr⟩:=hr
  refine H' (F' z z) z (t' E106 z) (cL' f) z (c)<|gy z z (aD' aT' au' z) z<|gy z z (f' z) z ?_
  obtain⟨j,hr⟩:=hr
  refine gy z z (Y0.shr z z j) z<|aj' hr (F' z z) (ak' z z) z (fun i hr=>?_) (fun i hr=>?_)
  ·refine yy (o' z z) z<|mv z z<|gy z z (f' z) z ?_
   obtain⟨l,e,hr⟩:=hr
   refine H' (F' z z) z (t' E134 z) (dt' e) z (c)<|gy z z (bD' z z) z<|yy (o' z z) z<|sg z z<|nx<|j' ?_
   obtain rfl:_=r:=hr
   exact k' z z z
  ·refine yy (o' z z) z<|mv z z<|sk z z z<|sk z z z<|sk z z z<|yy (l' z z) z<|sg z z<|nx<|j' ?_
   obtain rfl:_=r:=hr
   exact k' z z z
theorem eg'{a0_1 a0_1varsp a0_1varsc a0_1eqsp a0_1eqsc a0_1neqsp a0_1neqsc r}(hr:(Zba a0_1).Ret r):Ctr Tryz.prog 52 #[.agg ((v33' a0_1 a0_1varsp a0_1varsc a0_1eqsp a0_1eqsc a0_1neqsp a0_1neqsc)).toArray] (fun G=>sl Rp.str G a0_1varsp a0_1varsc a0_1.vars∧sl a' G a0_1eqsp a0_1eqsc a0_1.eqs∧sl a' G a0_1neqsp a0_1neqsc a0_1.neqs) (fun G v=>v = .bool r):=by
 refine C' (args:=[_]) (N:=108) Tryz.func52 z z z (fun T L a9 aI=>?_)
 obtain⟨g,W,R⟩:=aI
 refine sr<|W' 1 z z z fun x=>sg z z<|nx<|aV' (fun (f:Mem)=>match f with|B=>[(1,.pointer (some ⟨x,0,none⟩))]) (fun (f:Mem)=>match f with|B=>Mem.le L B∧(Ze6 a0_1).Ret r) (fun (f:Mem)=>match f with|B=>St T L B [(1,some ⟨x,.cells ((v33' a0_1 a0_1varsp a0_1varsc a0_1eqsp a0_1eqsc a0_1neqsp a0_1neqsc)).toArray 33 (0,0),0⟩)]) ?_ ?_
 ·skip
  refine sr<|yy (as' z) z<|yy (e' 1 bo' z z z) z<|yy (L' y' g z) z<|aj' hr z (bt' z z) z (fun aN hr=>?_) (fun aN hr=>?_)
  ·refine mv z z<|sf z z z<|sf z z z<|sf z z z<|yy (o' z z) z<|mv z z<|sf z z z<|sf z z z<|sf z z z<|yy (o' z z) z<|nx<|at' z<|sr<|sg z z<|nx<|j' ?_
   replace hr:_=r:=hr
   refine g' ?_
   subst hr
   exact k' z z z
  ·refine mv z z<|gy z z (bg' z) z<|gy z z (e' 1 sc3 z z z) z<|aj' hr (F' z z) (V' z z) z (fun a0 hr=>?_) (fun a0 hr=>?_)
   ·refine yy (l' z z) z<|mv z z<|sf z z z<|sf z z z<|sf z z z<|yy (o' z z) z<|nx<|at' z<|sr<|sg z z<|nx<|j' ?_
    replace hr:_=r:=hr
    refine g' ?_
    subst hr
    exact k' z z z
   ·refine yy (l' z z) z<|mv z z<|gy z z (bg' z) z<|gy z z (e' 1 sc3 z z z) z<|gy z z (bt' z z) z<|yy (l' z z) z<|nx<|I' hr z (fun a2 hr=>?_) (fun a2 hr=>?_)
    ·refine sr<|sg z z<|nx<|j' ?_
     replace hr:_=r:=hr
     refine g' ?_
     subst hr
     exact k' z z z
    ·refine n'<|ar' L ⟨mr,hr⟩ (fc z fn) (wk (lc z ln))
 ·rintro B ⟨s,hr⟩
  refine sr<|WL.makeMap (ky:=ky9) (Rv:=RvS Rp.bool B) 4025 z z fun ao aj aH=>sg z z<|nx<|h'<|sr<|yy (as' z) z<|yy (e' 1 bo' z z z) z<|yy (L' y' (g.mono s) z) z<|mv z z<|nx<|ab' (fun (f:Mem)=>match f with|M=>[(1,.pointer (some ⟨x,0,none⟩))]) (fun (f:Mem)=>match f with|M=>Mem.le B M∧(ZbA a0_1).Ret r) (fun (f:Mem)=>match f with|M=>St T L M [(1,some ⟨x,.cells ((v33' a0_1 a0_1varsp a0_1varsc a0_1eqsp a0_1eqsc a0_1neqsp a0_1neqsc)).toArray 33 (0,0),0⟩)]) ?_ ?_
  ·refine A' ?_
   let ad:(Bool⊕Unit)→Prop:=fun oo=>((fun ov=>match ov with | .inl rv3=>Comp.ret rv3 | .inr ()=>ZbA a0_1:(Bool⊕Unit)→Comp Bool) oo).wp (fun a=>a=r)
   replace hr:(Comp.loop _ _).wp ad:=hr
   refine ac' (Φ:=ad) (fun (⟨l,K,t,u⟩:Int×(List (ByteArray×Bool))×Option Ow×Mem)=>((l,K):Int×(List (ByteArray×Bool)))) (fun ⟨l,K,t,u⟩=>[(1,.pointer (some ⟨x,0,none⟩)),(27,.slice a0_1varsp a0_1.vars.length a0_1varsc),(28,i' (a0_1.vars.length:Int)),(29,i' l),(3,.map (some ao))]) (fun ⟨l,K,t,u⟩=>Mem.le B u∧MapR ky9 (RvS Rp.bool u) (.map (some ao)) K t) (fun ⟨l,K,t,u⟩=>St T L u [(1,some ⟨x,.cells ((v33' a0_1 a0_1varsp a0_1varsc a0_1eqsp a0_1eqsc a0_1neqsp a0_1neqsc)).toArray 33 (0,0),0⟩),(4025,t)]) ⟨0,[],aj,B⟩ hr (fc z (fc z (fc z (fc z (fc z fn))))) ⟨mr,aH⟩ (wk (lc z (lc z ln))) ?_
   ·intro bd f hx hr
    obtain⟨l,K,t,u⟩:=f
    obtain⟨D,ag⟩:=hx
    refine sr<|yy (V' z z) z<|nx<|h'<|I' hr z (fun aV hr=>?_) (fun aV hr=>?_)
    ·refine n'<|b'<|h'<|A'<|sr ?_
     obtain⟨x4,ap,hr⟩:=hr
     refine yy (P' y' sz9 (g.mono (mt s D)) z z ap) z<|yy (T' sc9 z (bB' (E' (X' g ap) (mt s D)))) z<|sg z z<|nx<|h'<|sr<|mv z z ?_
     obtain⟨ba,aC,hr⟩:=hr
     refine H' z z (t' E87 z) (fR' aC) z (trivial) ?_
     cases ba
     ·skip
      refine yy (an' z) z<|mv z z<|sf z z z<|sf z z z<|sf z z z<|yy (o' z z) z<|nx<|at' z<|sr<|sg z z<|nx<|j' ?_
      replace hr:_=r:=hr
      refine g'<|x'<|g'<|g'<|x'<|aH'<|g' ?_
      subst hr
      exact k' z z z
     ·skip
      refine yy (an' z) z<|mv z z<|gy z z (f' z) z<|gy z z (f' z) z ?_
      obtain⟨aX,hr⟩:=hr
      refine gy z z (Y0.mapGet1 (mk:=Value.bool) (k:=x4) 4025 false (fun h=>ZkG h) Tryz.underlying124 zv4 ag z z z aX) z<|yy (l' z z) z<|nx<|aM' hr z (fun a5 hr=>?_) (fun a5 hr=>?_)
      ·refine sr<|sg z z<|nx<|j' ?_
       replace hr:_=r:=hr
       refine g'<|x'<|g'<|g'<|x'<|aH'<|g' ?_
       subst hr
       exact k' z z z
      ·refine n'<|b'<|w'<|mv z z<|mv z z ?_
       obtain⟨⟨aW,aJ⟩,hr⟩:=hr
       refine WL.mapPut (Rv':=RvS Rp.bool u) (k:=x4) (z:=true) 4025 z Tryz.underlying124 ag z z z z aW z (fun _ _ _ _ h=>h) aJ fun aM az=>u'<|D'<|b'<|w'<|yy (N' z z) z<|mv z z<|u'<|O' ⟨IntKind.i64.wrap (l+1),(mput K x4 true),aM,u⟩ hr ⟨D,az⟩ (fc z (fc z (fc z (fc z (fc z fn))))) (wk (lc z (lc z ln)))
    ·refine ae'<|m'<|m'<|J'<|af' u ⟨D,hr⟩ (fc z fn) (wk (lc z ln))
  ·rintro M ⟨P,hr⟩
   refine b'<|sr<|WL.makeMap (ky:=ky3) (Rv:=RvS Rp.bool M) 4044 z z fun F ak aF=>sg z z<|nx<|h'<|sr<|yy (az' z) z<|yy (e' 1 aS' z z z) z<|yy (aK' z) z<|yy (e' 1 aS' z z z) z<|aU' (e:=31) (r:=(Rp.sl a')) (vs:=#[(0,.slice a0_1eqsp a0_1.eqs.length a0_1eqsc),(1,.slice a0_1neqsp a0_1.neqs.length a0_1neqsc)]) (cs:=[.slice a0_1eqsp a0_1.eqs.length a0_1eqsc]++([.slice a0_1neqsp a0_1.neqs.length a0_1neqsc]++([]))) ([a0_1.eqs,a0_1.neqs]:List (List Za)) z z z z z (by decide) (fun _=>by kernel_rfl) ⟨[.slice a0_1eqsp a0_1.eqs.length a0_1eqsc],[.slice a0_1neqsp a0_1.neqs.length a0_1neqsc]++([]),z,⟨_,z,(W.mono (mt s P))⟩,⟨[.slice a0_1neqsp a0_1.neqs.length a0_1neqsc],[],z,⟨_,z,(R.mono (mt s P))⟩,z⟩⟩ (key:=999) z (by rw[a9]; rfl) fun p1 ae Y ah=>yy (L' bx' ah z) z<|mv z z<|nx<|ab' (fun (f:Mem)=>match f with|S=>[]) (fun (f:Mem)=>match f with|S=>Mem.le ae S∧(ZcP).Ret r) (fun (f:Mem)=>match f with|S=>St T L S []) ?_ ?_
   ·refine A' ?_
    let Q:(Bool⊕Unit)→Prop:=fun oo=>((fun ov=>match ov with | .inl rv1=>Comp.ret rv1 | .inr ()=>ZcP:(Bool⊕Unit)→Comp Bool) oo).wp (fun a=>a=r)
    replace hr:(Comp.loop _ _).wp Q:=hr
    refine ac' (Φ:=Q) (fun (⟨d,J,m,o⟩:Int×(List (Int×Bool))×Option Ow×Mem)=>((d,J):Int×(List (Int×Bool)))) (fun ⟨d,J,m,o⟩=>[(1,.pointer (some ⟨x,0,none⟩)),(49,.slice p1 2 2),(50,i' ([a0_1.eqs,a0_1.neqs].length:Int)),(51,i' d),(6,.map (some F))]) (fun ⟨d,J,m,o⟩=>Mem.le ae o∧MapR ky3 (RvS Rp.bool o) (.map (some F)) J m) (fun ⟨d,J,m,o⟩=>St T L o [(1,some ⟨x,.cells ((v33' a0_1 a0_1varsp a0_1varsc a0_1eqsp a0_1eqsc a0_1neqsp a0_1neqsc)).toArray 33 (0,0),0⟩),(4044,m)]) ⟨0,[],ak,ae⟩ hr (fc z (fc z (fc z (fc z (fc z fn))))) ⟨mr,(MapR.mono aF Y)⟩ (wk (lc z (lc z ln))) ?_
    ·intro av f hx hr
     obtain⟨d,J,m,o⟩:=f
     obtain⟨y,aB⟩:=hx
     refine sr<|yy (V' z z) z<|nx<|h'<|I' hr z (fun aZ hr=>?_) (fun aZ hr=>?_)
     ·refine n'<|b'<|h'<|A'<|sr ?_
      obtain⟨Z,aq,hr⟩:=hr
      refine yy (P' bx' cu' (ah.mono y) z z aq) z ?_
      obtain⟨p2,X,a4,O⟩:=bU' (E' (X' ah aq) y)
      refine yy (T' aS' z (a4)) z<|sg z z<|nx<|h'<|sr<|mv z z<|yy (L' q' O z) z<|yy (bt' z z) z<|nx<|I' hr z (fun a1 hr=>?_) (fun a1 hr=>?_)
      ·exact (show False from hr).elim
      ·refine n'<|b'<|sr<|mv z z<|yy (L' q' O z) z<|mv z z<|nx<|ab' (fun (⟨C,q,I⟩:(List (Int×Bool))×Option Ow×Mem)=>[(1,.pointer (some ⟨x,0,none⟩)),(49,.slice p1 2 2),(50,i' ([a0_1.eqs,a0_1.neqs].length:Int)),(51,i' d),(6,.map (some F))]) (fun ⟨C,q,I⟩=>Mem.le o I∧MapR ky3 (RvS Rp.bool I) (.map (some F)) C q∧(ZcQ d C).wp (Out av Q)) (fun ⟨C,q,I⟩=>St T L I [(1,some ⟨x,.cells ((v33' a0_1 a0_1varsp a0_1varsc a0_1eqsp a0_1eqsc a0_1neqsp a0_1neqsc)).toArray 33 (0,0),0⟩),(4044,q)]) ?_ ?_
       ·refine A' ?_
        let V:(Bool⊕((List (Int×Bool))))→Prop:=fun oo=>((fun ov=>match ov with | .inl rv2=>Comp.ret (.inr (.inl rv2)) | .inr C=>ZcQ d C:(Bool⊕((List (Int×Bool))))→Comp ((Int×(List (Int×Bool)))⊕(Bool⊕Unit))) oo).wp (Out av Q)
        replace hr:(Comp.loop _ _).wp V:=hr
        refine ac' (Φ:=V) (fun (⟨i,A,j,p⟩:Int×(List (Int×Bool))×Option Ow×Mem)=>((i,A):Int×(List (Int×Bool)))) (fun ⟨i,A,j,p⟩=>[(1,.pointer (some ⟨x,0,none⟩)),(8,.slice p2 Z.length X),(49,.slice p1 2 2),(50,i' ([a0_1.eqs,a0_1.neqs].length:Int)),(51,i' d),(58,.slice p2 Z.length X),(59,i' (Z.length:Int)),(60,i' i),(6,.map (some F))]) (fun ⟨i,A,j,p⟩=>Mem.le o p∧MapR ky3 (RvS Rp.bool p) (.map (some F)) A j) (fun ⟨i,A,j,p⟩=>St T L p [(1,some ⟨x,.cells ((v33' a0_1 a0_1varsp a0_1varsc a0_1eqsp a0_1eqsc a0_1neqsp a0_1neqsc)).toArray 33 (0,0),0⟩),(4044,j)]) ⟨0,J,m,o⟩ hr (fc z (fc z (fc z (fc z (fc z (fc z (fc z (fc z (fc z fn))))))))) ⟨mr,aB⟩ (wk (lc z (lc z ln))) ?_
        ·intro a7 f hx hr
         obtain⟨i,A,j,p⟩:=f
         obtain⟨n,U⟩:=hx
         refine sr<|yy (V' z z) z<|nx<|h'<|I' hr z (fun a8 hr=>?_) (fun a8 hr=>?_)
         ·refine n'<|b'<|h'<|A'<|sr<|mv z z ?_
          obtain⟨x2,ar,hr⟩:=hr
          refine yy (P' q' aO' (O.mono n) z z ar) z ?_
          obtain⟨aD,ay,aQ,aK⟩:=bd' (E' (X' O ar) n)
          refine yy (ax' _ bL' z z aQ) z<|U' 10 z z68 z fun b2=>sg z z<|v' 10 z aO' z z z z z (List.all_eq_true.1 z)<|nx<|aV' (fun (f:Mem)=>match f with|H=>[(1,.pointer (some ⟨x,0,none⟩)),(8,.slice p2 Z.length X),(10,.pointer (some ⟨b2,0,none⟩)),(49,.slice p1 2 2),(50,i' ([a0_1.eqs,a0_1.neqs].length:Int)),(51,i' d),(58,.slice p2 Z.length X),(59,i' (Z.length:Int)),(60,i' i),(6,.map (some F))]) (fun (f:Mem)=>match f with|H=>Mem.le p H∧(Zbz a0_1 i A x2).wp (Out a7 V)) (fun (f:Mem)=>match f with|H=>St T L H [(1,some ⟨x,.cells ((v33' a0_1 a0_1varsp a0_1varsc a0_1eqsp a0_1eqsc a0_1neqsp a0_1neqsc)).toArray 33 (0,0),0⟩),(10,some ⟨b2,.cells ((v68' x2.id aD x2.p ay)).toArray 68 (0,0),0⟩),(4044,j)]) ?_ ?_
          ·skip
           refine h'<|Z' [false,false,false,false,false,false,false,false,false,false,false,false,false,false,false,false,false,false,false,false,false,false,false,false,false,false,false,false] mix (by kernel_rfl) fun hb=>cn (fun _ c=>bc' z)<|cn (fun _ c=>e' 10 sc3 z z z)<|bY' hr z (fun _ c=>V' z z) (fun aS hr=>?_) (fun aS hr=>?_)
           ·refine cn (fun _ c=>f' z)<|cf z z<|cf z z<|cf z z<|cf z z<|cf z z<|cn (fun _ c=>o' z z)<|cn (fun _ c=>f' z)<|cf z z<|cf z z<|cf z z<|cf z z<|cn (fun _ c=>o' z z)<|cn (fun _ c=>f' z)<|cf z z<|cf z z<|cf z z<|cs z z<|cs z z<|cs z z<|cs z z<|cs z z<|cs z z<|cs z z<|cs z z<|Y' hb<|aF' (ai' z z) z<|sf z z z<|yy (o' z z) z<|u'<|am'<|b'<|at' z<|sr<|sg z z<|nx<|j' ?_
            replace hr:_=r:=hr
            refine g'<|x'<|g'<|g'<|x'<|aH'<|x'<|g'<|g'<|x'<|aH'<|g' ?_
            subst hr
            exact k' z z z
           ·refine cn (fun _ c=>f' z)<|cy z z (fun _ c=>bc' z)<|cy z z (fun _ c=>e' 10 sc3 z z z)<|cy z z (fun _ c=>bg' z)<|cy z z (fun _ c=>e' 1 sc3 z z z)<|bY' hr (F' z z) (fun _ c=>be' z z) (fun aO hr=>?_) (fun aO hr=>?_)
            ·refine cn (fun _ c=>l' z z)<|cn (fun _ c=>f' z)<|cf z z<|cf z z<|cf z z<|cf z z<|cn (fun _ c=>o' z z)<|cn (fun _ c=>f' z)<|cf z z<|cf z z<|cf z z<|cs z z<|cs z z<|cs z z<|cs z z<|cs z z<|cs z z<|cs z z<|cs z z<|Y' hb<|aF' (ai' z z) z<|sf z z z<|yy (o' z z) z<|u'<|am'<|b'<|at' z<|sr<|sg z z<|nx<|j' ?_
             replace hr:_=r:=hr
             refine g'<|x'<|g'<|g'<|x'<|aH'<|x'<|g'<|g'<|x'<|aH'<|g' ?_
             subst hr
             exact k' z z z
            ·refine cn (fun _ c=>l' z z)<|cn (fun _ c=>f' z)<|cy z z (fun _ c=>f' z)<|cy z z (fun _ c=>bc' z)<|cy z z (fun _ c=>e' 10 sc3 z z z) ?_
             obtain⟨aP,hr⟩:=hr
             refine bY' hr (F' z z) (fun _ c=>cN' (Y0.mapGet1 (mk:=Value.bool) (k:=x2.id) 4044 false (fun h=>ZkG h) Tryz.underlying125 zv4 (MapR.mono U c) z z z aP) (congrArg Value.bool (bdec _))) (fun a3 hr=>?_) (fun a3 hr=>?_)
             ·refine cn (fun _ c=>l' z z)<|cn (fun _ c=>f' z)<|cf z z<|cf z z<|cf z z<|cs z z<|cs z z<|cs z z<|cs z z<|cs z z<|cs z z<|cs z z<|cs z z<|Y' hb<|aF' (ai' z z) z<|sf z z z<|yy (o' z z) z<|u'<|am'<|b'<|at' z<|sr<|sg z z<|nx<|j' ?_
              replace hr:_=r:=hr
              refine g'<|x'<|g'<|g'<|x'<|aH'<|x'<|g'<|g'<|x'<|aH'<|g' ?_
              subst hr
              exact k' z z z
             ·refine cn (fun _ c=>l' z z)<|cn (fun _ c=>f' z)<|cy z z (fun _ c=>f' z)<|bY' hr (F' z z) (fun _ c=>bt' z z) (fun aU hr=>?_) (fun aU hr=>?_)
              ·refine cy z z (fun _ c=>f' z)<|cy z z (fun _ c=>bc' z)<|cy z z (fun _ c=>e' 10 sc3 z z z)<|cy z z (fun _ c=>f' z)<|cy z z (fun _ c=>f' z)<|cy z z (fun _ c=>bf' z z) ?_
               obtain⟨x3,au,hr⟩:=hr
               refine cy z z (fun _ c=>P' q' aO' ((O.mono n).mono c) z z au)<|cy z z (fun _ c=>bc' z)<|cy z z (fun _ c=>T' sc3 z (aC' (E' (E' (bb' (aA' (X' O au))) n) c)))<|Y' hb<|gy z z (bD' z z) z<|gy z z (o' z z) z<|yy (l' z z) z<|u'<|am'<|b'<|I' hr z (fun aT hr=>?_) (fun aT hr=>?_)
               ·exact (show False from hr).elim
               ·refine n'<|ar' p ⟨mr,hr⟩ (fc z (fc z (fc z (fc z (fc z (fc z (fc z (fc z (fc z (fc z fn)))))))))) (wk (lc z (lc z (lc z ln))))
              ·refine cy z z (fun _ c=>f' z)<|ct z z<|ct z z<|ct z z<|ct z z<|ct z z<|ct z z<|ct z z<|ct z z<|Y' hb<|sk z z z<|gy z z (l' z z) z<|yy (l' z z) z<|u'<|am'<|b'<|bh' z<|n'<|ar' p ⟨mr,hr⟩ (fc z (fc z (fc z (fc z (fc z (fc z (fc z (fc z (fc z (fc z fn)))))))))) (wk (lc z (lc z (lc z ln))))
          ·rintro H ⟨E,hr⟩
           refine sr<|mv z z<|yy (bc' z) z<|yy (e' 10 sc3 z z z) z ?_
           obtain⟨⟨a6,ax⟩,hr⟩:=hr
           refine WL.mapPut (Rv':=RvS Rp.bool H) (k:=x2.id) (z:=true) 4044 z Tryz.underlying125 (MapR.mono U E) z z z z a6 z (fun _ _ _ _ h=>h) ax fun aR aA=>nr<|yy (bq' z) z<|yy (e' 10 bP' z z z) z<|yy (as' z) z<|yy (e' 1 bo' z z z) z<|yy (L' y' (g.mono (mt (mt (mt (mt (mt s P) Y) y) n) E)) z) z ?_
           obtain⟨bc,aw,hr⟩:=hr
           refine H' z z (t' E88 z) (gs' aw) z ((aK.mono E))<|yy (an' z) z<|nx<|aM' hr z (fun aY hr=>?_) (fun aY hr=>?_)
           ·exact (show False from hr).elim
           ·refine n'<|D'<|b'<|w'<|yy (N' z z) z<|mv z z<|u'<|O' ⟨IntKind.i64.wrap (i+1),(mput A x2.id true),aR,H⟩ hr ⟨(mt n E),aA⟩ (fc z (fc z (fc z (fc z (fc z (fc z (fc z (fc z (fc z fn))))))))) (wk (lc z (lc z ln)))
         ·refine ae'<|m'<|m'<|J'<|af' ⟨A,j,p⟩ ⟨n,U,hr⟩ (fc z (fc z (fc z (fc z (fc z fn))))) (wk (lc z (lc z ln)))
       ·rintro⟨C,q,I⟩ ⟨an,aG,hr⟩
        refine D'<|b'<|w'<|yy (N' z z) z<|mv z z<|u'<|O' ⟨IntKind.i64.wrap (d+1),C,q,I⟩ hr ⟨(mt y an),aG⟩ (fc z (fc z (fc z (fc z (fc z fn))))) (wk (lc z (lc z ln)))
     ·refine ae'<|m'<|m'<|J'<|af' o ⟨y,hr⟩ fn (wk ln)
   ·rintro S ⟨bb,hr⟩
    refine b'<|sr<|sg z z<|nx<|j' ?_
    obtain rfl:_=r:=hr
    exact k' z z z
theorem dM'{name1 r}(hr:(Zdp name1).Ret r):Ctr Tryz.prog 98 #[.string name1] (fun G=>True) (fun G v=>v = .bool r):=by
 refine C' (args:=[_]) (N:=7) Tryz.func98 z z z fun l m d i=>sr<|sg z z<|nr<|mv z z<|aU' (e:=9) (r:=Rp.str) (vs:=#[(0,.string name1)]) (cs:=[.string name1]++([])) ([name1]:List ByteArray) z z z z z (by decide) (fun _=>by kernel_rfl) ⟨[.string name1],[],z,z,z⟩ (key:=999) z (by rw[d]; rfl) fun f k h g=>yy (aq' (vs:=#[(0,.slice f 1 1),(3,i' 1)]) (v:=.agg ([.slice f 1 1,.slice none 0 0,.slice none 0 0,i' 1]).toArray) z z (fun _=>by kernel_rfl)) z ?_
 obtain⟨j,c,hr⟩:=hr
 refine H' z z (t' E52 z) (eg' c) z (⟨g,(aa' a' _),(aa' a' _)⟩)<|sg z z<|nx<|j' ?_
 obtain rfl:_=r:=hr
 exact k' z z z
theorem cz'{s1 v1 s1p s1c r}(hr:(Z8 s1 v1).Ret r):Ctr Tryz.prog 110 #[.slice s1p s1.length s1c,.string v1] (fun G=>sl Rp.str G s1p s1c s1) (fun G v=>v=i' r):=by
 refine C' (args:=[_,_]) (N:=19) Tryz.func110 z z z (fun o i x l=>?_)
 have j:=l
 refine sr<|sg z z<|nx<|h'<|sr<|mv z z<|yy (L' y' j z) z<|mv z z<|nx<|ab' (fun (g:Mem)=>match g with|f=>[]) (fun (g:Mem)=>match g with|f=>Mem.le i f∧(Zah).Ret r) (fun (g:Mem)=>match g with|f=>St o i f []) ?_ ?_
 ·refine A' ?_
  let h:(Int⊕Unit)→Prop:=fun q=>((fun t=>match t with | .inl rv1=>Comp.ret rv1 | .inr ()=>Zah:(Int⊕Unit)→Comp Int) q).wp (fun a=>a=r)
  replace hr:(Comp.loop _ _).wp h:=hr
  refine ac' (Φ:=h) (fun (⟨c,d⟩:Int×Mem)=>(c:Int)) (fun ⟨c,d⟩=>[(0,.slice s1p s1.length s1c),(1,.string v1),(7,i' (s1.length:Int)),(8,i' c)]) (fun ⟨c,d⟩=>Mem.le i d) (fun ⟨c,d⟩=>St o i d []) ⟨0,i⟩ hr (fc z (fc z (fc z (fc z fn)))) mr (wk ln) ?_
  ·intro u g s hr
   obtain⟨c,d⟩:=g
   have e:=s
   refine sr<|yy (V' z z) z<|nx<|h'<|I' hr z (fun m hr=>?_) (fun m hr=>?_)
   ·refine n'<|b'<|h'<|A'<|sr<|mv z z<|sg z z<|nr<|mv z z<|mv z z<|mv z z ?_
    obtain⟨y,k,hr⟩:=hr
    refine yy (P' y' sz9 (j.mono e) z z k) z<|yy (T' sc9 z (bB' (E' (X' j k) e))) z<|yy (Y0.eqlS aR' z z) z<|nx<|I' hr z (fun n hr=>?_) (fun n hr=>?_)
    ·refine sr<|mv z z<|sg z z<|nx<|j' ?_
     replace hr:_=r:=hr
     refine x'<|g'<|g'<|x'<|aH'<|g' ?_
     subst hr
     exact k' z z z
    ·refine n'<|D'<|b'<|w'<|yy (N' z z) z<|mv z z<|u'<|O' ⟨IntKind.i64.wrap (c+1),d⟩ hr e (fc z (fc z (fc z (fc z fn)))) (wk ln)
   ·refine ae'<|m'<|m'<|J'<|af' d ⟨e,hr⟩ fn (wk ln)
 ·rintro f ⟨p,hr⟩
  refine b'<|sr<|sg z z<|nx<|j' ?_
  obtain rfl:_=r:=hr
  exact k' z z z
theorem cX'{s1 v1 s1p s1c r}(hr:(Zaf s1 v1).Ret r):Ctr Tryz.prog 99 #[.slice s1p s1.length s1c,.string v1] (fun G=>sl Rp.str G s1p s1c s1) (fun G v=>v = .bool r):=by
 refine C' (args:=[_,_]) (N:=9) Tryz.func99 z z z (fun h i g c=>?_)
 have e:=c
 refine sr<|sg z z<|nr<|mv z z<|mv z z ?_
 obtain⟨f,d,hr⟩:=hr
 refine H' z z (t' E110 z) (cz' d) z (e)<|yy (be' z z) z<|sg z z<|nx<|j' ?_
 obtain rfl:_=r:=hr
 exact k' z z z
theorem cH'{l1 l1p l1c r}(hr:(Zy l1).Ret r):Ctr Tryz.prog 93 #[.slice l1p l1.length l1c] (fun G=>sl (Rp.fn Tryz.prog fa0 foI) G l1p l1c l1) (fun G v=>v=i' r):=by
 refine C' (args:=[_]) (N:=18) Tryz.func93 z z z (fun s j H o=>?_)
 have k:=o
 refine sr<|sg z z<|nx<|h'<|sr<|mv z z<|yy (L' Tryz.underlying165 k z) z<|mv z z<|nx<|ab' (fun (g:Mem)=>match g with|f=>[]) (fun (g:Mem)=>match g with|f=>Mem.le j f∧(ZdM).Ret r) (fun (g:Mem)=>match g with|f=>St s j f []) ?_ ?_
 ·refine A' ?_
  let i:(Int⊕Unit)→Prop:=fun B=>((fun D=>match D with | .inl rv1=>Comp.ret rv1 | .inr ()=>ZdM:(Int⊕Unit)→Comp Int) B).wp (fun a=>a=r)
  replace hr:(Comp.loop _ _).wp i:=hr
  refine ac' (Φ:=i) (fun (⟨c,e⟩:Int×Mem)=>(c:Int)) (fun ⟨c,e⟩=>[(6,.slice l1p l1.length l1c),(7,i' (l1.length:Int)),(8,i' c)]) (fun ⟨c,e⟩=>Mem.le j e) (fun ⟨c,e⟩=>St s j e []) ⟨0,j⟩ hr (fc z (fc z (fc z fn))) mr (wk ln) ?_
  ·intro F g C hr
   obtain⟨c,e⟩:=g
   have d:=C
   refine sr<|yy (V' z z) z<|nx<|h'<|I' hr z (fun q hr=>?_) (fun q hr=>?_)
   ·refine n'<|b'<|h'<|A'<|sr ?_
    obtain⟨I,m,hr⟩:=hr
    refine yy (P' Tryz.underlying165 sz131 (k.mono d) z z m) z ?_
    obtain⟨J,p,u⟩:=AtK.fnv (E' (X' k m) d)
    refine yy (T' sc131 z (p)) z<|sg z z<|nr<|mv z z ?_
    obtain⟨E,n,hr⟩:=hr
    refine WL.callFn (vs:=[]) (a:=()) z z u z z z n (fun A x l h=>?_)
    subst h
    refine sg z z<|nr<|mv z z<|yy (aQ' z z) z<|nx<|I' hr z (fun t hr=>?_) (fun t hr=>?_)
    ·refine sr<|mv z z<|sg z z<|nx<|j' ?_
     replace hr:_=r:=hr
     refine x'<|g'<|g'<|x'<|aH'<|g' ?_
     subst hr
     exact k' z z z
    ·refine n'<|D'<|b'<|w'<|yy (N' z z) z<|mv z z<|u'<|O' ⟨IntKind.i64.wrap (c+1),x⟩ hr (mt d l) (fc z (fc z (fc z fn))) (wk ln)
   ·refine ae'<|m'<|m'<|J'<|af' e ⟨d,hr⟩ fn (wk ln)
 ·rintro f ⟨y,hr⟩
  refine b'<|sr<|sg z z<|nx<|j' ?_
  obtain rfl:_=r:=hr
  exact k' z z z
theorem dX'{r}(hr:(Zbr).Ret r):Ctr Tryz.prog 100 #[] (fun G=>True) (fun G v=>v = .agg (vecG (Value.int .i64) 8 r).toArray):=by
 refine C' (args:=[]) (N:=10) Tryz.func100 z z z fun p k D s=>sr<|U' 0 z z83 z fun l=>nx<|h'<|sr<|mv z z<|nx<|ab' (fun (⟨d,g⟩:(Fin 8→Int)×Mem)=>[(0,.pointer (some ⟨l,0,none⟩))]) (fun ⟨d,g⟩=>Mem.le k g∧(Zb7 d).Ret r) (fun ⟨d,g⟩=>St p k g [(0,some ⟨l,.cells (vecG (Value.int .i64) 8 d).toArray 83 (0,0),0⟩)]) ?_ ?_
 ·refine A' ?_
  let j:(Fin 8→Int)→Prop:=fun t=>((fun B=>match B with|d=>Zb7 d:(Fin 8→Int)→Comp (Fin 8→Int)) t).wp (fun a=>a=r)
  replace hr:(Comp.loop _ _).wp j:=hr
  refine ac' (Φ:=j) (fun (⟨c,e,f⟩:Int×(Fin 8→Int)×Mem)=>((c,e):Int×(Fin 8→Int))) (fun ⟨c,e,f⟩=>[(0,.pointer (some ⟨l,0,none⟩)),(2,i' c)]) (fun ⟨c,e,f⟩=>Mem.le k f) (fun ⟨c,e,f⟩=>St p k f [(0,some ⟨l,.cells (vecG (Value.int .i64) 8 e).toArray 83 (0,0),0⟩)]) ⟨0,(fun _=>0),k⟩ hr (fc z (fc z fn)) mr (wk (lc z ln)) ?_
  ·intro C y A hr
   obtain⟨c,e,f⟩:=y
   have h:=A
   refine sr<|yy (V' z z) z<|nx<|h'<|I' hr z (fun n hr=>?_) (fun n hr=>?_)
   ·refine n'<|b'<|h'<|A'<|sr<|mv z z<|sg z z<|nx<|w'<|mv z z<|mv z z ?_
    obtain⟨m,hr⟩:=hr
    refine yy (aX' ba' sz3 z z m) z<|aw' 0 (vecG (Value.int .i64) 8 (setF e c.toNat c)).toArray z sz3 z z z (by first|(rw[Q']; omega)|(show _<(vecG _ _ _).toArray.size; rw[Q']; omega)) z (bX' _ _ _ _ _)<|u'<|D'<|b'<|w'<|yy (N' z z) z<|mv z z<|u'<|O' ⟨IntKind.i64.wrap (c+1),setF e c.toNat c,f⟩ hr h (fc z (fc z fn)) (wk (lc z ln))
   ·refine ae'<|m'<|m'<|J'<|af' ⟨e,f⟩ ⟨h,hr⟩ (fc z fn) (wk (lc z ln))
 ·rintro⟨d,g⟩ ⟨q,hr⟩
  refine b'<|sr<|yy (s' 0 ag83 z z (Q' _ _ _)) z<|v' 0 z sz83 z z z (Q' _ _ _) (Q' _ _ _) (fun u o=>Rp.one (cx' .i64 8) (G:=g) (x:=d) (cs:=vecG (Value.int .i64) 8 d) z u (by first|simpa using o|simpa [Value.cells] using o))<|nx<|j' ?_
  obtain rfl:_=r:=hr
  exact k' z (ad' (i:=0) ag83 z z (Q' _ _ _)) z
theorem fv'{x1 r}(hr:(ZeZ x1).Ret r):Ctr Tryz.prog 230 #[.int .u64 x1] (fun G=>True) (fun G v=>v=i' r):=by
 refine C' (args:=[_]) (N:=25) Tryz.func230 z z z fun m k A y=>sr<|sg z z<|nx<|aV' (fun (⟨g,i,c⟩:Int×Int×Mem)=>[(0,.int .u64 g),(2,i' i)]) (fun ⟨g,i,c⟩=>Mem.le k c∧(Zdy g i).Ret r) (fun ⟨g,i,c⟩=>St m k c []) ?_ ?_
 ·skip
  refine sr<|mv z z<|yy (be' z z) z<|nx<|I' hr z (fun p hr=>?_) (fun p hr=>?_)
  ·exact (show False from hr).elim
  ·refine n'<|ar' ⟨x1,0,k⟩ ⟨mr,hr⟩ (fc z (fc z fn)) (wk ln)
 ·rintro⟨g,i,c⟩ ⟨t,hr⟩
  refine aV' (fun (⟨f,h,d⟩:Int×Int×Mem)=>[(0,.int .u64 f),(2,i' h)]) (fun ⟨f,h,d⟩=>Mem.le c d∧(Zdx f h).Ret r) (fun ⟨f,h,d⟩=>St m k d []) ?_ ?_
  ·skip
   refine sr<|mv z z<|yy (be' z z) z<|nx<|I' hr z (fun q hr=>?_) (fun q hr=>?_)
   ·exact (show False from hr).elim
   ·refine n'<|ar' ⟨g,i,c⟩ ⟨mr,hr⟩ (fc z (fc z fn)) (wk ln)
  ·rintro⟨f,h,d⟩ ⟨x,hr⟩
   refine aV' (fun (⟨j,l,e⟩:Int×Int×Mem)=>[(0,.int .u64 j),(2,i' l)]) (fun ⟨j,l,e⟩=>Mem.le d e∧(Zdw j l).Ret r) (fun ⟨j,l,e⟩=>St m k e []) ?_ ?_
   ·skip
    refine sr<|mv z z<|yy (be' z z) z<|nx<|I' hr z (fun o hr=>?_) (fun o hr=>?_)
    ·exact (show False from hr).elim
    ·refine n'<|ar' ⟨f,h,d⟩ ⟨mr,hr⟩ (fc z (fc z fn)) (wk ln)
   ·rintro⟨j,l,e⟩ ⟨u,hr⟩
    refine sr<|mv z z<|mv z z<|yy (aD' al' aT' z) z ?_
    obtain⟨n,hr⟩:=hr
    refine yy (dk' (s:=ZeF) aR' z z n) z<|yy (aD' aT' au' z) z<|yy (N' z z) z<|sg z z<|nx<|j' ?_
    obtain rfl:_=r:=hr
    exact k' z z z
theorem fT'{x1 r}(hr:(Zb3 x1).Ret r):Ctr Tryz.prog 210 #[.int .u64 x1] (fun G=>True) (fun G v=>v=i' r):=by
 refine C' (args:=[_]) (N:=8) Tryz.func210 z z z fun g h f d=>sr<|sg z z<|nx<|h'<|bh' z<|n'<|b'<|sr<|mv z z ?_
 obtain⟨e,c,hr⟩:=hr
 refine H' z z (t' E230 z) (fv' c) z (trivial)<|sg z z<|nx<|j' ?_
 obtain rfl:_=r:=hr
 exact k' z z z
theorem cA'{x1 x1p x1c x1n x1tk r}(hr:(ZD x1).Ret r):CtrL Tryz.prog 195 #[.slice x1p x1n x1c,.func (.func 196) #[] #[]] [(5000,x1tk)] (fun G=>RowR r' 101 G (.slice x1p x1n x1c) x1 x1tk) (fun G L v=>∃ g,L=[(5000,g)]∧v = .tuple #[]∧RowR r' 101 G (.slice x1p x1n x1c) r g):=by
 refine aW' (args:=[_,_]) (N:=14) Tryz.func195 z z z (fun l s n i=>?_)
 have f:=i
 have hz:l.L.zero:=by
  rw[n]; intro p m x u
  simp only[List.mem_cons,List.not_mem_nil,or_false] at m
  subst m; exact RowR.zero f u
 refine sr<|mv z z<|yy (dT' R' f z) z<|sg z z<|nx<|w'<|mv z z<|mv z z<|mv z z<|yy (aD' au' dz' z) z ?_
 obtain⟨y,h,hr⟩:=hr
 refine H' z z (t' E210 z) (fT' h) z (trivial)<|mv z z ?_
 obtain⟨A,j,hr⟩:=hr
 refine cj' z z (t' E209 z) (cJ' j) z (f) (lc z ln) hz (fun q k t o c=>?_)
 obtain⟨d,rfl,rfl,e⟩:=c
 refine u'<|WE.retN ?_
 obtain rfl:_=r:=hr
 refine aE' (S':=St l s k [(5000,d)]) (wk (lc z ln))<|WE.ret0 z  ⟨_,z,z,e⟩
theorem fc'{terms1 terms1b terms1tk r}(hr:(ZbY terms1).Ret r):CtrL Tryz.prog 176 #[.map (some terms1b)] [(5500,terms1tk)] (fun G=>MapR ky99 (RvA bk' G) (.map (some terms1b)) terms1 terms1tk) (fun G L v=>L=[(5500,terms1tk)]∧(∃ zp zc,v = .slice zp r.length zc∧sl r' G zp zc r)):=by
 refine aW' (args:=[_]) (N:=28) Tryz.func176 z z z (fun Y Q H ah=>?_)
 have y:=ah
 have hz:Y.L.zero:=by
  rw[H]; intro p hp x hx
  simp only[List.mem_cons,List.not_mem_nil,or_false] at hp
  subst hp; exact MapR.zero y hx
 refine sr<|sg z z<|nr<|mv z z<|yy (Y0.lenM 5500 eo' y z z) z ?_
 obtain⟨aA,hr⟩:=hr
 refine WL.makeC (r:=r') (e:=101) (n:=(terms1.length:Int)) 4008 z z R' el101 z (by decide) z z aA fun p1 ar ai ax=>sg z z<|nx<|h'<|sr<|mv z z<|WL.rangeM 5500 4010 z z eo' y z z fun Z X ab=>nx<|ab' (fun (⟨t,E,D,s,F⟩:(List Zc)×Option Addr×Nat×Option Ow×Mem)=>[(3,.slice E t.length D),(0,.map (some terms1b))]) (fun ⟨t,E,D,s,F⟩=>Mem.le Q F∧RowR r' 101 F (.slice E t.length D) t s∧(Zbn t).Ret r) (fun ⟨t,E,D,s,F⟩=>St Y Q F [(4003,s),(5500,terms1tk)]) ?_ ?_
 ·refine A' ?_
  let V:(List Zc)→Prop:=fun oo=>((fun ov=>match ov with|t=>Zbn t:(List Zc)→Comp (List Zc)) oo).wp (fun a=>a=r)
  replace hr:(Comp.loop _ _).wp V:=hr
  refine ac' (Φ:=V) (fun (⟨m,q,l,k,R,A,o⟩:(List Zc)×Option Addr×Nat×Option Ow×List ((Fin 8→Int)×Zf)×Option Ow×Mem)=>((m,R):(List Zc)×List ((Fin 8→Int)×Zf))) (fun ⟨m,q,l,k,R,A,o⟩=>[(3,.slice q m.length l),(0,.map (some terms1b)),(10,Z)]) (fun ⟨m,q,l,k,R,A,o⟩=>Mem.le Q o∧RowR r' 101 o (.slice q m.length l) m k∧IterR ky99 (RvA bk' o) terms1tk Z R none A) (fun ⟨m,q,l,k,R,A,o⟩=>St Y Q o [(4003,k),(5500,terms1tk),(4010,A)]) ⟨([]:List Zc),p1,ar,ai,terms1,X,Q⟩ hr (fc z (fc z (fc z fn))) ⟨mr,ax,(IterR.forget ab)⟩ ?_ ?_
  ·intro w M
   have M:=M.rekey (i:=4008) (j:=4003) z (by rw[H]; rfl)
   exact M.weaken (lc z (lc z (lc z ln)))
  ·intro aW gx hx hr
   obtain⟨m,q,l,k,R,A,o⟩:=gx
   obtain⟨I,K,aq⟩:=hx
   refine sr<|WL.nextM 5500 4010 z z aq z z z (fun Ra c Rb W T O aG aK=>?_) (fun T=>?_)
   ·replace hr:=hr.2 _ _ _ T
    generalize Ra++Rb=R2 at hr O
    refine yy (K' z z) z<|nx<|h'<|at' z<|n'<|b'<|A'<|sr<|WL.entryM 5500 4010 z z O z z z (fun u1 ay aR=>?_)
    obtain⟨aU,rfl,al⟩:=ay
    obtain⟨g,f,h,d,rfl,B,C⟩:=Zl6 al
    refine yy (K' z z) z<|yy (K' z z) z<|U' 4 z z99 z fun b1=>U' 5 z z60 z fun b2=>v' 4 z sz99 z z z (Q' _ _ _) (Q' _ _ _) (fun u hu=>Rp.one (cx' .i64 8) (G:=o) (x:=c.1) (cs:=vecG (Value.int .i64) 8 c.1) z u (by first|simpa using hu|simpa [Value.cells] using hu))<|v' 5 z sz60 z z z z z (List.all_eq_true.1 z)<|nr<|yy (s' 5 bS' z z z) z ?_
    obtain⟨aX,ad,hr⟩:=hr
    refine H' z z (t' E170 z) (du' ad) z (⟨B,C⟩)<|yy (aQ' z z) z<|nx<|I' hr z (fun au hr=>?_) (fun au hr=>?_)
    ·refine w'<|mv z z<|yy (s' 5 bS' z z z) z<|yy (s' 4 ca' z z (Q' _ _ _)) z<|yy (aq' (vs:=#[(0,.agg ([.bool c.2.num.neg,.slice g c.2.num.mag.length f,.bool c.2.den.neg,.slice h c.2.den.mag.length d]).toArray),(1,.agg (vecG (Value.int .i64) 8 c.1).toArray)]) (v:=.agg (([.bool c.2.num.neg,.slice g c.2.num.mag.length f,.bool c.2.den.neg,.slice h c.2.den.mag.length d]:List Value)++(vecG (Value.int .i64) 8 c.1)).toArray) z z (fun _=>by kernel_rfl)) z<|aU' (e:=101) (r:=r') (vs:=#[(0,.agg (([.bool c.2.num.neg,.slice g c.2.num.mag.length f,.bool c.2.den.neg,.slice h c.2.den.mag.length d]:List Value)++(vecG (Value.int .i64) 8 c.1)).toArray)]) (cs:=(([.bool c.2.num.neg,.slice g c.2.num.mag.length f,.bool c.2.den.neg,.slice h c.2.den.mag.length d]:List Value)++(vecG (Value.int .i64) 8 c.1))++([])) ([(Zc.mk c.2 c.1)]:List Zc) z z z z z (by decide) (fun _=>by kernel_rfl) ⟨([.bool c.2.num.neg,.slice g c.2.num.mag.length f,.bool c.2.den.neg,.slice h c.2.den.mag.length d]:List Value)++(vecG (Value.int .i64) 8 c.1),[],z,⟨[.bool c.2.num.neg,.slice g c.2.num.mag.length f,.bool c.2.den.neg,.slice h c.2.den.mag.length d],vecG (Value.int .i64) 8 c.1,z,⟨(v58' c.2.num g f),(v58' c.2.den h d),z,⟨[.bool c.2.num.neg],[.slice g c.2.num.mag.length f],z,z,⟨_,z,B⟩⟩,⟨[.bool c.2.den.neg],[.slice h c.2.den.mag.length d],z,z,⟨_,z,C⟩⟩⟩,z⟩,z⟩ (key:=999) z (by rw[H]; rfl) (fun p2 aw J ap=>?_)
     obtain⟨ac,hr⟩:=hr
     refine bW' (r:=r') (e:=101) 4003 z z R' el101 z (by decide) z z (K.mono J) z ap ac fun p3 am ag aj=>sg z z<|u'<|D'<|O' ⟨(m++[(Zc.mk c.2 c.1)]),p3,am,ag,R2,W,aw⟩ hr ⟨(mt I J),aj,(IterR.forget (IterR.monoA O J))⟩ (fc z (fc z (fc z fn))) (wk (lc z (lc z (lc z ln))))
    ·refine n'<|D'<|O' ⟨m,q,l,k,R2,W,o⟩ hr ⟨I,K,(IterR.forget O)⟩ (fc z (fc z (fc z fn))) (wk (lc z (lc z (lc z ln))))
   ·replace hr:=hr.1 T
    refine yy (K' z z) z<|nx<|h'<|bh' z<|ae'<|m'<|m'<|J'<|af' ⟨m,q,l,k,o⟩ ⟨I,K,hr⟩ (fc z (fc z fn)) (wk (lc z (lc z ln)))
 ·rintro⟨t,E,D,s,F⟩ ⟨aE,af,hr⟩
  refine b'<|sr<|mv z z ?_
  obtain⟨aV,aa,hr⟩:=hr
  refine bu' (fun w M=>M.rekey (i:=4003) (j:=5000) z (by rw[H]; rfl))<|cj' z z (t' E195 z) (cA' aa) z (af) (lc z ln) hz (fun aN aT aO aF P=>?_)
  obtain⟨av,rfl,rfl,U⟩:=P
  refine bu' (fun w M=>M.rekey (i:=5000) (j:=4003) z (by rw[H]; rfl))<|nr<|mv z z<|sg z z<|nx<|j' ?_
  obtain rfl:_=r:=hr
  refine dD' (r:=r') (e:=101) 4003 U z (by rw[H]; rfl) fun aS an aD S aC=>aE' (S':=St Y Q an [(5500,terms1tk)]) (wk (lc z ln))<|k' z z ⟨z,⟨_,_,(cY' S),(cR' S)⟩⟩
theorem eS'{p1 perm1 p1p p1c r}(hr:(ZbL p1 perm1).Ret r):Ctr Tryz.prog 142 #[.slice p1p p1.length p1c,.agg (vecG (Value.int .i64) 8 perm1).toArray] (fun G=>sl r' G p1p p1c p1) (fun G v=>∃ ab af,v = .tuple #[.slice ab r.1.length af,i' r.2]∧sl r' G ab af r.1):=by
 refine C' (args:=[_,_]) (N:=59) Tryz.func142 z z z (fun U R ag aA=>?_)
 have ad:=aA
 have hz:U.L.zero:=by rw[ag]; intro p hp; simp at hp
 refine sr<|W' 3 z z z fun O=>sg z z<|sg z z<|nr<|U' 6 z z176 z fun b2=>nx<|h'<|sr<|yy (s' 3 ag83 z z (Q' _ _ _)) z<|mv z z<|nx<|ab' (fun (n:Mem)=>match n with|D=>[(0,.slice p1p p1.length p1c),(3,.pointer (some ⟨O,0,none⟩))]) (fun (n:Mem)=>match n with|D=>Mem.le R D∧(Zaq p1 perm1).Ret r) (fun (n:Mem)=>match n with|D=>St U R D [(3,some ⟨O,.cells (vecG (Value.int .i64) 8 perm1).toArray 83 (0,0),0⟩)]) ?_ ?_
 ·refine A' ?_
  let aa:(((List Zc)×Int)⊕Unit)→Prop:=fun Y=>((fun ov=>match ov with | .inl rv1=>Comp.ret rv1 | .inr ()=>Zaq p1 perm1:(((List Zc)×Int)⊕Unit)→Comp ((List Zc)×Int)) Y).wp (fun a=>a=r)
  replace hr:(Comp.loop _ _).wp aa:=hr
  refine ac' (Φ:=aa) (fun (⟨q,H,F⟩:Int×(Fin 8→Bool)×Mem)=>((q,H):Int×(Fin 8→Bool))) (fun ⟨q,H,F⟩=>[(0,.slice p1p p1.length p1c),(3,.pointer (some ⟨O,0,none⟩)),(6,.pointer (some ⟨b2,0,none⟩)),(15,.agg (vecG (Value.int .i64) 8 perm1).toArray),(16,i' q)]) (fun ⟨q,H,F⟩=>Mem.le R F) (fun ⟨q,H,F⟩=>St U R F [(3,some ⟨O,.cells (vecG (Value.int .i64) 8 perm1).toArray 83 (0,0),0⟩),(6,some ⟨b2,.cells (vecG Value.bool 8 H).toArray 176 (0,0),0⟩)]) ⟨0,(fun _=>false),R⟩ hr (fc z (fc z (fc z (fc z (fc z fn))))) mr (wk (lc z (lc z ln))) ?_
  ·intro aX n Z hr
   obtain⟨q,H,F⟩:=n
   have V:=Z
   refine sr<|yy (V' z z) z<|nx<|h'<|I' hr z (fun aN hr=>?_) (fun aN hr=>?_)
   ·refine n'<|b'<|h'<|A'<|sr ?_
    obtain⟨am,hr⟩:=hr
    refine yy (Y0.index ba' sc3 sz3 z z am (bA' _ _ _ am)) z<|sg z z<|nx<|h'<|sr<|mv z z<|aj' hr z (V' z z) z (fun aG hr=>?_) (fun aG hr=>?_)
    ·refine mv z z<|sf z z z<|sf z z z<|yy (o' z z) z<|mv z z<|sf z z z<|sf z z z<|sf z z z<|yy (o' z z) z<|nx<|at' z<|sr<|sg z z<|sg z z<|nx<|j' ?_
     replace hr:_=r:=hr
     refine g'<|x'<|g'<|g'<|x'<|aH'<|g' ?_
     subst hr
     exact aI' z z z ⟨_,_,z,(aa' r' _)⟩
    ·refine mv z z<|gy z z (f' z) z<|aj' hr (F' z z) (be' z z) z (fun aD hr=>?_) (fun aD hr=>?_)
     ·refine yy (l' z z) z<|mv z z<|sf z z z<|sf z z z<|sf z z z<|yy (o' z z) z<|nx<|at' z<|sr<|sg z z<|sg z z<|nx<|j' ?_
      replace hr:_=r:=hr
      refine g'<|x'<|g'<|g'<|x'<|aH'<|g' ?_
      subst hr
      exact aI' z z z ⟨_,_,z,(aa' r' _)⟩
     ·refine yy (l' z z) z<|mv z z<|gy z z (f' z) z ?_
      obtain⟨ap,hr⟩:=hr
      refine gy z z (aX' dA' sz4 z z ap) z<|gy z z (e' 6 sc4 z z (bA' _ _ _ ap)) z<|yy (l' z z) z<|nx<|aM' hr z (fun aI hr=>?_) (fun aI hr=>?_)
      ·exact (show False from hr).elim
      ·refine n'<|b'<|w'<|mv z z ?_
       obtain⟨aO,hr⟩:=hr
       refine yy (aX' dA' sz4 z z aO) z<|aw' 6 (vecG Value.bool 8 (setF H ((getF perm1 q).toNat) true)).toArray z sz4 z z z (by first|(rw[Q']; omega)|(show _<(vecG _ _ _).toArray.size; rw[Q']; omega)) z (bX' _ _ _ _ _)<|u'<|D'<|b'<|w'<|yy (N' z z) z<|mv z z<|u'<|O' ⟨IntKind.i64.wrap (q+1),setF H ((getF perm1 q).toNat) true,F⟩ hr V (fc z (fc z (fc z (fc z (fc z fn))))) (wk (lc z (lc z ln)))
   ·refine ae'<|m'<|m'<|J'<|af' F ⟨V,hr⟩ (fc z (fc z fn)) (wk (lc z ln))
 ·rintro D ⟨T,hr⟩
  refine b'<|sr<|WL.makeMap (ky:=ky99) (Rv:=RvA bk' D) 4033 z z fun P aj ay=>sg z z<|nx<|h'<|sr<|mv z z<|yy (L' R' (ad.mono T) z) z<|mv z z<|nx<|ab' (fun (n:(List ((Fin 8→Int)×Zf))×Option Ow×Mem)=>match n with|⟨M,A,Q⟩=>[(9,.map (some P))]) (fun (n:(List ((Fin 8→Int)×Zf))×Option Ow×Mem)=>match n with|⟨M,A,Q⟩=>Mem.le D Q∧MapR ky99 (RvA bk' Q) (.map (some P)) M A∧(Za5 M).Ret r) (fun (n:(List ((Fin 8→Int)×Zf))×Option Ow×Mem)=>match n with|⟨M,A,Q⟩=>St U R Q [(4033,A)]) ?_ ?_
  ·refine A' ?_
   let S:(((List ((Fin 8→Int)×Zf))))→Prop:=fun Y=>((fun ov=>match ov with|M=>Za5 M:(((List ((Fin 8→Int)×Zf))))→Comp ((List Zc)×Int)) Y).wp (fun a=>a=r)
   replace hr:(Comp.loop _ _).wp S:=hr
   refine ac' (Φ:=S) (fun (n:Int×(List ((Fin 8→Int)×Zf))×Option Ow×Mem)=>match n with|⟨l,t,o,s⟩=>((l,t):Int×(List ((Fin 8→Int)×Zf)))) (fun (n:Int×(List ((Fin 8→Int)×Zf))×Option Ow×Mem)=>match n with|⟨l,t,o,s⟩=>[(3,.pointer (some ⟨O,0,none⟩)),(34,.slice p1p p1.length p1c),(35,i' (p1.length:Int)),(36,i' l),(9,.map (some P))]) (fun (n:Int×(List ((Fin 8→Int)×Zf))×Option Ow×Mem)=>match n with|⟨l,t,o,s⟩=>Mem.le D s∧MapR ky99 (RvA bk' s) (.map (some P)) t o) (fun (n:Int×(List ((Fin 8→Int)×Zf))×Option Ow×Mem)=>match n with|⟨l,t,o,s⟩=>St U R s [(3,some ⟨O,.cells (vecG (Value.int .i64) 8 perm1).toArray 83 (0,0),0⟩),(4033,o)]) ⟨0,[],aj,D⟩ hr (fc z (fc z (fc z (fc z (fc z fn))))) ⟨mr,ay⟩ (wk (lc z (lc z ln))) ?_
   ·intro aq n Z hr
    obtain⟨l,t,o,s⟩:=n
    obtain⟨K,ac⟩:=Z
    refine sr<|yy (V' z z) z<|nx<|h'<|I' hr z (fun aJ hr=>?_) (fun aJ hr=>?_)
    ·refine n'<|b'<|h'<|A'<|sr ?_
     obtain⟨g,ao,hr⟩:=hr
     refine yy (P' R' bC' (ad.mono (mt T K)) z z ao) z ?_
     obtain⟨e,c,d,f,aE,y,C⟩:=cF' (E' (X' ad ao) (mt T K))
     refine yy (ax' _ ag101 z z aE) z<|U' 11 z z101 z fun b3=>v' 11 z bC' z z z z z (fun u hu=>Rp.one r' (G:=s) (x:=g) (cs:=([.bool g.c.num.neg,.slice e g.c.num.mag.length c,.bool g.c.den.neg,.slice d g.c.den.mag.length f]:List Value)++(vecG (Value.int .i64) 8 g.m)) ⟨[.bool g.c.num.neg,.slice e g.c.num.mag.length c,.bool g.c.den.neg,.slice d g.c.den.mag.length f],vecG (Value.int .i64) 8 g.m,z,⟨(v58' g.c.num e c),(v58' g.c.den d f),z,⟨[.bool g.c.num.neg],[.slice e g.c.num.mag.length c],z,z,⟨_,z,y⟩⟩,⟨[.bool g.c.den.neg],[.slice d g.c.den.mag.length f],z,z,⟨_,z,C⟩⟩⟩,z⟩ u (by first|simpa using hu|simpa [Value.cells] using hu))<|nr<|U' 12 z z99 z fun b4=>nx<|h'<|sr<|yy (bn' z) z<|yy (av' (vecG (Value.int .i64) 8 g.m).toArray 11 ca' z z (Q' _ _ _) (aN' ([.bool g.c.num.neg,.slice e g.c.num.mag.length c,.bool g.c.den.neg,.slice d g.c.den.mag.length f]) (vecG (Value.int .i64) 8 g.m) ([]))) z<|mv z z<|nx<|ab' (fun (⟨E,L⟩:(Fin 8→Int)×Mem)=>[(3,.pointer (some ⟨O,0,none⟩)),(11,.pointer (some ⟨b3,0,none⟩)),(12,.pointer (some ⟨b4,0,none⟩)),(34,.slice p1p p1.length p1c),(35,i' (p1.length:Int)),(36,i' l),(9,.map (some P))]) (fun ⟨E,L⟩=>Mem.le s L∧(Za6 l t g E).wp (Out aq S)) (fun ⟨E,L⟩=>St U R L [(3,some ⟨O,.cells (vecG (Value.int .i64) 8 perm1).toArray 83 (0,0),0⟩),(11,some ⟨b3,.cells (([.bool g.c.num.neg,.slice e g.c.num.mag.length c,.bool g.c.den.neg,.slice d g.c.den.mag.length f]:List Value)++(vecG (Value.int .i64) 8 g.m)).toArray 101 (0,0),0⟩),(12,some ⟨b4,.cells (vecG (Value.int .i64) 8 E).toArray 99 (0,0),0⟩),(4033,o)]) ?_ ?_
     ·refine A' ?_
      let ae:(Fin 8→Int)→Prop:=fun Y=>((fun ov=>match ov with|E=>Za6 l t g E:(Fin 8→Int)→Comp ((Int×(List ((Fin 8→Int)×Zf)))⊕(((List ((Fin 8→Int)×Zf)))))) Y).wp (Out aq S)
      replace hr:(Comp.loop _ _).wp ae:=hr
      refine ac' (Φ:=ae) (fun (⟨m,B,I⟩:Int×(Fin 8→Int)×Mem)=>((m,B):Int×(Fin 8→Int))) (fun ⟨m,B,I⟩=>[(3,.pointer (some ⟨O,0,none⟩)),(11,.pointer (some ⟨b3,0,none⟩)),(12,.pointer (some ⟨b4,0,none⟩)),(34,.slice p1p p1.length p1c),(35,i' (p1.length:Int)),(36,i' l),(41,.agg (vecG (Value.int .i64) 8 g.m).toArray),(42,i' m),(9,.map (some P))]) (fun ⟨m,B,I⟩=>Mem.le s I) (fun ⟨m,B,I⟩=>St U R I [(3,some ⟨O,.cells (vecG (Value.int .i64) 8 perm1).toArray 83 (0,0),0⟩),(11,some ⟨b3,.cells (([.bool g.c.num.neg,.slice e g.c.num.mag.length c,.bool g.c.den.neg,.slice d g.c.den.mag.length f]:List Value)++(vecG (Value.int .i64) 8 g.m)).toArray 101 (0,0),0⟩),(12,some ⟨b4,.cells (vecG (Value.int .i64) 8 B).toArray 99 (0,0),0⟩),(4033,o)]) ⟨0,(fun _=>0),s⟩ hr (fc z (fc z (fc z (fc z (fc z (fc z (fc z (fc z (fc z fn))))))))) mr (wk (lc z (lc z (lc z (lc z ln))))) ?_
      ·intro aY n Z hr
       obtain⟨m,B,I⟩:=n
       have W:=Z
       refine sr<|yy (V' z z) z<|nx<|h'<|I' hr z (fun aK hr=>?_) (fun aK hr=>?_)
       ·refine n'<|b'<|h'<|A'<|sr<|mv z z ?_
        obtain⟨al,hr⟩:=hr
        refine yy (Y0.index aG' sc3 sz3 z z al (bA' _ _ _ al)) z<|sg z z<|sg z z<|nx<|w'<|mv z z ?_
        obtain⟨an,hr⟩:=hr
        refine yy (aX' ba' sz3 z z an) z<|yy (e' 3 sc3 z z (bA' _ _ _ an)) z<|mv z z ?_
        obtain⟨aH,hr⟩:=hr
        refine yy (aX' aG' sz3 z z aH) z<|aw' 12 (vecG (Value.int .i64) 8 (setF B ((getF perm1 m).toNat) (getF g.m m))).toArray z sz3 z z z (by first|(rw[Q']; omega)|(show _<(vecG _ _ _).toArray.size; rw[Q']; omega)) z (bX' _ _ _ _ _)<|u'<|D'<|b'<|w'<|yy (N' z z) z<|mv z z<|u'<|O' ⟨IntKind.i64.wrap (m+1),setF B ((getF perm1 m).toNat) (getF g.m m),I⟩ hr W (fc z (fc z (fc z (fc z (fc z (fc z (fc z (fc z (fc z fn))))))))) (wk (lc z (lc z (lc z (lc z ln)))))
       ·refine ae'<|m'<|m'<|J'<|af' ⟨B,I⟩ ⟨W,hr⟩ (fc z (fc z (fc z (fc z (fc z (fc z (fc z fn))))))) (wk (lc z (lc z (lc z (lc z ln)))))
     ·rintro⟨E,L⟩ ⟨J,hr⟩
      refine b'<|w'<|mv z z<|yy (s' 12 ca' z z (Q' _ _ _)) z<|yy (cg' z) z<|yy (av' ([.bool g.c.num.neg,.slice e g.c.num.mag.length c,.bool g.c.den.neg,.slice d g.c.den.mag.length f]).toArray 11 bS' z z z (aN' ([]) ([.bool g.c.num.neg,.slice e g.c.num.mag.length c,.bool g.c.den.neg,.slice d g.c.den.mag.length f]) ((vecG (Value.int .i64) 8 g.m)))) z ?_
      obtain⟨⟨aM,au⟩,hr⟩:=hr
      refine WL.mapPut (Rv':=RvA bk' L) (k:=E) (z:=g.c) 4033 z eo' (MapR.monoA ac J) z z z z aM ⟨[.bool g.c.num.neg,.slice e g.c.num.mag.length c,.bool g.c.den.neg,.slice d g.c.den.mag.length f],z,⟨(v58' g.c.num e c),(v58' g.c.den d f),z,⟨[.bool g.c.num.neg],[.slice e g.c.num.mag.length c],z,z,⟨_,z,(y.mono J)⟩⟩,⟨[.bool g.c.den.neg],[.slice d g.c.den.mag.length f],z,z,⟨_,z,(C.mono J)⟩⟩⟩⟩ (fun _ _ _ _ h=>h) au fun aF av=>u'<|D'<|b'<|w'<|yy (N' z z) z<|mv z z<|u'<|O' ⟨IntKind.i64.wrap (l+1),(mput t E g.c),aF,L⟩ hr ⟨(mt K J),av⟩ (fc z (fc z (fc z (fc z (fc z fn))))) (wk (lc z (lc z ln)))
    ·refine ae'<|m'<|m'<|J'<|af' ⟨t,o,s⟩ ⟨K,ac,hr⟩ (fc z fn) (wk (lc z ln))
  ·rintro⟨M,A,Q⟩ ⟨aP,ax,hr⟩
   refine b'<|sr<|mv z z ?_
   obtain⟨aW,ar,hr⟩:=hr
   refine bu' (fun w hs=>hs.rekey (i:=4033) (j:=5500) z (by rw[ag]; rfl))<|WL.callRO z z (t' E176 z) (fc' ar) z (ax) (lc z ln) (fun i hi=>by simp only[List.map_cons,List.map_nil,List.mem_cons,List.not_mem_nil,or_false] at hi; subst hi; exact z) hz (fun aS aV aQ X=>?_)
   obtain⟨aU,aT,rfl,aw⟩:=X
   refine bu' (fun w hs=>hs.rekey (i:=5500) (j:=4033) z (by rw[ag]; rfl))<|sg z z<|sg z z<|nx<|j' ?_
   obtain rfl:_=r:=hr
   exact aI' z z z ⟨_,_,z,aw⟩
theorem fw'{q1 cap1 q1pp q1pc b1 r}(hr:(ZeX q1 cap1).Ret r):CtrL Tryz.prog 141 #[.agg ((v68' q1.id q1pp q1.p q1pc)).toArray,.pointer (some ⟨b1,0,none⟩)] [(120203,some ⟨b1,.cells (vecG (Value.int .i64) 8 cap1).toArray 83 (0,0),0⟩)] (fun G=>sl r' G q1pp q1pc q1.p) (fun G L v=>L=[(120203,some ⟨b1,.cells (vecG (Value.int .i64) 8 cap1).toArray 83 (0,0),0⟩)]∧(∃ h g,v = .agg ((v68' r.id h r.p g)).toArray∧sl r' G h g r.p)):=by
 refine aW' (args:=[_,_]) (N:=13) Tryz.func141 z z z (fun x u p k=>?_)
 have l:=k
 refine sr<|W' 2 z z z fun s=>U' 3 z z68 z fun t=>nr<|yy (bq' z) z<|yy (e' 2 bP' z z z) z<|yy (s' 120203 ag83 z z (Q' _ _ _)) z ?_
 obtain⟨m,j,hr⟩:=hr
 refine M' z z (t' E142 z) (eS' j) z (l) (fun o q n c=>?_)
 obtain⟨f,d,rfl,e⟩:=c
 refine mv z z<|yy (K' z z) z<|yy (K' z z) z<|yy (bq' z) z<|aw' 2 ([i' q1.id,.slice f m.1.length d]).toArray z sz38 z z z (show 1<2 by decide) z z<|nr<|yy (s' 2 bL' z z z) z<|v' 3 z aO' z z z z z (List.all_eq_true.1 z)<|nx<|j' ?_
 obtain rfl:_=r:=hr
 exact WE.retW1 z (ad' (i:=3) bL' z z z) (lc z ln) ⟨z,⟨_,_,z,e⟩⟩
theorem cq'{l1 cap1 l1p l1c b1 r}(hr:(ZI l1 cap1).Ret r):CtrL Tryz.prog 119 #[.slice l1p l1.length l1c,.func (.func 141) #[] #[.pointer (some ⟨b1,0,none⟩)]] [(120203,some ⟨b1,.cells (vecG (Value.int .i64) 8 cap1).toArray 83 (0,0),0⟩)] (fun G=>sl a' G l1p l1c l1) (fun G L v=>L=[(120203,some ⟨b1,.cells (vecG (Value.int .i64) 8 cap1).toArray 83 (0,0),0⟩)]∧(∃ zp U,v = .slice zp r.length U∧sl a' G zp U r)):=by
 refine aW' (args:=[_,_]) (N:=26) Tryz.func119 z z z (fun E A J M=>?_)
 have u:=M
 have hz:E.L.zero:=by
  rw[J]; intro p Y x Q
  simp only[List.mem_cons,List.not_mem_nil,or_false] at Y
  subst Y; cases Q; rfl
 refine sr<|sg z z<|nr<|mv z z<|yy (L' q' u z) z ?_
 obtain⟨V,hr⟩:=hr
 refine dP' (r:=a') (e:=68) (n:=(l1.length:Int)) (zx:=(Za.mk 0 [])) 4010 z z q' el68 z (by decide) (by decide) ⟨[i' 0],[.slice none 0 0],z,z,⟨_,z,(aa' _ _)⟩⟩ z z V fun D O ad=>sg z z<|nx<|h'<|sr<|mv z z<|yy (L' q' u z) z<|mv z z<|nx<|ab' (fun (⟨k,f,m⟩:(List Za)×Option Ow×Mem)=>[(5,.slice D (l1.length:Int).toNat ((l1.length:Int).toNat))]) (fun ⟨k,f,m⟩=>Mem.le A m∧RowR a' 68 m (.slice D (l1.length:Int).toNat ((l1.length:Int).toNat)) k f∧(ZN k).Ret r) (fun ⟨k,f,m⟩=>St E A m [(120203,some ⟨b1,.cells (vecG (Value.int .i64) 8 cap1).toArray 83 (0,0),0⟩),(4010,f)]) ?_ ?_
 ·refine A' ?_
  let B:(List Za)→Prop:=fun oo=>((fun ov=>match ov with|k=>ZN k:(List Za)→Comp (List Za)) oo).wp (fun a=>a=r)
  replace hr:(Comp.loop _ _).wp B:=hr
  refine ac' (Φ:=B) (fun (⟨h,d,c,g⟩:(List Za)×Option Ow×Int×Mem)=>((h,c):(List Za)×Int)) (fun ⟨h,d,c,g⟩=>[(1,.func (.func 141) #[] #[.pointer (some ⟨b1,0,none⟩)]),(5,.slice D (l1.length:Int).toNat ((l1.length:Int).toNat)),(11,.slice l1p l1.length l1c),(12,i' (l1.length:Int)),(13,i' c)]) (fun ⟨h,d,c,g⟩=>Mem.le A g∧RowR a' 68 g (.slice D (l1.length:Int).toNat ((l1.length:Int).toNat)) h d) (fun ⟨h,d,c,g⟩=>St E A g [(120203,some ⟨b1,.cells (vecG (Value.int .i64) 8 cap1).toArray 83 (0,0),0⟩),(4010,d)]) ⟨(List.replicate (l1.length:Int).toNat (Za.mk 0 [])),O,0,A⟩ hr (fc z (fc z (fc z (fc z (fc z fn))))) ⟨mr,ad⟩ (wk (lc z (lc z ln))) ?_
  ·intro an gx Q hr
   obtain⟨h,d,c,g⟩:=gx
   obtain⟨j,q⟩:=Q
   refine sr<|yy (V' z z) z<|nx<|h'<|I' hr z (fun T hr=>?_) (fun T hr=>?_)
   ·refine n'<|b'<|h'<|A'<|sr<|mv z z ?_
    obtain⟨x1,H,hr⟩:=hr
    refine yy (P' q' aO' (u.mono j) z z H) z ?_
    obtain⟨ah,ai,Z,R⟩:=bd' (E' (X' u H) j)
    refine yy (ax' _ bL' z z Z) z<|U' 7 z z68 z fun b2=>sg z z<|v' 7 z aO' z z z z z (List.all_eq_true.1 z)<|nx<|w'<|mv z z<|mv z z<|mv z z<|yy (s' 7 bL' z z z) z ?_
    obtain⟨l,K,hr⟩:=hr
    refine WL.callRO z z (cM' E141 z z) (fw' K) z (R) (lc z ln) (fun i hi=>by simp only[List.map_cons,List.map_nil,List.mem_cons,List.not_mem_nil,or_false] at hi; subst hi; exact z) hz (fun aj W o y=>?_)
    obtain⟨t,s,rfl,F⟩:=y
    obtain⟨x2,I,hr⟩:=hr
    refine yy (aZ' q' aO' (q.mono o) z z I) z<|by' (r:=a') (e:=68) (cs':=(v68' l.id t l.p s)) (i:=c) (z':=l) 4010 z aO' z (q.mono o) z z z z ⟨[i' l.id],[.slice t l.p.length s],z,z,⟨_,z,F⟩⟩ I fun X P=>u'<|D'<|b'<|w'<|yy (N' z z) z<|mv z z<|u'<|O' ⟨(h.set c.toNat l),X,IntKind.i64.wrap (c+1),W⟩ hr ⟨(mt j o),P⟩ (fc z (fc z (fc z (fc z (fc z fn))))) (wk (lc z (lc z ln)))
   ·refine ae'<|m'<|m'<|J'<|af' ⟨h,d,g⟩ ⟨j,q,hr⟩ (fc z fn) (wk (lc z (lc z ln)))
 ·rintro⟨k,f,m⟩ ⟨ae,S,hr⟩
  refine b'<|sr<|mv z z<|sg z z<|nx<|j' ?_
  obtain rfl:_=r:=hr
  refine dD' (r:=a') (e:=68) 4010 S z (by rw[J]; rfl) fun ao ac af C ag=>aE' (S':=St E A ac [(120203,some ⟨b1,.cells (vecG (Value.int .i64) 8 cap1).toArray 83 (0,0),0⟩)]) (wk (lc z ln))<|k' z z ⟨z,⟨_,_,(cY' C),(cR' C)⟩⟩
theorem eh'{s1 perm1 s1varsp s1varsc s1eqsp s1eqsc s1neqsp s1neqsc r}(hr:(ZbE s1 perm1).Ret r):Ctr Tryz.prog 101 #[.agg ((v33' s1 s1varsp s1varsc s1eqsp s1eqsc s1neqsp s1neqsc)).toArray,.agg (vecG (Value.int .i64) 8 perm1).toArray] (fun G=>sl Rp.str G s1varsp s1varsc s1.vars∧sl a' G s1eqsp s1eqsc s1.eqs∧sl a' G s1neqsp s1neqsc s1.neqs) (fun G v=>∃ m o A y s q,v = .agg ((v33' r m o A y s q)).toArray∧sl Rp.str G m o r.vars∧sl a' G A y r.eqs∧sl a' G s q r.neqs):=by
 refine C' (args:=[_,_]) (N:=18) Tryz.func101 z z z (fun T G0 P K=>?_)
 obtain⟨C,H,D⟩:=K
 have hz:T.L.zero:=by rw[P]; intro p U; simp at U
 refine sr<|W' 2 z z z fun b1=>W' 120203 z z z fun M=>U' 4 z z33 z fun Z=>nr<|yy (bR' z z) z<|sg z z<|nx<|h'<|Z' [false,false,false,false,false,false,false,false,false] mix (by kernel_rfl) fun Y=>cn (fun _ c=>az' z)<|cn (fun _ c=>e' 2 aS' z z z)<|cn (fun _ c=>f' z) ?_
 obtain⟨l,J,hr⟩:=hr
 refine eu' (f:=119) (φ:=fun G v=>∃ g e,v = .slice g l.length e∧sl a' G g e l) (L1:=[(120203,some ⟨M,.cells (vecG (Value.int .i64) 8 perm1).toArray 83 (0,0),0⟩)]) (fun _=>z) (fun v S W c h=>?_) (lc z ln) (fun i F=>by simp only[List.map_cons,List.map_nil,List.mem_cons,List.not_mem_nil,or_false] at F; subst F; exact z) hz (fun u V c O=>?_) ?_
 ·obtain⟨g,e,rfl,t⟩:=h
  exact⟨_,_,z,t.mono c⟩
 ·skip
  exact⟨_,_,_,fun _=>t' E119 z,cq' J,z,(H.mono c)⟩
 refine cu (fun _ _ c=>aK' z)<|cu (fun _ _ c=>e' 2 aS' z z z)<|cu (fun _ _ c=>f' z) ?_
 obtain⟨n,L,hr⟩:=hr
 refine eu' (f:=119) (φ:=fun G v=>∃ k j,v = .slice k n.length j∧sl a' G k j n) (L1:=[(120203,some ⟨M,.cells (vecG (Value.int .i64) 8 perm1).toArray 83 (0,0),0⟩)]) (fun _=>z) (fun v S W c h=>?_) (lc z ln) (fun i F=>by simp only[List.map_cons,List.map_nil,List.mem_cons,List.not_mem_nil,or_false] at F; subst F; exact z) hz (fun u V c O=>?_) ?_
 ·obtain⟨k,j,rfl,x⟩:=h
  exact⟨_,_,z,x.mono c⟩
 ·obtain⟨_,_⟩:=(show True∧True from O)
  exact⟨_,_,_,fun _=>t' E119 z,cq' L,z,(D.mono c)⟩
 refine cu (fun _ _ c=>az' z)<|df' (d:=14) (post:=fun G v=>∃ k j,v = .slice k n.length j∧sl a' G k j n) (d':=10) (post':=fun G v=>∃ g e,v = .slice g l.length e∧sl a' G g e l) (fun Q R X I E B=>?_)
 obtain⟨k,j,rfl,x⟩:=E
 obtain⟨g,e,rfl,t⟩:=B
 refine aw' 2 ([.slice s1varsp s1.vars.length s1varsc,.slice g l.length e,.slice s1neqsp s1.neqs.length s1neqsc,i' s1.next]).toArray z cu' z z z (show 1<4 by decide) z z<|yy (aK' z) z<|aw' 2 ([.slice s1varsp s1.vars.length s1varsc,.slice g l.length e,.slice k n.length j,i' s1.next]).toArray z cu' z z z (show 2<4 by decide) z z<|u'<|am'<|b'<|sr<|yy (s' 2 ag' z z z) z<|v' 4 z aY' z z z z z (List.all_eq_true.1 z)<|nx<|j' ?_
 obtain rfl:_=r:=hr
 exact k' z (ad' (i:=4) ag' z z z) ⟨_,_,_,_,_,_,z,(C.mono I),t,x⟩
theorem cl'{s1 s1p s1c r}(hr:(ZK s1).Ret r):CtrL Tryz.prog 103 #[.slice s1p s1.length s1c] [] (fun G=>sl Rp.str G s1p s1c s1) (fun G L v=>∃ t o g,L=[(7000,g)]∧v = .slice t r.length o∧RowR Rp.str 9 G (.slice t r.length o) r g):=by
 refine aW' (args:=[_]) (N:=8) Tryz.func103 z z z (fun q c s k=>?_)
 have f:=k
 refine sr<|sg z z<|nx<|h'<|sr<|mv z z<|yy (Y0.eqlNil y' z z) z<|nx<|dN' (p:=s1p=none) z (fun d=>?_) (fun d=>?_)
 ·replace hr:=hr.1 (SlR.ZmO f d)
  refine sr<|sg z z<|nx<|j' ?_
  replace hr:_=r:=hr
  refine g' ?_
  subst hr
  refine aE' (S':=St q c c [(7000,none)]) (wk (lw ln))<|k' z z ⟨_,_,_,z,z,(ed' (r:=Rp.str) (e:=9))⟩
 ·replace hr:=hr.2
  refine n'<|b'<|sr<|WL.litT (e:=9) (r:=Rp.str) (vs:=#[]) (cs:=[]) ([]:List ByteArray) 4005 z z z z z (by decide) (fun _=>by kernel_rfl) (z) fun A x u=>mv z z ?_
  obtain⟨m,hr⟩:=hr
  refine bW' (r:=Rp.str) (e:=9) 4005 z z y' el9 z (by decide) z z u z f m fun B y l n=>sg z z<|nx<|j' ?_
  obtain rfl:_=r:=hr
  refine aE' (S':=St q c c [(7000,l)]) ?_ ?_
  ·intro w h
   have h:=h.rekey (i:=4005) (j:=7000) z (by rw[s]; rfl)
   exact h.weaken (lc z ln)
  exact k' z z ⟨_,_,_,z,z,n⟩
theorem fl'(c:Int)(f:Nat)(r:Bool)(hr:(ZaG c).Ret r):Ctr Tryz.prog 95 #[.pointer (some ⟨f,0,none⟩)] (fun G=>At (Rp.int .i64) G f 0 c) (fun G v=>v = .bool r):=by
 refine C' (args:=[_]) (N:=4) Tryz.func95 z z z (fun h i g e=>?_)
 have d:=e
 refine sr<|sg z z<|nr<|yy (T' sc3 z (aC' d)) z<|yy (V' z z) z<|sg z z<|nx<|j' ?_
 obtain rfl:_=r:=hr
 exact k' z z z
theorem fm'(d:(Unit→Comp Bool))(e:Int)(n:Nat)(l:Nat)(r:Int)(hr:(Zk d e).Ret r):Ctr Tryz.prog 140 #[.pointer (some ⟨n,0,none⟩),.pointer (some ⟨l,0,none⟩)] (fun G=>At (Rp.fn Tryz.prog fa0 foB) G n 0 d∧At (Rp.int .i64) G l 0 e) (fun G v=>v=i' r):=by
 refine C' (args:=[_,_]) (N:=6) Tryz.func140 z z z (fun y u s j=>?_)
 obtain⟨g,f⟩:=j
 refine sr<|sg z z<|nx<|h'<|sr ?_
 obtain⟨x,k,o⟩:=AtK.fnv g
 refine yy (T' sc29 z (k)) z ?_
 obtain⟨q,i,hr⟩:=hr
 refine WL.callFn (vs:=[]) (a:=()) z z o z z z i (fun p t h c=>?_)
 subst c
 refine nx<|aM' hr z (fun m hr=>?_) (fun m hr=>?_)
 ·refine sr<|sg z z<|nx<|j' ?_
  replace hr:_=r:=hr
  refine g' ?_
  subst hr
  exact k' z z z
 ·refine n'<|b'<|sr<|yy (T' sc42 z (aC' (E' f h))) z<|sg z z<|nx<|j' ?_
  obtain rfl:_=r:=hr
  exact k' z z z
theorem br'{ev1 holds1 holds1f holds1u r}(hr:(ZG ev1 holds1).Ret r):Ctr Tryz.prog 94 #[i' ev1,holds1f] (fun G=>FnRd Tryz.prog fa0 foB G holds1f holds1u holds1) (fun G v=>∃ k n,v=k∧FnRd Tryz.prog fa0 foI G k n r):=by
 refine C' (args:=[_,_]) (N:=6) Tryz.func94 z z z (fun y u g i=>?_)
 have c:=i
 refine sr<|W' 118802 z z z fun o=>WL.boxF 118803 (FnR.one c) z z z fun m=>sg z z<|nx<|h'<|bE' 118803 z (by rw[g]; rfl) fun t d h p=>bE' 118802 z (by rw[g]; rfl) fun l e j q=>w'<|yy (bR' z z) z<|sg z z<|nx<|j' ?_
 obtain rfl:_=r:=hr
 exact k' z z ⟨_,_,z,(show FnRd Tryz.prog fa0 foI l (.func (.func 140) #[] #[.pointer (some ⟨m,0,none⟩),.pointer (some ⟨o,0,none⟩)]) () (fun _=>Zk holds1 ev1) from (dg' E140 (fun x s=>dh' (fm' _ _ _ _ x s) (fun A f=>⟨(E' (cn' (r:=(Rp.fn Tryz.prog fa0 foB)) (cs:=[holds1f]) h z ⟨_,z,(c.mono d)⟩) (mt e f)),(E' (cn' (r:=(Rp.int .i64)) (cs:=[i' ev1]) j z z) f)⟩))))⟩
theorem fn'(d:Zd)(e:Int)(j:Nat)(i:Nat)(r:Bool)(hr:(Zai d e).Ret r):Ctr Tryz.prog 96 #[.pointer (some ⟨j,0,none⟩),.pointer (some ⟨i,0,none⟩)] (fun G=>At ah' G j 0 d∧At (Rp.int .i64) G i 0 e) (fun G v=>v = .bool r):=by
 refine C' (args:=[_,_]) (N:=12) Tryz.func96 z z z (fun l m k g=>?_)
 obtain⟨c,f⟩:=g
 refine sr<|sg z z<|nr<|yy (aB' z) z<|yy (T' sc3 z (aC' (bb' (aJ' (aJ' (aA' c)))))) z<|aj' hr z (bD' z z) z (fun h hr=>?_) (fun h hr=>?_)
 ·refine mv z z<|gy z z (aB' z) z<|gy z z (T' sc3 z (aC' (bb' (aJ' (aJ' (aA' c)))))) z<|gy z z (T' sc3 z (aC' f)) z<|gy z z (bD' z z) z<|yy (o' z z) z<|sg z z<|nx<|j' ?_
  obtain rfl:_=r:=hr
  exact k' z z z
 ·refine mv z z<|sk z z z<|sk z z z<|sk z z z<|sk z z z<|yy (l' z z) z<|sg z z<|nx<|j' ?_
  obtain rfl:_=r:=hr
  exact k' z z z
theorem fo'(d:Zd)(e:Zb)(l:Nat)(k:Nat)(r:Bool)(hr:(ZaH d e).Ret r):Ctr Tryz.prog 97 #[.pointer (some ⟨l,0,none⟩),.pointer (some ⟨k,0,none⟩)] (fun G=>At ah' G l 0 d∧At bs' G k 0 e) (fun G v=>v = .bool r):=by
 refine C' (args:=[_,_]) (N:=14) Tryz.func97 z z z (fun u t p h=>?_)
 obtain⟨c,f⟩:=h
 refine sr<|sg z z<|nr<|yy (bV' z) z<|yy (T' sc9 z (bB' (bb' (aJ' (aA' c))))) z ?_
 obtain⟨j,g,hr⟩:=hr
 refine H' z z (t' E98 z) (dM' g) z (trivial) ?_
 cases j
 ·skip
  refine mv z z<|sk z z z<|sk z z z<|sk z z z<|sk z z z<|sk z z z<|sk z z z<|yy (l' z z) z<|sg z z<|nx<|j' ?_
  obtain rfl:_=r:=hr
  exact k' z z z
 ·skip
  refine mv z z<|gy z z (as' z) z ?_
  obtain⟨s,o,m,n⟩:=bU' (bb' (aA' f))
  refine gy z z (T' bo' z (m)) z<|gy z z (bV' z) z<|gy z z (T' sc9 z (bB' (bb' (aJ' (aA' c))))) z ?_
  obtain⟨q,i,hr⟩:=hr
  refine H' (F' z z) z (t' E99 z) (cX' i) z (n)<|gy z z (an' z) z<|yy (o' z z) z<|sg z z<|nx<|j' ?_
  obtain rfl:_=r:=hr
  exact k' z z z
theorem gt'{s1 ev1 s1varsp s1varsc s1eqsp s1eqsc s1neqsp s1neqsc ev1pp ev1pc r}(hr:(Zfs s1 ev1).Ret r):Ctr Tryz.prog 64 #[.agg ((v33' s1 s1varsp s1varsc s1eqsp s1eqsc s1neqsp s1neqsc)).toArray,.agg ([i' ev1.kind,.string ev1.name,i' ev1.at',i' ev1.to',i' ev1.id,.slice ev1pp ev1.p.length ev1pc,.bool ev1.neq]).toArray] (fun G=>sl Rp.str G s1varsp s1varsc s1.vars∧sl a' G s1eqsp s1eqsc s1.eqs∧sl a' G s1neqsp s1neqsc s1.neqs∧sl r' G ev1pp ev1pc ev1.p) (fun G v=>∃ A B E H D C,v = .tuple #[.agg ((v33' r.1 A B E H D C)).toArray,i' r.2]∧sl Rp.str G A B r.1.vars∧sl a' G E H r.1.eqs∧sl a' G D C r.1.neqs):=by
 refine C' (args:=[_,_]) (N:=55) Tryz.func64 z z z (fun w0 T q a1=>?_)
 obtain⟨m,Q,F,aa⟩:=a1
 have hz:w0.L.zero:=by rw[q]; intro p hp; simp at hp
 refine sr<|W' 112802 z z z fun b1=>W' 112803 z z z fun b2=>U' 4 z z33 z fun b3=>sg z z<|nr<|yy (as' z) z<|yy (e' 112802 bo' z z z) z<|yy (L' y' m z) z<|U' 112806 z z3 z fun b4=>aw' 112806 ([i' (s1.vars.length:Int)]).toArray z sz3 z z z (by first|decide|simp) z z<|nx<|h'<|bE' 112806 z (by rw[q]; rfl) fun bP g an aS=>bE' 112803 z (by rw[q]; rfl) fun bM d au aY=>bE' 112802 z (by rw[q]; rfl) fun bb h aI a0=>w'<|yy (bR' z z) z ?_
 obtain⟨bd,aG,hr⟩:=hr
 refine M' z z (t' E94 z) (br' aG) z ((show FnRd Tryz.prog fa0 foB bb (.func (.func 95) #[] #[.pointer (some ⟨b4,0,none⟩)]) () (fun _=>ZaG (s1.vars.length:Int)) from (dg' E95 (fun x U=>dh' (fl' _ _ x U) (fun G' c=>(E' (cn' (r:=(Rp.int .i64)) (cs:=[i' (s1.vars.length:Int)]) an z z) (mt (mt d h) c))))))) (fun bA a8 l ac=>?_)
 obtain⟨bl,bu,rfl,aq⟩:=ac
 refine yy (bR' z z) z ?_
 obtain⟨bg,aP,hr⟩:=hr
 refine M' z z (t' E94 z) (br' aP) z ((show FnRd Tryz.prog fa0 foB a8 (.func (.func 96) #[] #[.pointer (some ⟨b2,0,none⟩),.pointer (some ⟨b4,0,none⟩)]) () (fun _=>Zai ev1 (s1.vars.length:Int)) from (dg' E96 (fun x U=>dh' (fn' _ _ _ _ x U) (fun G' c=>⟨(E' (cn' (r:=ah') (cs:=[i' ev1.kind,.string ev1.name,i' ev1.at',i' ev1.to',i' ev1.id,.slice ev1pp ev1.p.length ev1pc,.bool ev1.neq]) au z ⟨[i' ev1.kind],[.string ev1.name,i' ev1.at',i' ev1.to',i' ev1.id,.slice ev1pp ev1.p.length ev1pc,.bool ev1.neq],z,z,⟨[.string ev1.name],[i' ev1.at',i' ev1.to',i' ev1.id,.slice ev1pp ev1.p.length ev1pc,.bool ev1.neq],z,z,⟨[i' ev1.at'],[i' ev1.to',i' ev1.id,.slice ev1pp ev1.p.length ev1pc,.bool ev1.neq],z,z,⟨[i' ev1.to'],[i' ev1.id,.slice ev1pp ev1.p.length ev1pc,.bool ev1.neq],z,z,⟨[i' ev1.id],[.slice ev1pp ev1.p.length ev1pc,.bool ev1.neq],z,z,⟨[.slice ev1pp ev1.p.length ev1pc],[.bool ev1.neq],z,⟨_,z,(aa.mono (mt g d))⟩,z⟩⟩⟩⟩⟩⟩) (mt (mt h l) c)),(E' (cn' (r:=(Rp.int .i64)) (cs:=[i' (s1.vars.length:Int)]) an z z) (mt (mt (mt d h) l) c))⟩))))) (fun bs be s am=>?_)
 obtain⟨bm,bk,rfl,av⟩:=am
 refine yy (bR' z z) z ?_
 obtain⟨bf,aO,hr⟩:=hr
 refine M' z z (t' E94 z) (br' aO) z ((show FnRd Tryz.prog fa0 foB be (.func (.func 97) #[] #[.pointer (some ⟨b2,0,none⟩),.pointer (some ⟨b1,0,none⟩)]) () (fun _=>ZaH ev1 s1) from (dg' E97 (fun x U=>dh' (fo' _ _ _ _ x U) (fun G' c=>⟨(E' (cn' (r:=ah') (cs:=[i' ev1.kind,.string ev1.name,i' ev1.at',i' ev1.to',i' ev1.id,.slice ev1pp ev1.p.length ev1pc,.bool ev1.neq]) au z ⟨[i' ev1.kind],[.string ev1.name,i' ev1.at',i' ev1.to',i' ev1.id,.slice ev1pp ev1.p.length ev1pc,.bool ev1.neq],z,z,⟨[.string ev1.name],[i' ev1.at',i' ev1.to',i' ev1.id,.slice ev1pp ev1.p.length ev1pc,.bool ev1.neq],z,z,⟨[i' ev1.at'],[i' ev1.to',i' ev1.id,.slice ev1pp ev1.p.length ev1pc,.bool ev1.neq],z,z,⟨[i' ev1.to'],[i' ev1.id,.slice ev1pp ev1.p.length ev1pc,.bool ev1.neq],z,z,⟨[i' ev1.id],[.slice ev1pp ev1.p.length ev1pc,.bool ev1.neq],z,z,⟨[.slice ev1pp ev1.p.length ev1pc],[.bool ev1.neq],z,⟨_,z,(aa.mono (mt g d))⟩,z⟩⟩⟩⟩⟩⟩) (mt (mt (mt h l) s) c)),(E' (cn' (r:=bs') (cs:=(v33' s1 s1varsp s1varsc s1eqsp s1eqsc s1neqsp s1neqsc)) aI z ⟨[.slice s1varsp s1.vars.length s1varsc],[.slice s1eqsp s1.eqs.length s1eqsc,.slice s1neqsp s1.neqs.length s1neqsc,i' s1.next],z,⟨_,z,(m.mono (mt (mt g d) h))⟩,⟨[.slice s1eqsp s1.eqs.length s1eqsc],[.slice s1neqsp s1.neqs.length s1neqsc,i' s1.next],z,⟨_,z,(Q.mono (mt (mt g d) h))⟩,⟨[.slice s1neqsp s1.neqs.length s1neqsc],[i' s1.next],z,⟨_,z,(F.mono (mt (mt g d) h))⟩,z⟩⟩⟩) (mt (mt l s) c))⟩))))) (fun bI bN J ak=>?_)
 obtain⟨bE,bF,rfl,ay⟩:=ak
 obtain⟨ax,R,rfl⟩:=cf' aq
 obtain⟨Z,I,rfl⟩:=cf' av
 obtain⟨P,t,rfl⟩:=cf' ay
 refine aU' (e:=131) (r:=(Rp.fn Tryz.prog fa0 foI)) (vs:=#[(0,(.func (.func ax) #[] R)),(1,(.func (.func Z) #[] I)),(2,(.func (.func P) #[] t))]) (cs:=[(.func (.func ax) #[] R)]++([(.func (.func Z) #[] I)]++([(.func (.func P) #[] t)]++([])))) ([bd,bg,bf]:List (Unit→Comp Int)) z z z z z (by decide) (fun _=>by kernel_rfl) ⟨[(.func (.func ax) #[] R)],[(.func (.func Z) #[] I)]++([(.func (.func P) #[] t)]++([])),z,⟨_,z,(aq.mono (mt s J))⟩,⟨[(.func (.func Z) #[] I)],[(.func (.func P) #[] t)]++([]),z,⟨_,z,(av.mono J)⟩,⟨[(.func (.func P) #[] t)],[],z,⟨_,z,ay⟩,z⟩⟩⟩ (key:=999) z (by rw[q]; rfl) (fun p1 bR aF bc=>?_)
 obtain⟨bO,aM,hr⟩:=hr
 refine H' z z (t' E93 z) (cH' aM) z (bc)<|sg z z<|cP' 112802 z a0 (mt g d) (mt (mt (mt (mt h l) s) J) aF)<|cP' 112803 z aY g d<|cP' 112806 z aS mr g<|nx<|h'<|sr<|mv z z<|yy (aQ' z z) z<|nx<|I' hr z (fun a7 hr=>?_) (fun a7 hr=>?_)
 ·refine sr<|yy (aq' (vs:=#[]) (v:=.agg ([.slice none 0 0,.slice none 0 0,.slice none 0 0,i' 0]).toArray) z z (fun _=>by kernel_rfl)) z<|mv z z<|v' 4 z aY' z z z z z (List.all_eq_true.1 z)<|sg z z<|nx<|j' ?_
  replace hr:_=r:=hr
  refine g' ?_
  subst hr
  exact aI' z (ad' (i:=4) ag' z z z) z ⟨_,_,_,_,_,_,z,(aa' Rp.str _),(aa' a' _),(aa' a' _)⟩
 ·refine n'<|b'<|sr ?_
  obtain⟨ar,aK,hr⟩:=hr
  refine H' z z (t' E100 z) (dX' aK) z (trivial)<|U' 8 z z83 z fun b5=>v' 8 z sz83 z z z (Q' _ _ _) (Q' _ _ _) (fun u hu=>Rp.one (cx' .i64 8) (G:=T) (x:=ar) (cs:=vecG (Value.int .i64) 8 ar) z u (by first|simpa using hu|simpa [Value.cells] using hu))<|nx<|h'<|sr<|yy (aB' z) z<|yy (e' 112803 sc3 z z z) z<|sg z z<|nx<|ab' (fun (⟨o,M⟩:(Fin 8→Int)×Mem)=>[(2,.pointer (some ⟨b1,0,none⟩)),(3,.pointer (some ⟨b2,0,none⟩)),(4,.pointer (some ⟨b3,0,none⟩)),(6,.pointer (some ⟨b4,0,none⟩)),(8,.pointer (some ⟨b5,0,none⟩))]) (fun ⟨o,M⟩=>Mem.le T M∧(Zc5 s1 ev1 o).Ret r) (fun ⟨o,M⟩=>St w0 T M [(112802,some ⟨b1,.cells ((v33' s1 s1varsp s1varsc s1eqsp s1eqsc s1neqsp s1neqsc)).toArray 33 (0,0),0⟩),(112803,some ⟨b2,.cells ([i' ev1.kind,.string ev1.name,i' ev1.at',i' ev1.to',i' ev1.id,.slice ev1pp ev1.p.length ev1pc,.bool ev1.neq]).toArray 40 (0,0),0⟩),(4,some ⟨b3,.cells ([.slice none 0 0,.slice none 0 0,.slice none 0 0,i' 0]).toArray 33 (0,0),0⟩),(112806,some ⟨b4,.cells ([i' (s1.vars.length:Int)]).toArray 3 (0,0),0⟩),(8,some ⟨b5,.cells (vecG (Value.int .i64) 8 o).toArray 83 (0,0),0⟩)]) ?_ ?_
  ·refine A' ?_
   let aw:(Fin 8→Int)→Prop:=fun oo=>((fun ov=>match ov with|o=>Zc5 s1 ev1 o:(Fin 8→Int)→Comp (Zb×Int)) oo).wp (fun a=>a=r)
   replace hr:(Comp.loop _ _).wp aw:=hr
   refine ac' (Φ:=aw) (fun (⟨y,k,n⟩:Int×(Fin 8→Int)×Mem)=>((y,k):Int×(Fin 8→Int))) (fun ⟨y,k,n⟩=>[(2,.pointer (some ⟨b1,0,none⟩)),(3,.pointer (some ⟨b2,0,none⟩)),(4,.pointer (some ⟨b3,0,none⟩)),(6,.pointer (some ⟨b4,0,none⟩)),(8,.pointer (some ⟨b5,0,none⟩)),(9,i' y)]) (fun ⟨y,k,n⟩=>Mem.le T n) (fun ⟨y,k,n⟩=>St w0 T n [(112802,some ⟨b1,.cells ((v33' s1 s1varsp s1varsc s1eqsp s1eqsc s1neqsp s1neqsc)).toArray 33 (0,0),0⟩),(112803,some ⟨b2,.cells ([i' ev1.kind,.string ev1.name,i' ev1.at',i' ev1.to',i' ev1.id,.slice ev1pp ev1.p.length ev1pc,.bool ev1.neq]).toArray 40 (0,0),0⟩),(4,some ⟨b3,.cells ([.slice none 0 0,.slice none 0 0,.slice none 0 0,i' 0]).toArray 33 (0,0),0⟩),(112806,some ⟨b4,.cells ([i' (s1.vars.length:Int)]).toArray 3 (0,0),0⟩),(8,some ⟨b5,.cells (vecG (Value.int .i64) 8 k).toArray 83 (0,0),0⟩)]) ⟨ev1.at',ar,T⟩ hr (fc z (fc z (fc z (fc z (fc z (fc z fn)))))) mr (wk (lc z (lc z (lc z (lc z (lc z ln)))))) ?_
   ·intro bQ gx U hr
    obtain⟨y,k,n⟩:=gx
    have Y:=U
    refine h'<|sr<|mv z z<|yy (e' 112806 sc3 z z z) z<|yy (V' z z) z<|nx<|I' hr z (fun ba hr=>?_) (fun ba hr=>?_)
    ·refine n'<|b'<|h'<|A'<|w'<|mv z z<|mv z z<|yy (N' z z) z ?_
     obtain⟨a5,hr⟩:=hr
     refine yy (aX' ba' sz3 z z a5) z<|aw' 8 (vecG (Value.int .i64) 8 (setF k y.toNat (IntKind.i64.wrap (y+1)))).toArray z sz3 z z z (by first|(rw[Q']; omega)|(show _<(vecG _ _ _).toArray.size; rw[Q']; omega)) z (bX' _ _ _ _ _)<|u'<|D'<|b'<|w'<|mv z z<|yy (N' z z) z<|sg z z<|u'<|O' ⟨IntKind.i64.wrap (y+1),setF k y.toNat (IntKind.i64.wrap (y+1)),n⟩ hr Y (fc z (fc z (fc z (fc z (fc z (fc z fn)))))) (wk (lc z (lc z (lc z (lc z (lc z ln))))))
    ·refine ae'<|m'<|m'<|J'<|af' ⟨k,n⟩ ⟨Y,hr⟩ (fc z (fc z (fc z (fc z (fc z fn))))) (wk (lc z (lc z (lc z (lc z (lc z ln))))))
  ·rintro⟨o,M⟩ ⟨K,hr⟩
   refine b'<|sr<|yy (e' 112806 sc3 z z z) z<|yy (aB' z) z<|yy (e' 112803 sc3 z z z) z ?_
   obtain⟨a2,hr⟩:=hr
   refine yy (aX' ba' sz3 z z a2) z<|aw' 8 (vecG (Value.int .i64) 8 (setF o ((s1.vars.length:Int).toNat) ev1.at')).toArray z sz3 z z z (by first|(rw[Q']; omega)|(show _<(vecG _ _ _).toArray.size; rw[Q']; omega)) z (bX' _ _ _ _ _)<|nr<|yy (s' 112802 ag' z z z) z<|yy (s' 8 ag83 z z (Q' _ _ _)) z ?_
   obtain⟨ap,aZ,hr⟩:=hr
   refine M' z z (t' E101 z) (eh' aZ) z (⟨(m.mono K),(Q.mono K),(F.mono K)⟩) (fun bp bo a4 af=>?_)
   obtain⟨aT,aQ,ae,ag,X,V,rfl,S,ah,W⟩:=af
   refine v' 112802 z aY' z z z z z (List.all_eq_true.1 z)<|nx<|h'<|Z' [false,false,false,false,false,false,false,false] mix (by kernel_rfl) fun hb=>cn (fun _ c=>as' z)<|cn (fun _ c=>e' 112802 bo' z z z) ?_
   obtain⟨a9,aU,hr⟩:=hr
   refine Chain.callOwn (f:=103) (r:=Rp.str) (e:=9) (xs:=a9) (fun _=>z) (fun u G' c hu=>?_) ?_
   ·skip
    exact⟨_,_,_,fun _=>t' E103 z,cl' aU,z,(S.mono c)⟩
   refine cu (fun _ _ c=>aB' z)<|cu (fun _ _ c=>e' 112803 sc3 z z z)<|cu (fun _ _ c=>bV' z)<|cu (fun _ _ c=>e' 112803 sc9 z z z)<|eC' (r:=Rp.str) (e:=9) ([ev1.name]:List ByteArray) (fun _=>z) z (by decide) (fun u G' c hu=>?_) ?_
   ·exact⟨#[(0,.string ev1.name)],[.string ev1.name]++([]),z,z,fun _=>by kernel_rfl,⟨[.string ev1.name],[],z,z,z⟩⟩
   refine dx' (fun bv bB X1 az aj ad=>?_)
   obtain⟨p2,bK,rfl,a6⟩:=aj
   refine WL.adoptR ad (fun bq bH bh aN aR br=>?_)
   subst aN
   refine bT' (show WL _ _ _ _ _ _ (St w0 T X1.m _) from ?_)
   obtain⟨a3,aW,hr⟩:=hr
   refine bu' (fun w hs=>hs.rekey (i:=46) (j:=5000) z (by rw[q]; rfl))<|cj' z z (t' E102 z) (eb' aW) z (⟨aR,a6⟩) (lc z ln) hz (fun bx bD bw L al=>?_)
   obtain⟨aJ,aH,bj,rfl,rfl,aV⟩:=al
   refine bu' (fun w hs=>hs.rekey (i:=5000) (j:=4052) z (by rw[q]; rfl))<|bv' (r:=Rp.str) (e:=9) 4052 aV z (by rw[q]; rfl) fun bL bG O aL bi=>yy (as' z) z<|aw' 112802 ([.slice aJ a3.length aH,.slice ae ap.eqs.length ag,.slice X ap.neqs.length V,i' ap.next]).toArray z sz30 z z z (show 0<4 by decide) z z<|u'<|am'<|b'<|sr<|yy (s' 112802 ag' z z z) z<|v' 4 z aY' z z z z z (List.all_eq_true.1 z)<|sg z z<|nx<|j' ?_
   obtain rfl:_=r:=hr
   exact aI' z (ad' (i:=4) ag' z z z) z ⟨_,_,_,_,_,_,z,aL,(ah.mono (mt (mt az L) O)),(W.mono (mt (mt az L) O))⟩
end Go.Proofs.YtenaadodnembpaaGreat

