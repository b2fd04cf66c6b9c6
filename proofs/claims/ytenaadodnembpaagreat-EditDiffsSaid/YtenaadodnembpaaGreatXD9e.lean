/- The law EditDiffs holds for every input: a part of its proof (what the code does, plain models, and what they return). No condition. -/
import Derived.Test.YtenaadodnembpaaGreatXD9d
import Derived.Test.YtenaadodnembpaaGreatXD9c
import Derived.Test.YtenaadodnembpaaGreatXD9b
set_option linter.unusedVariables false
set_option linter.unusedSimpArgs false
namespace Go.Proofs.YtenaadodnembpaaGreat
open Go Go.EL Go.RowKit Go.Proofs
theorem dY'{xs i ys p c m tk q d r}(hr:(Za7 xs i ys).Ret r):CtrL Tryz.prog 102 #[.slice p m c,i' i,.slice q ys.length d] [(5000,tk)] (fun G=>RowR Rp.str 9 G (.slice p m c) xs tk∧sl Rp.str G q d ys) (fun G L v=>∃ zp zc af,L=[(5000,af)]∧v = .slice zp r.length zc∧RowR Rp.str 9 G (.slice zp r.length zc) r af):=by
 obtain⟨⟨⟨aW,ap⟩,ao,aY⟩,hr⟩:=hr
 obtain rfl:_=r:=hr
 obtain⟨j,rfl⟩:∃ j:Nat,i=j:=⟨i.toNat,by omega⟩
 refine aT' (args:=[_,_,_]) (N:=95) Tryz.func102 z z z (fun w0 H aq al=>?_)
 obtain⟨E,ae⟩:=al
 obtain⟨p',c1,hf⟩:=E.form
 cases hf
 simp only[Int.toNat_natCast]
 refine sr<|sg z z<|nr<|mv z z<|mv z z<|yy (Y0.slcG A' sz9 z z (by omega)) z<|nr<|mv z z<|yy (dP' A' z) z<|sg z z<|nx<|h'<|sr<|mv z z<|yy (ak' z z) z<|nx<|bg' (by rw[show decide ((ys.length:Int)=0)=false from decide_eq_false (by omega)]; rfl)<|o'<|e'<|sr<|mv z z<|yy (dP' A' z) z<|sg z z<|nx<|h'<|sr<|mv z z<|mv z z<|yy (ak' z z) z<|nx<|dK' (p:=(j:Int)=(xs.length:Int)) z (fun hc=>?_) (fun hc=>?_)
 ·have hj:j=xs.length:=by omega
  subst hj
  have e1:xs.take xs.length++ys++xs.drop xs.length=xs++ys:=by simp
  rw[e1]
  refine sr<|mv z z<|mv z z<|bO' (r:=Rp.str) (e:=9) 5000 z z A' el9 z (by decide) z z E z ae (by simp only[List.length_append,small]; omega) fun p2 c2 aD S=>sg z z<|nx<|j'<|g'<|aA' (S':=St w0 H H [(5000,aD)]) (fun w x=>?_) (k' z z ⟨_,_,_,z,z,S⟩)
  exact x.weaken (lc z ln)
 ·cases tk with
  | none=>have:=E.1; subst this; simp at ap hc; omega
  | some y=>
  obtain⟨aT,cs,g,hv,ho,ag,T,V,aB,s⟩:=E
  cases hv
  obtain⟨b,ob,mk⟩:=y
  dsimp only at ho ag
  subst ho ag
  have aJ:=T.len
  have aX:j<xs.length:=by omega
  have ah:=RepL.split (l:=xs.take j) (m:=xs.drop j) (by rw[List.take_append_drop]; exact T)
  obtain⟨t,f,am,ac,O⟩:=ah
  subst am
  have C:=ac.len
  have M:=O.len
  rw[List.length_take,Nat.min_eq_left (by omega)] at C
  rw[List.length_drop] at M
  obtain⟨qy,dy,ds,av,aV,ak,X,B,A⟩:=ae
  cases av
  have aa:=X (by omega)
  obtain⟨⟨vb,vo,vs⟩,rfl⟩:=Option.isSome_iff_exists.1 aa
  have ad:=ak _ z (by omega)
  dsimp only at ad
  subst ad
  have A:∀ k u,ds[k]? = some u→H vb (vo+k)=some u:=A
  have D:=B.len
  rw[ao,Nat.one_mul] at D
  have U:(Rp.str).size=1:=z
  rw[U] at C M D V
  simp only[List.length_append] at V
  have I:∀ (bb R:Nat) (Z:List Value),(t++ds++f++Z).length=R*1→R≤maxLen→xs.length+1≤R→RowR Rp.str 9 H (.slice (some ⟨bb,0,none⟩) (xs.take j++ys++xs.drop j).length R) (xs.take j++ys++xs.drop j) (some ⟨bb,.cells (t++ds++f++Z).toArray 9 (0,0),0⟩):=fun bb R Z h1 S h3=>
   ⟨R,t++ds++f,Z,z,z,z,(ac.append B).append O,by rw[U]; exact h1,S,by simp only[List.length_append,List.length_take,List.length_drop]; omega⟩
  have P:(xs.take j++ys++xs.drop j).length=xs.length+1:=by simp only[List.length_append,List.length_take,List.length_drop]; omega
  refine o'<|e'<|h'<|sr<|mv z z<|mv z z<|yy (N' z z) z<|mv z z<|yy (Y0.capS A' z) z<|yy (br' z z) z<|nx ?_
  have Y:IntKind.i64.wrap ((xs.length:Int)+(ys.length:Int))=((xs.length+1:Nat):Int):=by rw[IntKind.wrap_i64]; omega
  rw[Y]
  refine dK' (p:=(c:Int)<((xs.length+1:Nat):Int)) z (fun ay=>?_) (fun ay=>?_)
  ·refine sr<|mv z z<|mv z z<|yy (Y0.slc (l:=0) (h:=j) (m:=c) (b:=b) (o:=0) A' sz9 z z ⟨_,z⟩ z (by omega) (by omega) (by omega)) z<|mv z z<|mv z z<|yy (N' z z) z<|mv z z<|yy (bd' z z) z ?_
   rw[Y]
   have ax:IntKind.i64.wrap (((xs.length+1:Nat):Int)-(j:Int))=((xs.length+1-j:Nat):Int):=by rw[IntKind.wrap_i64]; omega
   rw[ax]
   simp only[Nat.zero_mul,Nat.add_zero,ite_self,Nat.sub_zero]
   refine WL.appendZ (sz:=1) (bytes:=16) (n:=j) (cap:=c) (m:=xs.length+1-j) (b:=b) 5000 7001 z z A' az' el9 z (by decide) (by decide) z z z (by omega) (by omega) (by simp only[small]; omega) (by simp only[List.length_append]; omega) (fun Q J W h1 S h3=>?_)
   have et:List.take (j*1) (t++f++g)=t:=by rw[List.append_assoc,← C,List.take_left]
   have e0:j+(xs.length+1-j)=xs.length+1:=by omega
   rw[e0] at h1
   rw[et,e0]
   refine sg z z<|nr<|mv z z<|mv z z<|yy (cM' (l:=j) (n:=xs.length+1) (cap:=J) (b:=Q) A' sz9 z z (by omega) (by omega) (by omega)) z<|mv z z<|di' (sz:=1) (dn:=xs.length+1-j) (sn:=ys.length) (ds:=ds) (b:=Q) (o:=j*1) 7001 z z A' sz9 z z z (by rw[D]; simp only[Nat.min_def]; split <;> omega) (fun w x k u F=>x.imm _ _ _ (A k u F)) (by simp only[List.length_append]; omega) B.one ?_
   have e2:spl (t++W) (j*1) ds=t++ds++W.drop 1:=by
    rw[← C]; simp only[spl,List.take_left,← List.drop_drop,List.drop_left,D]
   rw[e2]
   refine nx<|h'<|Y' [false,false,false,false,false,false,false,false] mix (by kernel_rfl) fun hb=>cn (fun _ s=>f' z)<|cn (fun _ s=>f' z)<|cn (fun _ s=>f' z)<|cn (fun _ s=>N' z z) ?_
   have K:IntKind.i64.wrap ((j:Int)+(ys.length:Int))=((j+1:Nat):Int):=by rw[IntKind.wrap_i64]; omega
   rw[K]
   refine cn (fun _ s=>cM' (l:=j+1) (n:=xs.length+1) (cap:=J) (b:=Q) A' sz9 z z (by omega) (by omega) (by omega))<|cn (fun _ s=>f' z)<|cn (fun _ s=>f' z)<|cn (fun _ s=>cM' (l:=j) (n:=xs.length) (cap:=c) (b:=b) A' sz9 z z (by omega) (by omega) (by omega))<|X' hb ?_
   ·skip
    refine di' (sz:=1) (dn:=xs.length+1-(j+1)) (sn:=xs.length-j) (ds:=f) (b:=Q) (o:=(j+1)*1) 7001 z z A' sz9 z z z (by rw[M]; congr 1; simp only[Nat.min_def]; split <;> omega) (fun w x k u F=>by
     rw[x.cellOwn (key:=5000) (b:=b) (c:=t++f++g) (e:=9) z,List.append_assoc,List.getElem?_append_right (by omega),← C,Nat.add_sub_cancel_left,List.getElem?_append_left (List.getElem?_eq_some_iff.1 F).1]
     exact F) (by simp only[List.length_append,List.length_drop]; omega) O.one ?_
    have e3:spl (t++ds++W.drop 1) ((j+1)*1) f=t++ds++f++(W.drop 1).drop f.length:=by
     have:(j+1)*1=(t++ds).length:=by simp only[List.length_append]; omega
     rw[this]; simp only[spl,List.take_left,← List.drop_drop,List.drop_left]
    rw[e3]
    refine u'<|am'<|e'<|sr<|mv z z<|sg z z<|nx<|j'<|g'<|aA' (S':=St w0 H H [(5000,some ⟨Q,.cells (t++ds++f++(W.drop 1).drop f.length).toArray 9 (0,0),0⟩)]) (fun w x=>?_) (k' z z ⟨_,_,_,z,by rw[P],I Q J _ (by simp only[List.length_append,List.length_drop]; omega) S h1⟩)
    have x:=x.rekey (i:=7001) (j:=5000) z (by rw[aq]; rfl)
    exact x.weaken (lc z ln)
  ·refine o'<|e'<|sr<|mv z z<|mv z z<|mv z z<|yy (N' z z) z ?_
   rw[Y]
   refine yy (Y0.slc (l:=0) (h:=xs.length+1) (m:=c) (b:=b) (o:=0) A' sz9 z z ⟨_,z⟩ z (by omega) (by omega) (by omega)) z ?_
   simp only[Nat.zero_mul,Nat.add_zero,ite_self,Nat.sub_zero]
   refine sg z z<|nx<|h'<|sr<|mv z z<|mv z z<|mv z z<|mv z z<|yy (N' z z) z ?_
   have K:IntKind.i64.wrap ((j:Int)+(ys.length:Int))=((j+1:Nat):Int):=by rw[IntKind.wrap_i64]; omega
   rw[K]
   refine yy (cM' (l:=j+1) (n:=xs.length+1) (cap:=c) (b:=b) A' sz9 z z (by omega) (by omega) (by omega)) z ?_
   obtain⟨u0,ar⟩:∃ u,ds[0]? = some u:=⟨ds[0],by simp⟩
   refine yy (Y0.ext z (fun w x=>Zd9 (tR:=4) (key:=5000) A' sz9 Tryz.func143 z z (by kernel_rfl) (by kernel_rfl) x z (by simp only[List.size_toArray,List.length_append]; omega) (A 0 u0 ar))) z<|yy (ao' z) z<|nx<|at' z<|h'<|Y' [false,false,false,false,false,false,false,false] mix (by kernel_rfl) fun hb=>cn (fun _ s=>f' z)<|cn (fun _ s=>f' z)<|cn (fun _ s=>f' z)<|cn (fun _ s=>N' z z) ?_
   rw[K]
   refine cn (fun _ s=>cM' (l:=j+1) (n:=xs.length+1) (cap:=c) (b:=b) A' sz9 z z (by omega) (by omega) (by omega))<|cn (fun _ s=>f' z)<|cn (fun _ s=>f' z)<|cn (fun _ s=>cM' (l:=j) (n:=xs.length+1) (cap:=c) (b:=b) A' sz9 z z (by omega) (by omega) (by omega))<|X' hb<|di' (sz:=1) (dn:=xs.length+1-(j+1)) (sn:=xs.length+1-j) (ds:=f) (b:=b) (o:=(j+1)*1) 5000 z z A' sz9 z z z (by rw[M]; congr 1; simp only[Nat.min_def]; split <;> omega) (fun w x k u F=>by
    rw[x.cellOwn (key:=5000) (b:=b) (c:=t++f++g) (e:=9) z,List.append_assoc,List.getElem?_append_right (by omega),← C,Nat.add_sub_cancel_left,List.getElem?_append_left (List.getElem?_eq_some_iff.1 F).1]
    exact F) (by simp only[List.length_append]; omega) O.one ?_
   refine u'<|am'<|e'<|sr<|mv z z<|mv z z<|yy (cM' (l:=j) (n:=xs.length+1) (cap:=c) (b:=b) A' sz9 z z (by omega) (by omega) (by omega)) z<|mv z z ?_
   have aw:(spl (t++f++g) ((j+1)*1) f).length=c*1:=by rw[ZdE (by simp only[List.length_append]; omega)]; simp only[List.length_append]; omega
   refine di' (sz:=1) (dn:=xs.length+1-j) (sn:=ys.length) (ds:=ds) (b:=b) (o:=j*1) 5000 z z A' sz9 z z z (by rw[D]; simp only[Nat.min_def]; split <;> omega) (fun w x k u F=>x.imm _ _ _ (A k u F)) (by rw[aw]; omega) B.one ?_
   have e4:spl (spl (t++f++g) ((j+1)*1) f) (j*1) ds=t++ds++f++(t++f++g).drop ((j+1)*1+f.length):=by
    have e5:spl (t++f++g) ((j+1)*1) f=t++((f++g).take 1++(f++(t++f++g).drop ((j+1)*1+f.length))):=by
     simp only[spl]
     rw[show (j+1)*1=t.length+1 by omega,List.append_assoc t f g,List.take_length_add_append]
     simp only[List.append_assoc]
    rw[e5,← C]
    have e6:((f++g).take 1).length=1:=by rw[List.length_take,List.length_append]; omega
    simp only[spl,List.take_left,← List.drop_drop,List.drop_left,D]
    rw[List.drop_left' e6]
    simp only[List.append_assoc]
   rw[e4]
   refine nr<|mv z z<|sg z z<|nx<|j'<|g'<|aA' (S':=St w0 H H [(5000,some ⟨b,.cells (t++ds++f++(t++f++g).drop ((j+1)*1+f.length)).toArray 9 (0,0),0⟩)]) (fun w x=>?_) (k' z z ⟨_,_,_,z,by rw[P],I b c _ (by simp only[List.length_append,List.length_drop]; omega) aB (by omega)⟩)
   exact x.weaken (lc z ln)
theorem dZ'{xs i i2 p c m tk r}(hr:(Za6 xs i i2).Ret r):CtrL Tryz.prog 108 #[.slice p m c,i' i,i' i2] [(5000,tk)] (fun G=>RowR Rp.str 9 G (.slice p m c) xs tk) (fun G L v=>∃ zp zc R,L=[(5000,R)]∧v = .slice zp r.length zc∧RowR Rp.str 9 G (.slice zp r.length zc) r R):=by
 obtain⟨⟨az,ax,aa,av⟩,hr⟩:=hr
 obtain rfl:_=r:=hr
 obtain⟨j,rfl⟩:∃ j:Nat,i=j:=⟨i.toNat,by omega⟩
 obtain⟨k,rfl⟩:∃ k:Nat,i2=k:=⟨i2.toNat,by omega⟩
 refine aT' (args:=[_,_,_]) (N:=33) Tryz.func108 z z z (fun w0 M aw s=>?_)
 obtain⟨p',c',hf⟩:=s.form
 cases hf
 simp only[Int.toNat_natCast]
 have X:xs.length≤c:=by
  cases tk with
  | none=>have:=s.1; subst this; simp
  | some y=>obtain⟨c1,cs,f,U,W,E,J,C,P,t⟩:=s; cases U; exact t
 refine sr<|sg z z<|nr<|mv z z<|mv z z<|mv z z<|mv z z<|yy (dP' A' z) z<|yy (Y0.slcA A' sz9 z z z z (by omega) (by omega) X) z<|nx<|h'<|sr<|mv z z<|mv z z<|yy (ak' z z) z<|nx<|dK' (p:=(j:Int)=(k:Int)) z (fun hc=>?_) (fun hc=>?_)
 ·have hj:j=k:=by omega
  subst hj
  rw[List.take_append_drop]
  refine sr<|mv z z<|sg z z<|nx<|j'<|g'<|aA' (S':=St w0 M M [(5000,tk)]) (fun w H=>H.weaken (lc z ln)) (k' z z ⟨_,_,_,z,z,s⟩)
 ·cases tk with
  | none=>have:=s.1; subst this; simp at aa hc; omega
  | some y=>
  obtain⟨c1,cs,f,U,W,E,J,C,P,t⟩:=s
  cases U
  obtain⟨b,ob,mk⟩:=y
  dsimp only at W E
  subst W E
  have x:(Rp.str).size=1:=z
  obtain⟨g,cb,T,O,ak⟩:=RepL.split (l:=xs.take j) (m:=xs.drop j) (by rw[List.take_append_drop]; exact J)
  subst T
  obtain⟨A,d,V,ag,K⟩:=RepL.split (l:=(xs.drop j).take (k-j)) (m:=xs.drop k) (by
   have:xs.drop k=(xs.drop j).drop (k-j):=by rw[List.drop_drop]; congr 1; omega
   rw[this,List.take_append_drop]; exact ak)
  subst V
  have D:=O.len
  have Q:=ag.len
  have B:=K.len
  rw[List.length_take,Nat.min_eq_left (by omega),x] at D
  rw[List.length_take,List.length_drop,Nat.min_eq_left (by omega),x] at Q
  rw[List.length_drop,x] at B
  rw[x] at C
  simp only[List.length_append] at C
  refine o'<|e'<|sr<|mv z z<|yy (dP' A' z) z<|sg z z<|nx<|h' ?_
  have e0:(g++(A++d)++f)=g++A++(d++f):=by simp only[List.append_assoc]
  rw[e0]
  have ai:(g++A).length=k*1:=by rw[List.length_append,D,Q,← Nat.add_mul]; congr 1; omega
  refine Y' [false,false,false,false,false,false] mix (by kernel_rfl) fun hb=>cn (fun _ t=>f' z)<|cn (fun _ t=>f' z)<|cn (fun _ t=>Y0.slc (l:=0) (h:=j) (m:=c) (b:=b) (o:=0) A' sz9 z z ⟨_,z⟩ z (by omega) (by omega) (by omega))<|cn (fun _ t=>f' z)<|cn (fun _ t=>f' z)<|cn (fun _ t=>Y0.slc (l:=k) (h:=xs.length) (m:=c) (b:=b) (o:=0) A' sz9 z z ⟨z,z⟩ ⟨_,z⟩ (by omega) (by omega) (by omega)) ?_
  simp only[Nat.zero_mul,Nat.add_zero,ite_self,Nat.sub_zero]
  refine X' hb<|WL.appendOwn (sz:=1) (ds:=d) (b:=b) (n:=j) (cap:=c) (m:=xs.length-k) 5000 z z A' sz9 z z z (by rw[B]) (fun w H q u hu=>by
   have F:=(List.getElem?_eq_some_iff.1 hu).1
   have ab:¬ c=k:=fun e=>by subst e; rw[B] at F; rw[show xs.length-c=0 by omega] at F; omega
   rw[if_neg ab,Nat.zero_add,H.cellOwn (key:=5000) (b:=b) (c:=g++A++(d++f)) (e:=9) z,List.getElem?_append_right (by omega),← ai,Nat.add_sub_cancel_left,List.getElem?_append_left F]
   exact hu) (by omega) (by simp only[List.length_append]; omega) K.one ?_
  refine sg z z<|u'<|am'<|e'<|sr<|mv z z<|mv z z<|yy (dP' A' z) z<|mv z z<|yy (Y0.slc (l:=j+(xs.length-k)) (h:=xs.length) (m:=c) (b:=b) (o:=0) A' sz9 z z ⟨_,z⟩ ⟨_,z⟩ (by omega) (by omega) (by omega)) z ?_
  rw[if_neg (show ¬ c=j+(xs.length-k) by omega),Nat.zero_add ((j+(xs.length-k))*1)]
  have I:(spl (g++A++(d++f)) (j*1) d).length=c*1:=by rw[ZdE (by simp only[List.length_append]; omega)]; simp only[List.length_append]; omega
  refine WL.clearOwn (n:=xs.length-(j+(xs.length-k))) (b:=b) (o:=(j+(xs.length-k))*1) 5000 z trivial A' z9 (List.all_eq_true.1 z) z z (by rw[I]; show _+_*1≤_; omega) (fun ds ah=>?_)
  have ay:ds.length=(xs.length-(j+(xs.length-k)))*1:=ah
  have Z:(spl (spl (g++A++(d++f)) (j*1) d) ((j+(xs.length-k))*1) ds).length=c*1:=by rw[ZdE (by rw[I]; omega),I]
  have Y:spl (spl (g++A++(d++f)) (j*1) d) ((j+(xs.length-k))*1) ds=g++d++(spl (spl (g++A++(d++f)) (j*1) d) ((j+(xs.length-k))*1) ds).drop (g++d).length:=by
   have e5:∃ q,spl (g++A++(d++f)) (j*1) d=(g++d)++q:=⟨_,by rw[← D]; simp only[spl]; rw[List.append_assoc g A,List.take_left]⟩
   obtain⟨q,hq⟩:=e5
   have S:(j+(xs.length-k))*1=(g++d).length:=by rw[List.length_append,D,B,← Nat.add_mul]
   rw[hq,S]
   simp only[spl]
   rw[List.take_left,List.append_assoc (g++d) ds,List.drop_left]
  rw[Y]
  refine nr<|mv z z<|sg z z<|nx<|j'<|aA' (S':=St w0 M M [(5000,some ⟨b,.cells (g++d++(spl (spl (g++A++(d++f)) (j*1) d) ((j+(xs.length-k))*1) ds).drop (g++d).length).toArray 9 (0,0),0⟩)]) (fun w H=>H.weaken (lc z ln)) (k' z z ⟨_,_,_,z,?_,⟨c,g++d,_,z,z,z,O.append K,?_,P,?_⟩⟩)
  ·rw[show (xs.take j++xs.drop k).length=j+(xs.length-k) by simp only[List.length_append,List.length_take,List.length_drop]; omega]
  ·rw[← Y,Z,x]
  ·simp only[List.length_append,List.length_take,List.length_drop]; omega
theorem da'{k r}(hr:(Z5 k).Ret r):CtrL Tryz.prog 145 #[.slice none 0 0,i' k] [] (fun _=>True) (fun G L v=>∃ g q f,L=[(7000,f)]∧v = .slice g r.length q∧RowR a' 68 G (.slice g r.length q) r f):=by
 obtain⟨⟨C,D⟩,hr⟩:=hr
 replace hr:[]=r:=hr
 subst hr
 obtain⟨m,rfl⟩:∃ m:Nat,k=m:=⟨k.toNat,by omega⟩
 refine aT' (args:=[_,_]) (N:=27) Tryz.func145 z z z fun n e t _=>sr<|sg z z<|nx<|h'<|sr<|mv z z<|yy (V' z z) z<|nx<|bg' (by rw[show decide ((m:Int)<0)=false from decide_eq_false (by omega)]; rfl)<|o'<|e'<|h'<|sr<|mv z z<|mv z z<|yy (Y0.capS q' z) z<|mv z z<|yy (dP' q' z) z<|yy (bd' z z) z<|yy (bd' z z) z ?_
 have y:IntKind.i64.wrap ((m:Int)-IntKind.i64.wrap (((0:Nat):Int)-((0:Nat):Int)))=m:=by simp only[IntKind.wrap_i64]; omega
 rw[y]
 refine sg z z<|nx<|sr<|mv z z<|yy (br' z z) z<|nx<|dK' (p:=(0:Int)<(m:Int)) z (fun x=>?_) (fun x=>?_)
 ·refine w'<|mv z z<|mv z z<|yy (Y0.capS q' z) z<|yy (Y0.nilH q' aP' z z) z<|mv z z<|WL.appendZ0 (sz:=2) (bytes:=32) (m:=m) 7001 z z q' az' el68 z (by decide) (by decide) z z (by omega) (by simp only[small]; omega) fun u c s A B=>mv z z<|yy (dP' q' z) z<|yy (Y0.slc (l:=0) (h:=0) (m:=c) (b:=u) (o:=0) q' aP' z z ⟨_,z⟩ z (Nat.le_refl _) (Nat.zero_le _) (Nat.le_refl _)) z ?_
  simp only[Nat.zero_mul,Nat.add_zero,ite_self,Nat.sub_zero]
  refine sg z z<|u'<|e'<|sr<|mv z z<|sg z z<|nx<|j'<|aA' (S':=St n e e [(7000,some ⟨u,.cells s.toArray 68 (0,0),0⟩)]) (fun w d=>?_) (k' z z ⟨_,_,_,z,z,⟨c,[],s,z,z,z,z,B,A,Nat.zero_le _⟩⟩)
  have d:=d.rekey (i:=7001) (j:=7000) z (by rw[t]; rfl)
  exact d.weaken (lc z ln)
 ·refine o'<|e'<|sr<|mv z z<|sg z z<|nx<|j'<|aA' (S':=St n e e [(7000,none)]) (fun w d=>d.weaken (lw ln)) (k' z z ⟨_,_,_,z,z,ea'⟩)
theorem df'{xs i ys p c m tk q d r}(hr:(ZP xs i ys).Ret r):CtrL Tryz.prog 154 #[.slice p m c,i' i,.slice q ys.length d] [(5000,tk)] (fun G=>RowR a' 68 G (.slice p m c) xs tk∧sl a' G q d ys) (fun G L v=>∃ zp zc af,L=[(5000,af)]∧v = .slice zp r.length zc∧RowR a' 68 G (.slice zp r.length zc) r af):=by
 obtain⟨⟨⟨aW,ap⟩,ao,aY⟩,hr⟩:=hr
 obtain rfl:_=r:=hr
 obtain⟨j,rfl⟩:∃ j:Nat,i=j:=⟨i.toNat,by omega⟩
 refine aT' (args:=[_,_,_]) (N:=95) Tryz.func154 z z z (fun w0 H aq al=>?_)
 obtain⟨E,ae⟩:=al
 obtain⟨p',c1,hf⟩:=E.form
 cases hf
 simp only[Int.toNat_natCast]
 refine sr<|sg z z<|nr<|mv z z<|mv z z<|yy (Y0.slcG q' aP' z z (by omega)) z<|nr<|mv z z<|yy (dP' q' z) z<|sg z z<|nx<|h'<|sr<|mv z z<|yy (ak' z z) z<|nx<|bg' (by rw[show decide ((ys.length:Int)=0)=false from decide_eq_false (by omega)]; rfl)<|o'<|e'<|sr<|mv z z<|yy (dP' q' z) z<|sg z z<|nx<|h'<|sr<|mv z z<|mv z z<|yy (ak' z z) z<|nx<|dK' (p:=(j:Int)=(xs.length:Int)) z (fun hc=>?_) (fun hc=>?_)
 ·have hj:j=xs.length:=by omega
  subst hj
  have e1:xs.take xs.length++ys++xs.drop xs.length=xs++ys:=by simp
  rw[e1]
  refine sr<|mv z z<|mv z z<|bO' (r:=a') (e:=68) 5000 z z q' el68 z (by decide) z z E z ae (by simp only[List.length_append,small]; omega) fun p2 c2 aD S=>sg z z<|nx<|j'<|g'<|aA' (S':=St w0 H H [(5000,aD)]) (fun w x=>?_) (k' z z ⟨_,_,_,z,z,S⟩)
  exact x.weaken (lc z ln)
 ·cases tk with
  | none=>have:=E.1; subst this; simp at ap hc; omega
  | some y=>
  obtain⟨aT,cs,g,hv,ho,ag,T,V,aB,s⟩:=E
  cases hv
  obtain⟨b,ob,mk⟩:=y
  dsimp only at ho ag
  subst ho ag
  have aJ:=T.len
  have aX:j<xs.length:=by omega
  have ah:=RepL.split (l:=xs.take j) (m:=xs.drop j) (by rw[List.take_append_drop]; exact T)
  obtain⟨t,f,am,ac,O⟩:=ah
  subst am
  have C:=ac.len
  have M:=O.len
  rw[List.length_take,Nat.min_eq_left (by omega)] at C
  rw[List.length_drop] at M
  obtain⟨qy,dy,ds,av,aV,ak,X,B,A⟩:=ae
  cases av
  have aa:=X (by omega)
  obtain⟨⟨vb,vo,vs⟩,rfl⟩:=Option.isSome_iff_exists.1 aa
  have ad:=ak _ z (by omega)
  dsimp only at ad
  subst ad
  have A:∀ k u,ds[k]? = some u→H vb (vo+k)=some u:=A
  have D:=B.len
  rw[ao,Nat.one_mul] at D
  have U:(a').size=2:=z
  rw[U] at C M D V
  simp only[List.length_append] at V
  have I:∀ (bb R:Nat) (Z:List Value),(t++ds++f++Z).length=R*2→R≤maxLen→xs.length+1≤R→RowR a' 68 H (.slice (some ⟨bb,0,none⟩) (xs.take j++ys++xs.drop j).length R) (xs.take j++ys++xs.drop j) (some ⟨bb,.cells (t++ds++f++Z).toArray 68 (0,0),0⟩):=fun bb R Z h1 S h3=>
   ⟨R,t++ds++f,Z,z,z,z,(ac.append B).append O,by rw[U]; exact h1,S,by simp only[List.length_append,List.length_take,List.length_drop]; omega⟩
  have P:(xs.take j++ys++xs.drop j).length=xs.length+1:=by simp only[List.length_append,List.length_take,List.length_drop]; omega
  refine o'<|e'<|h'<|sr<|mv z z<|mv z z<|yy (N' z z) z<|mv z z<|yy (Y0.capS q' z) z<|yy (br' z z) z<|nx ?_
  have Y:IntKind.i64.wrap ((xs.length:Int)+(ys.length:Int))=((xs.length+1:Nat):Int):=by rw[IntKind.wrap_i64]; omega
  rw[Y]
  refine dK' (p:=(c:Int)<((xs.length+1:Nat):Int)) z (fun ay=>?_) (fun ay=>?_)
  ·refine sr<|mv z z<|mv z z<|yy (Y0.slc (l:=0) (h:=j) (m:=c) (b:=b) (o:=0) q' aP' z z ⟨_,z⟩ z (by omega) (by omega) (by omega)) z<|mv z z<|mv z z<|yy (N' z z) z<|mv z z<|yy (bd' z z) z ?_
   rw[Y]
   have ax:IntKind.i64.wrap (((xs.length+1:Nat):Int)-(j:Int))=((xs.length+1-j:Nat):Int):=by rw[IntKind.wrap_i64]; omega
   rw[ax]
   simp only[Nat.zero_mul,Nat.add_zero,ite_self,Nat.sub_zero]
   refine WL.appendZ (sz:=2) (bytes:=32) (n:=j) (cap:=c) (m:=xs.length+1-j) (b:=b) 5000 7001 z z q' az' el68 z (by decide) (by decide) z z z (by omega) (by omega) (by simp only[small]; omega) (by simp only[List.length_append]; omega) (fun Q J W h1 S h3=>?_)
   have et:List.take (j*2) (t++f++g)=t:=by rw[List.append_assoc,← C,List.take_left]
   have e0:j+(xs.length+1-j)=xs.length+1:=by omega
   rw[e0] at h1
   rw[et,e0]
   refine sg z z<|nr<|mv z z<|mv z z<|yy (cM' (l:=j) (n:=xs.length+1) (cap:=J) (b:=Q) q' aP' z z (by omega) (by omega) (by omega)) z<|mv z z<|di' (sz:=2) (dn:=xs.length+1-j) (sn:=ys.length) (ds:=ds) (b:=Q) (o:=j*2) 7001 z z q' aP' z z z (by rw[D]; simp only[Nat.min_def]; split <;> omega) (fun w x k u F=>x.imm _ _ _ (A k u F)) (by simp only[List.length_append]; omega) B.one ?_
   have e2:spl (t++W) (j*2) ds=t++ds++W.drop 2:=by
    rw[← C]; simp only[spl,List.take_left,← List.drop_drop,List.drop_left,D]
   rw[e2]
   refine nx<|h'<|Y' [false,false,false,false,false,false,false,false] mix (by kernel_rfl) fun hb=>cn (fun _ s=>f' z)<|cn (fun _ s=>f' z)<|cn (fun _ s=>f' z)<|cn (fun _ s=>N' z z) ?_
   have K:IntKind.i64.wrap ((j:Int)+(ys.length:Int))=((j+1:Nat):Int):=by rw[IntKind.wrap_i64]; omega
   rw[K]
   refine cn (fun _ s=>cM' (l:=j+1) (n:=xs.length+1) (cap:=J) (b:=Q) q' aP' z z (by omega) (by omega) (by omega))<|cn (fun _ s=>f' z)<|cn (fun _ s=>f' z)<|cn (fun _ s=>cM' (l:=j) (n:=xs.length) (cap:=c) (b:=b) q' aP' z z (by omega) (by omega) (by omega))<|X' hb ?_
   ·skip
    refine di' (sz:=2) (dn:=xs.length+1-(j+1)) (sn:=xs.length-j) (ds:=f) (b:=Q) (o:=(j+1)*2) 7001 z z q' aP' z z z (by rw[M]; congr 1; simp only[Nat.min_def]; split <;> omega) (fun w x k u F=>by
     rw[x.cellOwn (key:=5000) (b:=b) (c:=t++f++g) (e:=68) z,List.append_assoc,List.getElem?_append_right (by omega),← C,Nat.add_sub_cancel_left,List.getElem?_append_left (List.getElem?_eq_some_iff.1 F).1]
     exact F) (by simp only[List.length_append,List.length_drop]; omega) O.one ?_
    have e3:spl (t++ds++W.drop 2) ((j+1)*2) f=t++ds++f++(W.drop 2).drop f.length:=by
     have:(j+1)*2=(t++ds).length:=by simp only[List.length_append]; omega
     rw[this]; simp only[spl,List.take_left,← List.drop_drop,List.drop_left]
    rw[e3]
    refine u'<|am'<|e'<|sr<|mv z z<|sg z z<|nx<|j'<|g'<|aA' (S':=St w0 H H [(5000,some ⟨Q,.cells (t++ds++f++(W.drop 2).drop f.length).toArray 68 (0,0),0⟩)]) (fun w x=>?_) (k' z z ⟨_,_,_,z,by rw[P],I Q J _ (by simp only[List.length_append,List.length_drop]; omega) S h1⟩)
    have x:=x.rekey (i:=7001) (j:=5000) z (by rw[aq]; rfl)
    exact x.weaken (lc z ln)
  ·refine o'<|e'<|sr<|mv z z<|mv z z<|mv z z<|yy (N' z z) z ?_
   rw[Y]
   refine yy (Y0.slc (l:=0) (h:=xs.length+1) (m:=c) (b:=b) (o:=0) q' aP' z z ⟨_,z⟩ z (by omega) (by omega) (by omega)) z ?_
   simp only[Nat.zero_mul,Nat.add_zero,ite_self,Nat.sub_zero]
   refine sg z z<|nx<|h'<|sr<|mv z z<|mv z z<|mv z z<|mv z z<|yy (N' z z) z ?_
   have K:IntKind.i64.wrap ((j:Int)+(ys.length:Int))=((j+1:Nat):Int):=by rw[IntKind.wrap_i64]; omega
   rw[K]
   refine yy (cM' (l:=j+1) (n:=xs.length+1) (cap:=c) (b:=b) q' aP' z z (by omega) (by omega) (by omega)) z ?_
   obtain⟨u0,ar⟩:∃ u,ds[0]? = some u:=⟨ds[0],by simp⟩
   refine yy (Y0.ext z (fun w x=>Zd9 (tR:=4) (key:=5000) q' aP' Tryz.func179 z z (by kernel_rfl) (by kernel_rfl) x z (by simp only[List.size_toArray,List.length_append]; omega) (A 0 u0 ar))) z<|yy (ao' z) z<|nx<|at' z<|h'<|Y' [false,false,false,false,false,false,false,false] mix (by kernel_rfl) fun hb=>cn (fun _ s=>f' z)<|cn (fun _ s=>f' z)<|cn (fun _ s=>f' z)<|cn (fun _ s=>N' z z) ?_
   rw[K]
   refine cn (fun _ s=>cM' (l:=j+1) (n:=xs.length+1) (cap:=c) (b:=b) q' aP' z z (by omega) (by omega) (by omega))<|cn (fun _ s=>f' z)<|cn (fun _ s=>f' z)<|cn (fun _ s=>cM' (l:=j) (n:=xs.length+1) (cap:=c) (b:=b) q' aP' z z (by omega) (by omega) (by omega))<|X' hb<|di' (sz:=2) (dn:=xs.length+1-(j+1)) (sn:=xs.length+1-j) (ds:=f) (b:=b) (o:=(j+1)*2) 5000 z z q' aP' z z z (by rw[M]; congr 1; simp only[Nat.min_def]; split <;> omega) (fun w x k u F=>by
    rw[x.cellOwn (key:=5000) (b:=b) (c:=t++f++g) (e:=68) z,List.append_assoc,List.getElem?_append_right (by omega),← C,Nat.add_sub_cancel_left,List.getElem?_append_left (List.getElem?_eq_some_iff.1 F).1]
    exact F) (by simp only[List.length_append]; omega) O.one ?_
   refine u'<|am'<|e'<|sr<|mv z z<|mv z z<|yy (cM' (l:=j) (n:=xs.length+1) (cap:=c) (b:=b) q' aP' z z (by omega) (by omega) (by omega)) z<|mv z z ?_
   have aw:(spl (t++f++g) ((j+1)*2) f).length=c*2:=by rw[ZdE (by simp only[List.length_append]; omega)]; simp only[List.length_append]; omega
   refine di' (sz:=2) (dn:=xs.length+1-j) (sn:=ys.length) (ds:=ds) (b:=b) (o:=j*2) 5000 z z q' aP' z z z (by rw[D]; simp only[Nat.min_def]; split <;> omega) (fun w x k u F=>x.imm _ _ _ (A k u F)) (by rw[aw]; omega) B.one ?_
   have e4:spl (spl (t++f++g) ((j+1)*2) f) (j*2) ds=t++ds++f++(t++f++g).drop ((j+1)*2+f.length):=by
    have e5:spl (t++f++g) ((j+1)*2) f=t++((f++g).take 2++(f++(t++f++g).drop ((j+1)*2+f.length))):=by
     simp only[spl]
     rw[show (j+1)*2=t.length+2 by omega,List.append_assoc t f g,List.take_length_add_append]
     simp only[List.append_assoc]
    rw[e5,← C]
    have e6:((f++g).take 2).length=2:=by rw[List.length_take,List.length_append]; omega
    simp only[spl,List.take_left,← List.drop_drop,List.drop_left,D]
    rw[List.drop_left' e6]
    simp only[List.append_assoc]
   rw[e4]
   refine nr<|mv z z<|sg z z<|nx<|j'<|g'<|aA' (S':=St w0 H H [(5000,some ⟨b,.cells (t++ds++f++(t++f++g).drop ((j+1)*2+f.length)).toArray 68 (0,0),0⟩)]) (fun w x=>?_) (k' z z ⟨_,_,_,z,by rw[P],I b c _ (by simp only[List.length_append,List.length_drop]; omega) aB (by omega)⟩)
   exact x.weaken (lc z ln)
theorem gp':CtrL Tryz.prog 36 #[] [] (fun _=>True) (fun _ L v=>∃ c,L=[(7000,c)]∧MapR ky3 RvF v Zn c):=by
 refine aT' (args:=[]) (N:=3) Tryz.func36 z z z fun g f e _=>sr<|WL.y0' z (Y0.assign z) z<|nx<|sr<|WL.makeMap (ky:=ky3) (Rv:=RvF) 4000 z z fun b c h=>dt' (z:=64) (k:=1) 4000 z bV' h z z z z (show (Lit.int IntKind.i64 1).wf=true by decide) z (by decide) fun c h=>dt' (z:=65) (k:=2) 4000 z bV' h z z z z (show (Lit.int IntKind.i64 2).wf=true by decide) z (by decide) fun c h=>dt' (z:=66) (k:=3) 4000 z bV' h z z z z (show (Lit.int IntKind.i64 3).wf=true by decide) z (by decide) fun c h=>dt' (z:=67) (k:=4) 4000 z bV' h z z z z (show (Lit.int IntKind.i64 4).wf=true by decide) z (by decide) fun c h=>dt' (z:=68) (k:=5) 4000 z bV' h z z z z (show (Lit.int IntKind.i64 5).wf=true by decide) z (by decide) fun c h=>dt' (z:=69) (k:=6) 4000 z bV' h z z z z (show (Lit.int IntKind.i64 6).wf=true by decide) z (by decide) fun c h=>dt' (z:=70) (k:=7) 4000 z bV' h z z z z (show (Lit.int IntKind.i64 7).wf=true by decide) z (by decide) fun c h=>dt' (z:=71) (k:=8) 4000 z bV' h z z z z (show (Lit.int IntKind.i64 8).wf=true by decide) z (by decide) fun c h=>mv z z<|sg z z<|nx<|j'<|aA' (S':=St g f f [(7000,c)]) (fun w d=>?_) (k' z z ⟨_,z,h⟩)
 have d:=d.rekey (i:=4000) (j:=7000) z (by rw[e]; rfl)
 exact d.weaken (lc z ln)
theorem eI'{a1 b1 r}(hr:(ZbA a1 b1).Ret r):Ctr Tryz.prog 172 #[.agg (vecG (Value.int .i64) 8 a1).toArray,.agg (vecG (Value.int .i64) 8 b1).toArray] (fun G=>True) (fun G v=>v=i' r):=by
 refine C' (args:=[_,_]) (N:=25) Tryz.func172 z z z fun u j F D=>sr<|W' 2 z z z fun l=>W' 3 z z z fun k=>sg z z<|nx<|h'<|sr<|yy (t' 2 bS' z z (O' _ _ _)) z<|yy (t' 3 bS' z z (O' _ _ _)) z<|yy (Y0.eqlV aG' az' sc3 sz3 eg99 z z) z<|nx<|I' hr z (fun x hr=>?_) (fun x hr=>?_)
 ·refine sr<|sg z z<|nx<|j' ?_
  replace hr:_=r:=hr
  refine g' ?_
  subst hr
  exact k' z z z
 ·refine o'<|e'<|sr<|sg z z<|nx<|h'<|aa' (fun (⟨g,e⟩:Int×Mem)=>[(2,.pointer (some ⟨l,0,none⟩)),(3,.pointer (some ⟨k,0,none⟩)),(5,i' g)]) (fun ⟨g,e⟩=>Mem.le j e∧(Zcx a1 b1 g).Ret r) (fun ⟨g,e⟩=>St u j e [(2,some ⟨l,.cells (vecG (Value.int .i64) 8 a1).toArray 99 (0,0),0⟩),(3,some ⟨k,.cells (vecG (Value.int .i64) 8 b1).toArray 99 (0,0),0⟩)]) ?_ ?_
  ·refine B' ?_
   let i:Int→Prop:=fun B=>((fun E=>match E with|g=>Zcx a1 b1 g:Int→Comp Int) B).wp (fun a=>a=r)
   replace hr:(Comp.loop _ _).wp i:=hr
   refine ab' (Φ:=i) (fun (⟨f,d⟩:Int×Mem)=>(f:Int)) (fun ⟨f,d⟩=>[(2,.pointer (some ⟨l,0,none⟩)),(3,.pointer (some ⟨k,0,none⟩)),(5,i' f)]) (fun ⟨f,d⟩=>Mem.le j d) (fun ⟨f,d⟩=>St u j d [(2,some ⟨l,.cells (vecG (Value.int .i64) 8 a1).toArray 99 (0,0),0⟩),(3,some ⟨k,.cells (vecG (Value.int .i64) 8 b1).toArray 99 (0,0),0⟩)]) ⟨0,j⟩ hr (fc z (fc z (fc z fn))) mr (wk (lc z (lc z ln))) ?_
   ·intro H A C hr
    obtain⟨f,d⟩:=A
    have h:=C
    refine h'<|h'<|Y' [false,false,false,false,false,false] mix (by kernel_rfl) fun q=>cn (fun _ c=>f' z) ?_
    obtain⟨o,hr⟩:=hr
    refine cn (fun _ c=>aW' aG' sz3 z z o)<|cn (fun _ c=>b' 2 sc3 z z (by' _ _ _ o))<|cn (fun _ c=>f' z) ?_
    obtain⟨m,hr⟩:=hr
    refine cn (fun _ c=>aW' aG' sz3 z z m)<|cn (fun _ c=>b' 3 sc3 z z (by' _ _ _ m))<|X' q<|yy (ak' z z) z<|u'<|am'<|e'<|I' hr z (fun s hr=>?_) (fun s hr=>?_)
    ·refine o'<|e'<|B'<|w'<|mv z z<|yy (N' z z) z<|sg z z<|u'<|D'<|P' ⟨IntKind.i64.wrap (f+1),d⟩ hr h (fc z (fc z (fc z fn))) (wk (lc z (lc z ln)))
    ·refine ad'<|n'<|n'<|J'<|ae' ⟨f,d⟩ ⟨h,hr⟩ (fc z (fc z (fc z fn))) (wk (lc z (lc z ln)))
  ·rintro⟨g,e⟩ ⟨y,hr⟩
   refine e'<|h'<|h'<|Y' [false,false,false,false,false,false] mix (by kernel_rfl) fun q=>cn (fun _ c=>f' z) ?_
   obtain⟨p,hr⟩:=hr
   refine cn (fun _ c=>aW' aG' sz3 z z p)<|cn (fun _ c=>b' 2 sc3 z z (by' _ _ _ p))<|cn (fun _ c=>f' z) ?_
   obtain⟨n,hr⟩:=hr
   refine cn (fun _ c=>aW' aG' sz3 z z n)<|cn (fun _ c=>b' 3 sc3 z z (by' _ _ _ n))<|X' q<|yy (V' z z) z<|u'<|am'<|e'<|I' hr z (fun t hr=>?_) (fun t hr=>?_)
   ·refine sr<|sg z z<|nx<|j' ?_
    replace hr:_=r:=hr
    refine g' ?_
    subst hr
    exact k' z z z
   ·refine o'<|e'<|sr<|sg z z<|nx<|j' ?_
    obtain rfl:_=r:=hr
    exact k' z z z
theorem eG'{a1 b1 a1cnummagp a1cnummagc a1cdenmagp a1cdenmagc b1cnummagp b1cnummagc b1cdenmagp b1cdenmagc r}(hr:(ZcA a1 b1).Ret r):Ctr Tryz.prog 196 #[.agg (([.bool a1.c.num.neg,.slice a1cnummagp a1.c.num.mag.length a1cnummagc,.bool a1.c.den.neg,.slice a1cdenmagp a1.c.den.mag.length a1cdenmagc]:List Value)++(vecG (Value.int .i64) 8 a1.m)).toArray,.agg (([.bool b1.c.num.neg,.slice b1cnummagp b1.c.num.mag.length b1cnummagc,.bool b1.c.den.neg,.slice b1cdenmagp b1.c.den.mag.length b1cdenmagc]:List Value)++(vecG (Value.int .i64) 8 b1.m)).toArray] (fun G=>sl (Rp.int .u32) G a1cnummagp a1cnummagc a1.c.num.mag∧sl (Rp.int .u32) G a1cdenmagp a1cdenmagc a1.c.den.mag∧sl (Rp.int .u32) G b1cnummagp b1cnummagc b1.c.num.mag∧sl (Rp.int .u32) G b1cdenmagp b1cdenmagc b1.c.den.mag) (fun G v=>v=i' r):=by
 refine C' (args:=[_,_]) (N:=10) Tryz.func196 z z z (fun m n j g=>?_)
 obtain⟨f,e,c,d⟩:=g
 refine sr<|W' 2 z z z fun k=>W' 3 z z z fun l=>sg z z<|nr<|yy (bm' z) z<|yy (av' (vecG (Value.int .i64) 8 b1.m).toArray 3 bS' z z (O' _ _ _) (aM' ([.bool b1.c.num.neg,.slice b1cnummagp b1.c.num.mag.length b1cnummagc,.bool b1.c.den.neg,.slice b1cdenmagp b1.c.den.mag.length b1cdenmagc]) (vecG (Value.int .i64) 8 b1.m) ([]))) z<|yy (bm' z) z<|yy (av' (vecG (Value.int .i64) 8 a1.m).toArray 2 bS' z z (O' _ _ _) (aM' ([.bool a1.c.num.neg,.slice a1cnummagp a1.c.num.mag.length a1cnummagc,.bool a1.c.den.neg,.slice a1cdenmagp a1.c.den.mag.length a1cdenmagc]) (vecG (Value.int .i64) 8 a1.m) ([]))) z ?_
 obtain⟨i,h,hr⟩:=hr
 refine F' z z (s' E172 z) (eI' h) z (trivial)<|sg z z<|nx<|j' ?_
 obtain rfl:_=r:=hr
 exact k' z z z
theorem hq':Go.Sort.SWO (Go.Proofs.ltOf (fun a b:Zc=>cmpM b.m a.m)):=⟨fun x=>swoR.irrefl x.m,fun x y z=>swoR.trans x.m y.m z.m,fun x y z=>swoR.ntrans x.m y.m z.m⟩
theorem cE'{l a b lim p c n tk r}(hr:(ZR l a b lim).Ret r):CtrL Tryz.prog 209 #[.slice p n c,i' a,i' b,i' lim,.func (.func 196) #[] #[]] [(5000,tk)] (fun G=>RowR r' 101 G (.slice p n c) l tk) (fun G L v=>∃ u,L=[(5000,u)]∧v = .tuple #[]∧RowR r' 101 G (.slice p n c) r u):=by
 obtain⟨⟨rfl,rfl,⟨Q,S⟩,R⟩,hr⟩:=hr
 obtain⟨k,rfl⟩:∃ k:Nat,lim=k:=⟨lim.toNat,by omega⟩
 refine (pdqR (r:=r') (sz:=12) z (by decide) hq' Tryz.sortL z (fun _=>by kernel_rfl) (fun _=>by kernel_rfl) (fun x y P O w G I J=>?_) E196 101 p n c l tk k (by omega) (by omega)).mono (fun _ h=>h) (fun G L v ⟨B,C,M,N,H,K,D⟩=>?_)
 ·obtain⟨F,E⟩:=J
  obtain⟨s,A,o,m,rfl,d,e⟩:=ZgZ F
  obtain⟨t,j,i,q,rfl,g,f⟩:=ZgZ E
  exact eG' (show (ZcA x y).Ret (cmpM y.m x.m) from ⟨_,Zd8 y.m x.m,z⟩) w G I ⟨d,e,g,f⟩
 ·have:B=r:=hr B ⟨K,D.imp (fun h=>by simpa [Go.Proofs.ltOf] using h)⟩
  subst this
  exact⟨C,M,N,H⟩
theorem dy'{l1 l1p l1c r}(hr:(ZbY l1).Ret r):Ctr Tryz.prog 161 #[.slice l1p l1.length l1c] (fun G=>sl (Rp.int .u32) G l1p l1c l1) (fun G v=>∃ o q,v = .slice o r.length q∧sl (Rp.int .u32) G o q r):=by
 refine C' (args:=[_]) (N:=21) Tryz.func161 z z z (fun p j D m=>?_)
 have h:=m
 refine sr<|sg z z<|nr<|mv z z<|yy (L' y' h z) z<|sg z z<|nx<|h'<|aa' (fun (⟨g,f⟩:Int×Mem)=>[(0,.slice l1p l1.length l1c),(3,i' g)]) (fun ⟨g,f⟩=>Mem.le j f∧(Zez l1 g).Ret r) (fun ⟨g,f⟩=>St p j f []) ?_ ?_
 ·refine B' ?_
  let i:Int→Prop:=fun y=>((fun B=>match B with|g=>Zez l1 g:Int→Comp (List Int)) y).wp (fun a=>a=r)
  replace hr:(Comp.loop _ _).wp i:=hr
  refine ab' (Φ:=i) (fun (⟨e,c⟩:Int×Mem)=>(e:Int)) (fun ⟨e,c⟩=>[(0,.slice l1p l1.length l1c),(3,i' e)]) (fun ⟨e,c⟩=>Mem.le j c) (fun ⟨e,c⟩=>St p j c []) ⟨(l1.length:Int),j⟩ hr (fc z (fc z fn)) mr (wk ln) ?_
  ·intro E x A hr
   obtain⟨e,c⟩:=x
   have d:=A
   refine h'<|sr<|mv z z<|aj' hr z (br' z z) z (fun u hr=>?_) (fun u hr=>?_)
   ·refine mv z z<|gy z z (f' z) z<|gy z z (f' z) z<|gy z z (bd' z z) z ?_
    obtain⟨H,l,hr⟩:=hr
    refine gy z z (Q' y' bh' (h.mono d) z z l) z<|gy z z (U' bC' z (aC' (E' (Z' h l) d))) z<|gy z z (ak' z z) z<|yy (m' z z) z<|nx<|I' hr z (fun s hr=>?_) (fun s hr=>?_)
    ·refine o'<|e'<|B'<|w'<|mv z z<|yy (bd' z z) z<|sg z z<|u'<|D'<|P' ⟨IntKind.i64.wrap (e-1),c⟩ hr d (fc z (fc z fn)) (wk ln)
    ·refine ad'<|n'<|n'<|J'<|ae' ⟨e,c⟩ ⟨d,hr⟩ (fc z (fc z fn)) (wk ln)
   ·refine mv z z<|sk z z z<|sk z z z<|sk z z z<|sk z z z<|sk z z z<|sk z z z<|yy (l' z z) z<|nx<|bg' z<|ad'<|n'<|n'<|J'<|ae' ⟨e,c⟩ ⟨d,hr⟩ (fc z (fc z fn)) (wk ln)
 ·rintro⟨g,f⟩ ⟨k,hr⟩
  refine e'<|sr<|mv z z<|mv z z ?_
  obtain⟨n,hr⟩:=hr
  refine WL.sliceRH (r:=(Rp.int .u32)) z z y' bh' z (h.mono k) z z n fun F C t=>sg z z<|nx<|j' ?_
  obtain rfl:_=r:=hr
  exact k' z z ⟨_,_,z,t⟩
theorem eg'{n1 r}(hr:(Zc8 n1).Ret r):Ctr Tryz.prog 128 #[.int .u64 n1] (fun G=>True) (fun G v=>∃ g h,v = .slice g r.length h∧sl (Rp.int .u32) G g h r):=by
 refine C' (args:=[_]) (N:=11) Tryz.func128 z z z fun x y i o=>sr<|sg z z<|nr<|mv z z<|yy (bL' z z (by decide)) z<|yy (aH' al' an' z) z<|mv z z<|yy (dF' z z (by decide)) z<|yy (aH' al' an' z) z<|aU' (e:=156) (r:=(Rp.int .u32)) (vs:=#[(0,.int .u32 (IntKind.u32.wrap (Int.tmod n1 4294967296))),(1,.int .u32 (IntKind.u32.wrap (IntKind.u64.wrap (Int.tdiv n1 4294967296))))]) (cs:=[.int .u32 (IntKind.u32.wrap (Int.tmod n1 4294967296))]++([.int .u32 (IntKind.u32.wrap (IntKind.u64.wrap (Int.tdiv n1 4294967296)))]++([]))) ([IntKind.u32.wrap (Int.tmod n1 4294967296),IntKind.u32.wrap (IntKind.u64.wrap (Int.tdiv n1 4294967296))]:List Int) z z z z z (by decide) (fun _=>by kernel_rfl) ⟨[.int .u32 (IntKind.u32.wrap (Int.tmod n1 4294967296))],[.int .u32 (IntKind.u32.wrap (IntKind.u64.wrap (Int.tdiv n1 4294967296)))]++([]),z,z,⟨[.int .u32 (IntKind.u32.wrap (IntKind.u64.wrap (Int.tdiv n1 4294967296)))],[],z,z,z⟩⟩ (key:=999) z (by rw[i]; rfl) (fun u s l j=>?_)
 obtain⟨q,f,hr⟩:=hr
 refine M' z z (s' E161 z) (dy' f) z (j) (fun m t k c=>?_)
 obtain⟨n,p,rfl,d⟩:=c
 refine sg z z<|nx<|j' ?_
 obtain rfl:_=r:=hr
 exact k' z z ⟨_,_,z,d⟩
theorem cz'{neg1 l1 l1p l1c r}(hr:(ZaP neg1 l1).Ret r):Ctr Tryz.prog 127 #[.bool neg1,.slice l1p l1.length l1c] (fun G=>sl (Rp.int .u32) G l1p l1c l1) (fun G v=>∃ h g,v = .agg ((v58' r h g)).toArray∧sl (Rp.int .u32) G h g r.mag):=by
 refine C' (args:=[_,_]) (N:=16) Tryz.func127 z z z (fun u x s k=>?_)
 have m:=k
 refine sr<|T' 4 z z58 z fun t=>nr<|mv z z ?_
 obtain⟨c,l,hr⟩:=hr
 refine M' z z (s' E161 z) (dy' l) z (m) (fun p q o j=>?_)
 obtain⟨d,e,rfl,f⟩:=j
 refine sg z z<|nr<|aj' hr z (cI' (f' z) (congrArg Value.bool (bdec _))) z (fun n hr=>?_) (fun n hr=>?_)
 ·refine mv z z<|gy z z (f' z) z<|gy z z (L' y' f z) z<|gy z z (br' z z) z<|yy (m' z z) z<|mv z z<|yy (aq' (vs:=#[(0,.bool (decide (0<(c.length:Int)))),(1,.slice d c.length e)]) (v:=.agg ([.bool (decide (0<(c.length:Int))),.slice d c.length e]).toArray) z z (fun _=>by kernel_rfl)) z<|v' 4 z sz58 z z z z z (List.all_eq_true.1 z)<|nx<|j' ?_
  obtain rfl:_=r:=hr
  exact k' z (ac' (i:=4) bk' z z z) ⟨_,_,z,f⟩
 ·refine mv z z<|sk z z z<|sk z z z<|sk z z z<|yy (l' z z) z<|mv z z<|yy (aq' (vs:=#[(0,.bool false),(1,.slice d c.length e)]) (v:=.agg ([.bool false,.slice d c.length e]).toArray) z z (fun _=>by kernel_rfl)) z<|v' 4 z sz58 z z z z z (List.all_eq_true.1 z)<|nx<|j' ?_
  obtain rfl:_=r:=hr
  exact k' z (ac' (i:=4) bk' z z z) ⟨_,_,z,f⟩
theorem fC'{n1 r}(hr:(ZhG n1).Ret r):Ctr Tryz.prog 82 #[i' n1] (fun G=>True) (fun G v=>∃ d c,v = .agg ((v58' r d c)).toArray∧sl (Rp.int .u32) G d c r.mag):=by
 refine C' (args:=[_]) (N:=16) Tryz.func82 z z z fun Z G0 V L=>sr<|T' 2 z z58 z fun Y=>nx<|h'<|sr<|mv z z<|yy (V' z z) z<|nx<|I' hr z (fun y hr=>?_) (fun y hr=>?_)
 ·refine sr<|mv z z<|yy (N' z z) z<|yy (Y0.neg z) z<|yy (aH' dL' al' z) z<|yy (N' z z) z ?_
  obtain⟨P,q,hr⟩:=hr
  refine M' z z (s' E128 z) (eg' q) z (trivial) (fun F R D g=>?_)
  obtain⟨K,O,rfl,o⟩:=g
  obtain⟨T,p,hr⟩:=hr
  refine M' z z (s' E127 z) (cz' p) z (o) (fun E S B f=>?_)
  obtain⟨t,s,rfl,k⟩:=f
  refine v' 2 z sz58 z z z z z (List.all_eq_true.1 z)<|nx<|j' ?_
  replace hr:_=r:=hr
  refine g' ?_
  subst hr
  exact k' z (ac' (i:=2) bk' z z z) ⟨_,_,z,k⟩
 ·refine o'<|e'<|sr<|mv z z<|yy (aH' dL' al' z) z ?_
  obtain⟨X,n,hr⟩:=hr
  refine M' z z (s' E128 z) (eg' n) z (trivial) (fun H W A h=>?_)
  obtain⟨I,J,rfl,l⟩:=h
  obtain⟨Q,m,hr⟩:=hr
  refine M' z z (s' E127 z) (cz' m) z (l) (fun M U C j=>?_)
  obtain⟨u,x,rfl,e⟩:=j
  refine v' 2 z sz58 z z z z z (List.all_eq_true.1 z)<|nx<|j' ?_
  obtain rfl:_=r:=hr
  exact k' z (ac' (i:=2) bk' z z z) ⟨_,_,z,e⟩
theorem cZ'{n1 r}(hr:(Za4 n1).Ret r):Ctr Tryz.prog 48 #[i' n1] (fun G=>True) (fun G v=>∃ f e d c,v = .agg ([.bool r.num.neg,.slice f r.num.mag.length e,.bool r.den.neg,.slice d r.den.mag.length c]).toArray∧sl (Rp.int .u32) G f e r.num.mag∧sl (Rp.int .u32) G d c r.den.mag):=by
 refine C' (args:=[_]) (N:=7) Tryz.func48 z z z fun H I E B=>sr<|T' 2 z z60 z fun F=>nr<|mv z z ?_
 obtain⟨p,u,hr⟩:=hr
 refine M' z z (s' E82 z) (fC' u) z (trivial) (fun A C x n=>?_)
 obtain⟨j,k,rfl,l⟩:=n
 obtain⟨q,t,hr⟩:=hr
 refine M' z z (s' E82 z) (fC' t) z (trivial) (fun y D s m=>?_)
 obtain⟨h,g,rfl,o⟩:=m
 refine yy (aq' (vs:=#[(0,.agg ((v58' p j k)).toArray),(1,.agg ((v58' q h g)).toArray)]) (v:=.agg ([.bool p.neg,.slice j p.mag.length k,.bool q.neg,.slice h q.mag.length g]).toArray) z z (fun _=>by kernel_rfl)) z<|v' 2 z sz60 z z z z z (List.all_eq_true.1 z)<|nx<|j' ?_
 obtain rfl:_=r:=hr
 exact k' z (ac' (i:=2) ci' z z z) ⟨_,_,_,_,z,(l.mono s),o⟩
theorem gK'{i1 r}(hr:(ZkA i1).Ret r):Ctr Tryz.prog 60 #[i' i1] (fun G=>True) (fun G v=>∃ p o,v = .tuple #[.slice p r.1.length o,i' r.2]∧sl r' G p o r.1):=by
 refine C' (args:=[_]) (N:=18) Tryz.func60 z z z fun R I t H=>sr<|sg z z<|sg z z<|nx<|h'<|sr<|mv z z<|aj' hr z (V' z z) z (fun B hr=>?_) (fun B hr=>?_)
 ·refine mv z z<|sf z z z<|sf z z z<|yy (m' z z) z<|nx<|at' z<|sr<|sg z z<|sg z z<|nx<|j' ?_
  replace hr:_=r:=hr
  refine g' ?_
  subst hr
  exact aE' z z z ⟨_,_,z,(ah' r' _)⟩
 ·refine mv z z<|gy z z (f' z) z<|gy z z (bc' z z) z<|yy (l' z z) z<|nx<|I' hr z (fun s hr=>?_) (fun s hr=>?_)
  ·exact (show False from hr).elim
  ·refine o'<|e'<|sr<|yy (aq' (vs:=#[]) (v:=.agg (vecG (Value.int .i64) 8 (fun _=>0)).toArray) z z (fun _=>by kernel_rfl)) z<|T' 4 z z99 z fun O=>v' 4 z sz99 z z z (O' _ _ _) (O' _ _ _) (fun u A=>Rp.one (cv' .i64 8) (G:=I) (x:=(fun _=>0)) (cs:=vecG (Value.int .i64) 8 (fun _=>0)) z u (by first|simpa using A|simpa [Value.cells] using A))<|nr<|mv z z ?_
   obtain⟨C,hr⟩:=hr
   refine yy (aW' aG' sz3 z z C) z<|au' 4 (vecG (Value.int .i64) 8 (setF (fun _=>0) i1.toNat 1)).toArray z sz3 z z z (by first|(rw[O']; omega)|(show _<(vecG _ _ _).toArray.size; rw[O']; omega)) z (bP' _ _ _ _ _)<|nx<|h'<|Y' [false,false] mix (by kernel_rfl) (fun P=>?_)
   obtain⟨j,q,hr⟩:=hr
   refine aD' (post:=fun G v=>∃ i f g c,v = .agg ([.bool j.num.neg,.slice i j.num.mag.length f,.bool j.den.neg,.slice g j.den.mag.length c]).toArray∧sl (Rp.int .u32) G i f j.num.mag∧sl (Rp.int .u32) G g c j.den.mag) (fun _=>z) (fun _ _=>s' E48 z) (cZ' q) z (fun Q m=>trivial) (fun v S L m h=>?_) ?_
   ·obtain⟨i,f,g,c,rfl,k,l⟩:=h
    exact⟨_,_,_,_,z,k.mono m,l.mono m⟩
   refine cu (fun _ _ m=>t' 4 bS' z z (O' _ _ _))<|cl' (d:=14) (post:=fun G v=>∃ i f g c,v = .agg ([.bool j.num.neg,.slice i j.num.mag.length f,.bool j.den.neg,.slice g j.den.mag.length c]).toArray∧sl (Rp.int .u32) G i f j.num.mag∧sl (Rp.int .u32) G g c j.den.mag) (fun F J E n=>?_)
   obtain⟨i,f,g,c,rfl,k,l⟩:=n
   refine yy (aq' (vs:=#[(0,.agg ([.bool j.num.neg,.slice i j.num.mag.length f,.bool j.den.neg,.slice g j.den.mag.length c]).toArray),(1,.agg (vecG (Value.int .i64) 8 (setF (fun _=>0) i1.toNat 1)).toArray)]) (v:=.agg (([.bool j.num.neg,.slice i j.num.mag.length f,.bool j.den.neg,.slice g j.den.mag.length c]:List Value)++(vecG (Value.int .i64) 8 (setF (fun _=>0) i1.toNat 1))).toArray) z z (fun _=>by kernel_rfl)) z<|aU' (e:=101) (r:=r') (vs:=#[(0,.agg (([.bool j.num.neg,.slice i j.num.mag.length f,.bool j.den.neg,.slice g j.den.mag.length c]:List Value)++(vecG (Value.int .i64) 8 (setF (fun _=>0) i1.toNat 1))).toArray)]) (cs:=(([.bool j.num.neg,.slice i j.num.mag.length f,.bool j.den.neg,.slice g j.den.mag.length c]:List Value)++(vecG (Value.int .i64) 8 (setF (fun _=>0) i1.toNat 1)))++([])) ([(Zc.mk j (setF (fun _=>0) i1.toNat 1))]:List Zc) z z z z z (by decide) (fun _=>by kernel_rfl) ⟨([.bool j.num.neg,.slice i j.num.mag.length f,.bool j.den.neg,.slice g j.den.mag.length c]:List Value)++(vecG (Value.int .i64) 8 (setF (fun _=>0) i1.toNat 1)),[],z,⟨[.bool j.num.neg,.slice i j.num.mag.length f,.bool j.den.neg,.slice g j.den.mag.length c],vecG (Value.int .i64) 8 (setF (fun _=>0) i1.toNat 1),z,⟨(v58' j.num i f),(v58' j.den g c),z,⟨[.bool j.num.neg],[.slice i j.num.mag.length f],z,z,⟨_,z,k⟩⟩,⟨[.bool j.den.neg],[.slice g j.den.mag.length c],z,z,⟨_,z,l⟩⟩⟩,z⟩,z⟩ (key:=999) z (by rw[t]; rfl) fun M K D y=>sg z z<|sg z z<|u'<|am'<|e'<|j' ?_
   obtain rfl:_=r:=hr
   exact aE' z z z ⟨_,_,z,y⟩
theorem gD'{i1 r}(hr:(Zjf i1).Ret r):Ctr Tryz.prog 32 #[i' i1] (fun G=>True) (fun G v=>∃ h i,v = .slice h r.length i∧sl r' G h i r):=by
 refine C' (args:=[_]) (N:=11) Tryz.func32 z z z fun p q o k=>sr<|sg z z<|nr<|mv z z ?_
 obtain⟨m,e,hr⟩:=hr
 refine M' z z (s' E60 z) (gK' e) z (trivial) (fun l n j c=>?_)
 obtain⟨g,f,rfl,d⟩:=c
 refine mv z z<|yy (K' z z) z<|yy (K' z z) z<|sg z z<|sg z z<|nr<|mv z z<|sg z z<|nx<|j' ?_
 obtain rfl:_=r:=hr
 exact k' z z ⟨_,_,z,d⟩
theorem eN'{a1 a1magp a1magc r}(hr:(Ze7 a1).Ret r):Ctr Tryz.prog 138 #[.agg ((v58' a1 a1magp a1magc)).toArray] (fun G=>sl (Rp.int .u32) G a1magp a1magc a1.mag) (fun G v=>v=i' r):=by
 refine C' (args:=[_]) (N:=9) Tryz.func138 z z z (fun h i f d=>?_)
 have c:=d
 refine sr<|W' 1 z z z fun g=>sg z z<|nx<|h'<|sr<|yy (bl' z) z<|yy (b' 1 sc4 z z z) z<|nx<|aN' hr z (fun e hr=>?_) (fun e hr=>?_)
 ·refine sr<|sg z z<|nx<|j' ?_
  replace hr:_=r:=hr
  refine g' ?_
  subst hr
  exact k' z z z
 ·refine o'<|e'<|sr<|yy (aO' z) z<|yy (b' 1 bG' z z z) z<|yy (L' y' c z) z<|yy (Y0.min2 z z) z<|sg z z<|nx<|j' ?_
  obtain rfl:_=r:=hr
  exact k' z z z
theorem ex'{a1 a1nummagp a1nummagc a1denmagp a1denmagc r}(hr:(Zbs a1).Ret r):Ctr Tryz.prog 91 #[.agg ([.bool a1.num.neg,.slice a1nummagp a1.num.mag.length a1nummagc,.bool a1.den.neg,.slice a1denmagp a1.den.mag.length a1denmagc]).toArray] (fun G=>sl (Rp.int .u32) G a1nummagp a1nummagc a1.num.mag∧sl (Rp.int .u32) G a1denmagp a1denmagc a1.den.mag) (fun G v=>v=i' r):=by
 refine C' (args:=[_]) (N:=6) Tryz.func91 z z z (fun j k h e=>?_)
 obtain⟨c,d⟩:=e
 refine sr<|W' 1 z z z fun i=>sg z z<|nr<|yy (cn' z) z<|yy (av' ((v58' a1.num a1nummagp a1nummagc)).toArray 1 bk' z z z (aM' ([]) ((v58' a1.num a1nummagp a1nummagc)) ((v58' a1.den a1denmagp a1denmagc)))) z ?_
 obtain⟨g,f,hr⟩:=hr
 refine F' z z (s' E138 z) (eN' f) z (c)<|sg z z<|nx<|j' ?_
 obtain rfl:_=r:=hr
 exact k' z z z
theorem fs'{m1 r}(hr:(Zeg m1).Ret r):Ctr Tryz.prog 159 #[.agg (vecG (Value.int .i64) 8 m1).toArray] (fun G=>True) (fun G v=>v = .bool r):=by
 refine C' (args:=[_]) (N:=18) Tryz.func159 z z z fun n i y u=>sr<|W' 1 z z z fun m=>sg z z<|nx<|h'<|sr<|sg z z<|nx<|aa' (fun (f:Mem)=>match f with|d=>[]) (fun (f:Mem)=>match f with|d=>Mem.le i d∧(ZdP).Ret r) (fun (f:Mem)=>match f with|d=>St n i d []) ?_ ?_
 ·refine B' ?_
  let h:(Bool⊕Unit)→Prop:=fun s=>((fun x=>match x with | .inl rv1=>Comp.ret rv1 | .inr ()=>ZdP:(Bool⊕Unit)→Comp Bool) s).wp (fun a=>a=r)
  replace hr:(Comp.loop _ _).wp h:=hr
  refine ab' (Φ:=h) (fun (⟨e,c⟩:Int×Mem)=>(e:Int)) (fun ⟨e,c⟩=>[(1,.pointer (some ⟨m,0,none⟩)),(3,i' e)]) (fun ⟨e,c⟩=>Mem.le i c) (fun ⟨e,c⟩=>St n i c [(1,some ⟨m,.cells (vecG (Value.int .i64) 8 m1).toArray 99 (0,0),0⟩)]) ⟨0,i⟩ hr (fc z (fc z fn)) mr (wk (lc z ln)) ?_
  ·intro A f t hr
   obtain⟨e,c⟩:=f
   have g:=t
   refine h'<|sr<|mv z z<|yy (V' z z) z<|nx<|I' hr z (fun o hr=>?_) (fun o hr=>?_)
   ·refine o'<|e'<|h'<|B'<|sr<|mv z z ?_
    obtain⟨k,hr⟩:=hr
    refine yy (aW' aG' sz3 z z k) z<|yy (b' 1 sc3 z z (by' _ _ _ k)) z<|aj' hr z (V' z z) z (fun p hr=>?_) (fun p hr=>?_)
    ·refine mv z z<|sf z z z<|sf z z z<|sf z z z<|sf z z z<|yy (m' z z) z<|nx<|at' z<|sr<|sg z z<|nx<|j' ?_
     replace hr:_=r:=hr
     refine x'<|g'<|g'<|x'<|aI'<|g' ?_
     subst hr
     exact k' z z z
    ·refine mv z z<|gy z z (f' z) z ?_
     obtain⟨j,hr⟩:=hr
     refine gy z z (aW' aG' sz3 z z j) z<|gy z z (b' 1 sc3 z z (by' _ _ _ j)) z<|gy z z (br' z z) z<|yy (l' z z) z<|nx<|I' hr z (fun l hr=>?_) (fun l hr=>?_)
     ·exact (show False from hr).elim
     ·refine o'<|D'<|e'<|w'<|mv z z<|yy (N' z z) z<|sg z z<|u'<|P' ⟨IntKind.i64.wrap (e+1),c⟩ hr g (fc z (fc z fn)) (wk (lc z ln))
   ·refine ad'<|n'<|n'<|J'<|ae' c ⟨g,hr⟩ fn (wk ln)
 ·rintro d ⟨q,hr⟩
  refine e'<|sr<|sg z z<|nx<|j' ?_
  obtain rfl:_=r:=hr
  exact k' z z z
theorem gL'{a1 b1 r}(hr:(Zim a1 b1).Ret r):Ctr Tryz.prog 139 #[.agg (vecG (Value.int .i64) 8 a1).toArray,.agg (vecG (Value.int .i64) 8 b1).toArray] (fun G=>True) (fun G v=>v = .tuple #[.agg (vecG (Value.int .i64) 8 r.1).toArray,i' r.2]):=by
 refine C' (args:=[_,_]) (N:=24) Tryz.func139 z z z fun t l M J=>sr<|W' 2 z z z fun n=>W' 3 z z z fun y=>T' 4 z z99 z fun m=>sg z z<|nx<|h'<|sr<|sg z z<|nx<|aa' (fun (⟨d,g⟩:(Fin 8→Int)×Mem)=>[(2,.pointer (some ⟨n,0,none⟩)),(4,.pointer (some ⟨m,0,none⟩))]) (fun ⟨d,g⟩=>Mem.le l g∧(Zfd d).Ret r) (fun ⟨d,g⟩=>St t l g [(2,some ⟨n,.cells (vecG (Value.int .i64) 8 d).toArray 99 (0,0),0⟩),(4,some ⟨m,.cells (vecG (Value.int .i64) 8 (fun _=>0)).toArray 99 (0,0),0⟩)]) ?_ ?_
 ·refine B' ?_
  let k:(Fin 8→Int)→Prop:=fun H=>((fun K=>match K with|d=>Zfd d:(Fin 8→Int)→Comp ((Fin 8→Int)×Int)) H).wp (fun a=>a=r)
  replace hr:(Comp.loop _ _).wp k:=hr
  refine ab' (Φ:=k) (fun (⟨e,c,f⟩:Int×(Fin 8→Int)×Mem)=>((e,c):Int×(Fin 8→Int))) (fun ⟨e,c,f⟩=>[(2,.pointer (some ⟨n,0,none⟩)),(3,.pointer (some ⟨y,0,none⟩)),(4,.pointer (some ⟨m,0,none⟩)),(6,i' e)]) (fun ⟨e,c,f⟩=>Mem.le l f) (fun ⟨e,c,f⟩=>St t l f [(2,some ⟨n,.cells (vecG (Value.int .i64) 8 c).toArray 99 (0,0),0⟩),(3,some ⟨y,.cells (vecG (Value.int .i64) 8 b1).toArray 99 (0,0),0⟩),(4,some ⟨m,.cells (vecG (Value.int .i64) 8 (fun _=>0)).toArray 99 (0,0),0⟩)]) ⟨0,a1,l⟩ hr (fc z (fc z (fc z (fc z fn)))) mr (wk (lc z (lc z (lc z ln)))) ?_
  ·intro O F I hr
   obtain⟨e,c,f⟩:=F
   have j:=I
   refine h'<|sr<|mv z z<|yy (V' z z) z<|nx<|I' hr z (fun s hr=>?_) (fun s hr=>?_)
   ·refine o'<|e'<|h'<|B'<|Y' [false,false,false,false,false,false] mix (by kernel_rfl) fun E=>cn (fun _ h=>f' z) ?_
    obtain⟨p,hr⟩:=hr
    refine cn (fun _ h=>aW' aG' sz3 z z p)<|cn (fun _ h=>b' 2 sc3 z z (by' _ _ _ p))<|cn (fun _ h=>f' z) ?_
    obtain⟨o,hr⟩:=hr
    refine cn (fun _ h=>aW' aG' sz3 z z o)<|cn (fun _ h=>b' 3 sc3 z z (by' _ _ _ o))<|X' E<|yy (N' z z) z ?_
    obtain⟨C,hr⟩:=hr
    refine yy (aW' aG' sz3 z z C) z<|au' 2 (vecG (Value.int .i64) 8 (setF c e.toNat (IntKind.i64.wrap ((getF c e)+(getF b1 e))))).toArray z sz3 z z z (by first|(rw[O']; omega)|(show _<(vecG _ _ _).toArray.size; rw[O']; omega)) z (bP' _ _ _ _ _)<|u'<|am'<|D'<|e'<|w'<|mv z z<|yy (N' z z) z<|sg z z<|u'<|P' ⟨IntKind.i64.wrap (e+1),setF c e.toNat (IntKind.i64.wrap ((getF c e)+(getF b1 e))),f⟩ hr j (fc z (fc z (fc z (fc z fn)))) (wk (lc z (lc z (lc z ln))))
   ·refine ad'<|n'<|n'<|J'<|ae' ⟨c,f⟩ ⟨j,hr⟩ (fc z (fc z fn)) (wk (lc z (lc z ln)))
 ·rintro⟨d,g⟩ ⟨D,hr⟩
  refine e'<|h'<|sr<|yy (t' 2 bS' z z (O' _ _ _)) z ?_
  obtain⟨L,q,hr⟩:=hr
  refine F' z z (s' E159 z) (fs' q) z (trivial)<|yy (ao' z) z<|nx<|aN' hr z (fun A hr=>?_) (fun A hr=>?_)
  ·exact (show False from hr).elim
  ·refine o'<|e'<|sr<|yy (t' 2 bS' z z (O' _ _ _)) z<|v' 4 z sz99 z z z (O' _ _ _) (O' _ _ _) (fun u B=>Rp.one (cv' .i64 8) (G:=g) (x:=d) (cs:=vecG (Value.int .i64) 8 d) z u (by first|simpa using B|simpa [Value.cells] using B))<|sg z z<|nx<|j' ?_
   obtain rfl:_=r:=hr
   exact aE' z (ac' (i:=4) bS' z z (O' _ _ _)) z z
theorem gv'{a0_1 a1_1 a0_1p a0_1c a1_1p a1_1c r}(hr:(ZiE a0_1 a1_1).Ret r):Ctr Tryz.prog 165 #[.slice a0_1p a0_1.length a0_1c,.slice a1_1p a1_1.length a1_1c] (fun G=>sl (Rp.int .u32) G a0_1p a0_1c a0_1∧sl (Rp.int .u32) G a1_1p a1_1c a1_1) (fun G v=>∃ zp zc,v = .slice zp r.length zc∧sl (Rp.int .u32) G zp zc r):=by
 refine C' (args:=[_,_]) (N:=69) Tryz.func165 z z z (fun S I al af=>?_)
 obtain⟨C,A⟩:=af
 refine sr<|sg z z<|nr<|mv z z<|yy (L' y' C z) z<|mv z z<|yy (L' y' A z) z<|yy (N' z z) z ?_
 obtain⟨am,hr⟩:=hr
 refine dM' (r:=(Rp.int .u32)) (e:=156) (n:=IntKind.i64.wrap ((a0_1.length:Int)+(a1_1.length:Int))) (zx:=0) 4015 z z y' el156 z (by decide) (by decide) z z z am fun H ad au=>sg z z<|nx<|h'<|sr<|sg z z<|nx<|aa' (fun (⟨y,s,E⟩:(List Int)×Option Ow×Mem)=>[(5,.slice H (IntKind.i64.wrap ((a0_1.length:Int)+(a1_1.length:Int))).toNat ((IntKind.i64.wrap ((a0_1.length:Int)+(a1_1.length:Int))).toNat))]) (fun ⟨y,s,E⟩=>Mem.le I E∧RowR (Rp.int .u32) 156 E (.slice H (IntKind.i64.wrap ((a0_1.length:Int)+(a1_1.length:Int))).toNat ((IntKind.i64.wrap ((a0_1.length:Int)+(a1_1.length:Int))).toNat)) y s∧(ZdN y).Ret r) (fun ⟨y,s,E⟩=>St S I E [(4015,s)]) ?_ ?_
 ·refine B' ?_
  let F:(List Int)→Prop:=fun oo=>((fun ov=>match ov with|y=>ZdN y:(List Int)→Comp (List Int)) oo).wp (fun a=>a=r)
  replace hr:(Comp.loop _ _).wp F:=hr
  refine ab' (Φ:=F) (fun (⟨o,f,d,u⟩:(List Int)×Option Ow×Int×Mem)=>((o,d):(List Int)×Int)) (fun ⟨o,f,d,u⟩=>[(0,.slice a0_1p a0_1.length a0_1c),(1,.slice a1_1p a1_1.length a1_1c),(5,.slice H (IntKind.i64.wrap ((a0_1.length:Int)+(a1_1.length:Int))).toNat ((IntKind.i64.wrap ((a0_1.length:Int)+(a1_1.length:Int))).toNat)),(6,i' d)]) (fun ⟨o,f,d,u⟩=>Mem.le I u∧RowR (Rp.int .u32) 156 u (.slice H (IntKind.i64.wrap ((a0_1.length:Int)+(a1_1.length:Int))).toNat ((IntKind.i64.wrap ((a0_1.length:Int)+(a1_1.length:Int))).toNat)) o f) (fun ⟨o,f,d,u⟩=>St S I u [(4015,f)]) ⟨(List.replicate (IntKind.i64.wrap ((a0_1.length:Int)+(a1_1.length:Int))).toNat 0),ad,0,I⟩ hr (fc z (fc z (fc z (fc z fn)))) ⟨mr,au⟩ (wk (lc z ln)) ?_
  ·intro Z gx hx hr
   obtain⟨o,f,d,u⟩:=gx
   obtain⟨g,L⟩:=hx
   refine h'<|sr<|mv z z<|mv z z<|yy (L' y' (C.mono g) z) z<|yy (V' z z) z<|nx<|I' hr z (fun ar hr=>?_) (fun ar hr=>?_)
   ·refine o'<|e'<|h'<|B'<|sr<|sg z z<|nx<|h'<|sr<|sg z z<|nx<|aa' (fun (⟨t,p,k,D⟩:(List Int)×Option Ow×Int×Mem)=>[(0,.slice a0_1p a0_1.length a0_1c),(1,.slice a1_1p a1_1.length a1_1c),(5,.slice H (IntKind.i64.wrap ((a0_1.length:Int)+(a1_1.length:Int))).toNat ((IntKind.i64.wrap ((a0_1.length:Int)+(a1_1.length:Int))).toNat)),(6,i' d),(7,.int .u64 k)]) (fun ⟨t,p,k,D⟩=>Mem.le u D∧RowR (Rp.int .u32) 156 D (.slice H (IntKind.i64.wrap ((a0_1.length:Int)+(a1_1.length:Int))).toNat ((IntKind.i64.wrap ((a0_1.length:Int)+(a1_1.length:Int))).toNat)) t p∧(ZdO a1_1 d t k).wp (Out Z F)) (fun ⟨t,p,k,D⟩=>St S I D [(4015,p)]) ?_ ?_
    ·refine B' ?_
     let P:(((List Int)×Int))→Prop:=fun oo=>((fun ov=>match ov with|(t,k)=>ZdO a1_1 d t k:(((List Int)×Int))→Comp (((List Int)×Int)⊕(List Int))) oo).wp (Out Z F)
     replace hr:(Comp.loop _ _).wp P:=hr
     refine ab' (Φ:=P) (fun (⟨q,j,h,l,B⟩:(List Int)×Option Ow×Int×Int×Mem)=>((q,h,l):(List Int)×Int×Int)) (fun ⟨q,j,h,l,B⟩=>[(0,.slice a0_1p a0_1.length a0_1c),(1,.slice a1_1p a1_1.length a1_1c),(5,.slice H (IntKind.i64.wrap ((a0_1.length:Int)+(a1_1.length:Int))).toNat ((IntKind.i64.wrap ((a0_1.length:Int)+(a1_1.length:Int))).toNat)),(6,i' d),(7,.int .u64 h),(8,i' l)]) (fun ⟨q,j,h,l,B⟩=>Mem.le u B∧RowR (Rp.int .u32) 156 B (.slice H (IntKind.i64.wrap ((a0_1.length:Int)+(a1_1.length:Int))).toNat ((IntKind.i64.wrap ((a0_1.length:Int)+(a1_1.length:Int))).toNat)) q j) (fun ⟨q,j,h,l,B⟩=>St S I B [(4015,j)]) ⟨o,f,0,0,u⟩ hr (fc z (fc z (fc z (fc z (fc z (fc z fn)))))) ⟨mr,L⟩ (wk (lc z ln)) ?_
     ·intro aH gx hx hr
      obtain⟨q,j,h,l,B⟩:=gx
      obtain⟨m,x⟩:=hx
      refine h'<|sr<|mv z z<|mv z z<|yy (L' y' (A.mono (mt g m)) z) z<|yy (V' z z) z<|nx<|I' hr z (fun an hr=>?_) (fun an hr=>?_)
      ·refine o'<|e'<|h'<|B'<|h'<|Y' [false,false,false,false,false,false,false,false,false,false,false,false,false,false,false,false,false,false,false,false] mix (by kernel_rfl) fun hb=>cn (fun _ c=>f' z)<|cn (fun _ c=>f' z) ?_
       obtain⟨Q,W,hr⟩:=hr
       refine cn (fun _ c=>Q' y' bh' ((C.mono (mt g m)).mono c) z z W)<|cn (fun _ c=>U' bC' z (aC' (E' (E' (Z' C W) (mt g m)) c)))<|cn (fun _ c=>aH' an' al' z)<|cn (fun _ c=>f' z)<|cn (fun _ c=>f' z) ?_
       obtain⟨T,Y,hr⟩:=hr
       refine cn (fun _ c=>Q' y' bh' ((A.mono (mt g m)).mono c) z z Y)<|cn (fun _ c=>U' bC' z (aC' (E' (E' (Z' A Y) (mt g m)) c)))<|cn (fun _ c=>aH' an' al' z)<|cn (fun _ c=>dG' z z)<|cn (fun _ c=>f' z)<|cn (fun _ c=>f' z)<|cn (fun _ c=>f' z)<|cn (fun _ c=>N' z z) ?_
       obtain⟨U,V,hr⟩:=hr
       refine cn (fun _ c=>aX' y' bh' (x.mono c) z z V)<|cn (fun _ c=>dN' bC' (x.mono c) (key:=4015) z z (aC' (cF' x V)))<|cn (fun _ c=>aH' an' al' z)<|cn (fun _ c=>N' z z)<|cn (fun _ c=>f' z)<|X' hb<|yy (N' z z) z<|sg z z<|u'<|am'<|e'<|sr<|mv z z<|mv z z<|mv z z<|yy (N' z z) z<|mv z z<|yy (bL' z z (by decide)) z<|yy (aH' al' an' z) z ?_
       obtain⟨x5,X,hr⟩:=hr
       refine yy (aX' y' bh' x z z X) z<|bx' (r:=(Rp.int .u32)) (e:=156) (cs':=[.int .u32 (IntKind.u32.wrap (Int.tmod (IntKind.u64.wrap ((IntKind.u64.wrap ((IntKind.u64.wrap ((IntKind.u64.wrap Q)*(IntKind.u64.wrap T)))+(IntKind.u64.wrap U)))+h)) 4294967296))]) (i:=IntKind.i64.wrap (d+l)) (z':=IntKind.u32.wrap (Int.tmod (IntKind.u64.wrap ((IntKind.u64.wrap ((IntKind.u64.wrap ((IntKind.u64.wrap Q)*(IntKind.u64.wrap T)))+(IntKind.u64.wrap U)))+h)) 4294967296)) 4015 z bh' z x z z z z z X fun aq ag=>nx<|w'<|mv z z<|yy (dF' z z (by decide)) z<|sg z z<|u'<|D'<|e'<|w'<|mv z z<|yy (N' z z) z<|sg z z<|u'<|P' ⟨(q.set (IntKind.i64.wrap (d+l)).toNat (IntKind.u32.wrap (Int.tmod (IntKind.u64.wrap ((IntKind.u64.wrap ((IntKind.u64.wrap ((IntKind.u64.wrap Q)*(IntKind.u64.wrap T)))+(IntKind.u64.wrap U)))+h)) 4294967296))),aq,IntKind.u64.wrap (Int.tdiv (IntKind.u64.wrap ((IntKind.u64.wrap ((IntKind.u64.wrap ((IntKind.u64.wrap Q)*(IntKind.u64.wrap T)))+(IntKind.u64.wrap U)))+h)) 4294967296),IntKind.i64.wrap (l+1),B⟩ hr ⟨m,ag⟩ (fc z (fc z (fc z (fc z (fc z (fc z fn)))))) (wk (lc z ln))
      ·refine ad'<|n'<|n'<|J'<|ae' ⟨q,j,h,B⟩ ⟨m,x,hr⟩ (fc z (fc z (fc z (fc z (fc z fn))))) (wk (lc z ln))
    ·rintro⟨t,p,k,D⟩ ⟨J,K,hr⟩
     refine e'<|w'<|mv z z<|mv z z<|mv z z<|yy (L' y' (A.mono (mt g J)) z) z<|yy (N' z z) z<|mv z z<|yy (aH' al' an' z) z ?_
     obtain⟨x1,aa,hr⟩:=hr
     refine yy (aX' y' bh' K z z aa) z<|bx' (r:=(Rp.int .u32)) (e:=156) (cs':=[.int .u32 (IntKind.u32.wrap k)]) (i:=IntKind.i64.wrap (d+(a1_1.length:Int))) (z':=IntKind.u32.wrap k) 4015 z bh' z K z z z z z aa fun av ab=>u'<|D'<|e'<|w'<|mv z z<|yy (N' z z) z<|sg z z<|u'<|P' ⟨(t.set (IntKind.i64.wrap (d+(a1_1.length:Int))).toNat (IntKind.u32.wrap k)),av,IntKind.i64.wrap (d+1),D⟩ hr ⟨(mt g J),ab⟩ (fc z (fc z (fc z (fc z fn)))) (wk (lc z ln))
   ·refine ad'<|n'<|n'<|J'<|ae' ⟨o,f,u⟩ ⟨g,L,hr⟩ (fc z fn) (wk (lc z ln))
 ·rintro⟨y,s,E⟩ ⟨aw,R,hr⟩
  refine e'<|sr<|mv z z<|bu' (r:=(Rp.int .u32)) (e:=156) 4015 R z (by rw[al]; rfl) (fun aG aI ax O az=>?_)
  obtain⟨aF,ak,hr⟩:=hr
  refine M' z z (s' E161 z) (dy' ak) (by rw[cV' O]) ((cN' O)) (fun aC aE ay M=>?_)
  obtain⟨aA,aD,rfl,aj⟩:=M
  refine sg z z<|nx<|j' ?_
  obtain rfl:_=r:=hr
  exact k' z z ⟨_,_,z,aj⟩
theorem ek'{a1 b1 a1magp a1magc b1magp b1magc r}(hr:(ZdF a1 b1).Ret r):Ctr Tryz.prog 130 #[.agg ((v58' a1 a1magp a1magc)).toArray,.agg ((v58' b1 b1magp b1magc)).toArray] (fun G=>sl (Rp.int .u32) G a1magp a1magc a1.mag∧sl (Rp.int .u32) G b1magp b1magc b1.mag) (fun G v=>∃ l k,v = .agg ((v58' r l k)).toArray∧sl (Rp.int .u32) G l k r.mag):=by
 refine C' (args:=[_,_]) (N:=16) Tryz.func130 z z z (fun O R I s=>?_)
 obtain⟨q,p⟩:=s
 refine sr<|W' 2 z z z fun S=>W' 3 z z z fun M=>T' 4 z z58 z fun Q=>nx<|h'<|Y' [false,false,false,false,false,false,false,false,false,false] mix (by kernel_rfl) fun K=>cn (fun _ c=>bl' z)<|cn (fun _ c=>b' 2 sc4 z z z)<|cn (fun _ c=>bl' z)<|cn (fun _ c=>b' 3 sc4 z z z)<|cn (fun _ c=>eb' bH' z z)<|cn (fun _ c=>aO' z)<|cn (fun _ c=>b' 2 bG' z z z)<|cn (fun _ c=>aO' z)<|cn (fun _ c=>b' 3 bG' z z z) ?_
 obtain⟨j,u,hr⟩:=hr
 refine aD' (post:=fun G v=>∃ e f,v = .slice e j.length f∧sl (Rp.int .u32) G e f j) (fun _=>z) (fun _ _=>s' E165 z) (gv' u) z (fun L c=>⟨(q.mono c),(p.mono c)⟩) (fun v P J c h=>?_) ?_
 ·obtain⟨e,f,rfl,g⟩:=h
  exact⟨_,_,z,g.mono c⟩
 refine cl' (d:=14) (post:=fun G v=>∃ e f,v = .slice e j.length f∧sl (Rp.int .u32) G e f j) (fun D E B n=>?_)
 obtain⟨e,f,rfl,g⟩:=n
 obtain⟨H,t,hr⟩:=hr
 refine M' z z (s' E127 z) (cz' t) z (g) (fun C F A m=>?_)
 obtain⟨y,x,rfl,o⟩:=m
 refine v' 4 z sz58 z z z z z (List.all_eq_true.1 z)<|u'<|am'<|e'<|j' ?_
 obtain rfl:_=r:=hr
 exact k' z (ac' (i:=4) bk' z z z) ⟨_,_,z,o⟩
theorem dj'{l1 i1 l1p l1c r}(hr:(ZcH l1 i1).Ret r):Ctr Tryz.prog 187 #[.slice l1p l1.length l1c,i' i1] (fun G=>sl (Rp.int .u32) G l1p l1c l1) (fun G v=>v = .int .u64 r):=by
 refine C' (args:=[_,_]) (N:=14) Tryz.func187 z z z (fun i j g e=>?_)
 have c:=e
 refine sr<|sg z z<|nx<|h'<|sr<|mv z z<|mv z z<|yy (L' y' c z) z<|yy (V' z z) z<|nx<|I' hr z (fun f hr=>?_) (fun f hr=>?_)
 ·refine sr<|mv z z<|mv z z ?_
  obtain⟨h,d,hr⟩:=hr
  refine yy (Q' y' bh' c z z d) z<|yy (U' bC' z (aC' (Z' c d))) z<|yy (aH' an' al' z) z<|sg z z<|nx<|j' ?_
  replace hr:_=r:=hr
  refine g' ?_
  subst hr
  exact k' z z z
 ·refine o'<|e'<|sr<|sg z z<|nx<|j' ?_
  obtain rfl:_=r:=hr
  exact k' z z z
theorem eZ'{l1 l1p l1c r}(hr:(Ze8 l1).Ret r):Ctr Tryz.prog 200 #[.slice l1p l1.length l1c] (fun G=>sl (Rp.int .u32) G l1p l1c l1) (fun G v=>v = .int .u64 r):=by
 refine C' (args:=[_]) (N:=9) Tryz.func200 z z z (fun j k h d=>?_)
 have c:=d
 refine sr<|sg z z<|nr<|mv z z ?_
 obtain⟨g,f,hr⟩:=hr
 refine F' z z (s' E187 z) (dj' f) z (c)<|yy (dG' z z) z<|mv z z ?_
 obtain⟨i,e,hr⟩:=hr
 refine F' z z (s' E187 z) (dj' e) z (c)<|yy (N' z z) z<|sg z z<|nx<|j' ?_
 obtain rfl:_=r:=hr
 exact k' z z z
theorem gq'{a1 b1 r}(hr:(ZhJ a1 b1).Ret r):Ctr Tryz.prog 199 #[.int .u64 a1,.int .u64 b1] (fun G=>True) (fun G v=>v = .int .u64 r):=by
 refine C' (args:=[_,_]) (N:=14) Tryz.func199 z z z fun l j u s=>sr<|sg z z<|nx<|h'<|aa' (fun (⟨g,d⟩:Int×Mem)=>[(0,.int .u64 g)]) (fun ⟨g,d⟩=>Mem.le j d∧(Zdl g).Ret r) (fun ⟨g,d⟩=>St l j d []) ?_ ?_
 ·refine B' ?_
  let i:Int→Prop:=fun p=>((fun t=>match t with|g=>Zdl g:Int→Comp Int) p).wp (fun a=>a=r)
  replace hr:(Comp.loop _ _).wp i:=hr
  refine ab' (Φ:=i) (fun (⟨e,f,c⟩:Int×Int×Mem)=>((e,f):Int×Int)) (fun ⟨e,f,c⟩=>[(0,.int .u64 e),(1,.int .u64 f)]) (fun ⟨e,f,c⟩=>Mem.le j c) (fun ⟨e,f,c⟩=>St l j c []) ⟨a1,b1,j⟩ hr (fc z (fc z fn)) mr (wk ln) ?_
  ·intro x o q hr
   obtain⟨e,f,c⟩:=o
   have h:=q
   refine h'<|sr<|mv z z<|yy (br' z z) z<|nx<|I' hr z (fun m hr=>?_) (fun m hr=>?_)
   ·refine o'<|e'<|B'<|sr<|mv z z<|mv z z ?_
    obtain⟨k,hr⟩:=hr
    refine yy (bL' z z k) z<|sg z z<|nr<|mv z z<|sg z z<|nx<|w'<|mv z z<|sg z z<|u'<|D'<|P' ⟨f,Int.tmod e f,c⟩ hr h (fc z (fc z fn)) (wk ln)
   ·refine ad'<|n'<|n'<|J'<|ae' ⟨e,c⟩ ⟨h,hr⟩ (fc z fn) (wk ln)
 ·rintro⟨g,d⟩ ⟨n,hr⟩
  refine e'<|sr<|mv z z<|sg z z<|nx<|j' ?_
  obtain rfl:_=r:=hr
  exact k' z z z
theorem cO'{a1 b1 a1p a1c b1p b1c r}(hr:(Zay a1 b1).Ret r):Ctr Tryz.prog 167 #[.slice a1p a1.length a1c,.slice b1p b1.length b1c] (fun G=>sl (Rp.int .u32) G a1p a1c a1∧sl (Rp.int .u32) G b1p b1c b1) (fun G v=>v=i' r):=by
 refine C' (args:=[_,_]) (N:=41) Tryz.func167 z z z (fun x l H s=>?_)
 obtain⟨f,g⟩:=s
 refine sr<|sg z z<|nx<|h'<|sr<|mv z z<|yy (L' y' f z) z<|mv z z<|yy (L' y' g z) z<|yy (V' z z) z<|nx<|I' hr z (fun A hr=>?_) (fun A hr=>?_)
 ·refine sr<|sg z z<|nx<|j' ?_
  replace hr:_=r:=hr
  refine g' ?_
  subst hr
  exact k' z z z
 ·refine o'<|e'<|h'<|sr<|mv z z<|yy (L' y' f z) z<|mv z z<|yy (L' y' g z) z<|yy (br' z z) z<|nx<|I' hr z (fun u hr=>?_) (fun u hr=>?_)
  ·refine sr<|sg z z<|nx<|j' ?_
   replace hr:_=r:=hr
   refine g' ?_
   subst hr
   exact k' z z z
  ·refine o'<|e'<|h'<|sr<|mv z z<|yy (L' y' f z) z<|yy (bd' z z) z<|sg z z<|nx<|aa' (fun (j:Mem)=>match j with|h=>[]) (fun (j:Mem)=>match j with|h=>Mem.le l h∧(Zcf).Ret r) (fun (j:Mem)=>match j with|h=>St x l h []) ?_ ?_
   ·refine B' ?_
    let k:(Int⊕Unit)→Prop:=fun D=>((fun F=>match F with | .inl rv1=>Comp.ret rv1 | .inr ()=>Zcf:(Int⊕Unit)→Comp Int) D).wp (fun a=>a=r)
    replace hr:(Comp.loop _ _).wp k:=hr
    refine ab' (Φ:=k) (fun (⟨i,e⟩:Int×Mem)=>(i:Int)) (fun ⟨i,e⟩=>[(0,.slice a1p a1.length a1c),(1,.slice b1p b1.length b1c),(5,i' i)]) (fun ⟨i,e⟩=>Mem.le l e) (fun ⟨i,e⟩=>St x l e []) ⟨IntKind.i64.wrap ((a1.length:Int)-1),l⟩ hr (fc z (fc z (fc z fn))) mr (wk ln) ?_
    ·intro I j E hr
     obtain⟨i,e⟩:=j
     have d:=E
     refine h'<|sr<|mv z z<|yy (bc' z z) z<|nx<|I' hr z (fun t hr=>?_) (fun t hr=>?_)
     ·refine o'<|e'<|h'<|B'<|h'<|h'<|Y' [false,false,false,false,false,false,false,false] mix (by kernel_rfl) fun q=>cn (fun _ c=>f' z)<|cn (fun _ c=>f' z) ?_
      obtain⟨K,p,hr⟩:=hr
      refine cn (fun _ c=>Q' y' bh' ((f.mono d).mono c) z z p)<|cn (fun _ c=>U' bC' z (aC' (E' (E' (Z' f p) d) c)))<|cn (fun _ c=>f' z)<|cn (fun _ c=>f' z) ?_
      obtain⟨J,o,hr⟩:=hr
      refine cn (fun _ c=>Q' y' bh' ((g.mono d).mono c) z z o)<|cn (fun _ c=>U' bC' z (aC' (E' (E' (Z' g o) d) c)))<|X' q<|yy (V' z z) z<|u'<|am'<|e'<|I' hr z (fun y hr=>?_) (fun y hr=>?_)
      ·refine sr<|sg z z<|nx<|j' ?_
       replace hr:_=r:=hr
       refine g'<|x'<|g'<|g'<|x'<|aI'<|g' ?_
       subst hr
       exact k' z z z
      ·refine o'<|e'<|h'<|Y' [false,false,false,false,false,false,false,false] mix (by kernel_rfl) fun q=>cn (fun _ c=>f' z)<|cn (fun _ c=>f' z) ?_
       obtain⟨L,n,hr⟩:=hr
       refine cn (fun _ c=>Q' y' bh' ((f.mono d).mono c) z z n)<|cn (fun _ c=>U' bC' z (aC' (E' (E' (Z' f n) d) c)))<|cn (fun _ c=>f' z)<|cn (fun _ c=>f' z) ?_
       obtain⟨M,m,hr⟩:=hr
       refine cn (fun _ c=>Q' y' bh' ((g.mono d).mono c) z z m)<|cn (fun _ c=>U' bC' z (aC' (E' (E' (Z' g m) d) c)))<|X' q<|yy (br' z z) z<|u'<|am'<|e'<|I' hr z (fun B hr=>?_) (fun B hr=>?_)
       ·refine sr<|sg z z<|nx<|j' ?_
        replace hr:_=r:=hr
        refine x'<|g'<|g'<|x'<|aI'<|g' ?_
        subst hr
        exact k' z z z
       ·refine o'<|D'<|e'<|w'<|mv z z<|yy (bd' z z) z<|sg z z<|u'<|P' ⟨IntKind.i64.wrap (i-1),e⟩ hr d (fc z (fc z (fc z fn))) (wk ln)
     ·refine ad'<|n'<|n'<|J'<|ae' e ⟨d,hr⟩ fn (wk ln)
   ·rintro h ⟨C,hr⟩
    refine e'<|sr<|sg z z<|nx<|j' ?_
    obtain rfl:_=r:=hr
    exact k' z z z
theorem ge'{a1 d1 a1p a1c r}(hr:(ZgQ a1 d1).Ret r):Ctr Tryz.prog 212 #[.slice a1p a1.length a1c,.int .u64 d1] (fun G=>sl (Rp.int .u32) G a1p a1c a1) (fun G v=>∃ A x,v = .tuple #[.slice A r.1.length x,.int .u64 r.2]∧sl (Rp.int .u32) G A x r.1):=by
 refine C' (args:=[_,_]) (N:=41) Tryz.func212 z z z (fun O y R I=>?_)
 have q:=I
 refine sr<|sg z z<|sg z z<|nr<|mv z z<|yy (L' y' q z) z ?_
 obtain⟨Q,hr⟩:=hr
 refine dM' (r:=(Rp.int .u32)) (e:=156) (n:=(a1.length:Int)) (zx:=0) 4012 z z y' el156 z (by decide) (by decide) z z z Q fun C J S=>sg z z<|nr<|sg z z<|nx<|h'<|sr<|mv z z<|yy (L' y' q z) z<|yy (bd' z z) z<|sg z z<|nx<|aa' (fun (⟨h,g,l,m⟩:(List Int)×Option Ow×Int×Mem)=>[(6,.slice C (a1.length:Int).toNat ((a1.length:Int).toNat)),(7,.int .u64 l)]) (fun ⟨h,g,l,m⟩=>Mem.le y m∧RowR (Rp.int .u32) 156 m (.slice C (a1.length:Int).toNat ((a1.length:Int).toNat)) h g∧(ZcG h l).Ret r) (fun ⟨h,g,l,m⟩=>St O y m [(4012,g)]) ?_ ?_
 ·refine B' ?_
  let t:(((List Int)×Int))→Prop:=fun oo=>((fun ov=>match ov with|(h,l)=>ZcG h l:(((List Int)×Int))→Comp ((List Int)×Int)) oo).wp (fun a=>a=r)
  replace hr:(Comp.loop _ _).wp t:=hr
  refine ab' (Φ:=t) (fun (⟨d,c,f,o,j⟩:(List Int)×Option Ow×Int×Int×Mem)=>((d,f,o):(List Int)×Int×Int)) (fun ⟨d,c,f,o,j⟩=>[(0,.slice a1p a1.length a1c),(1,.int .u64 d1),(6,.slice C (a1.length:Int).toNat ((a1.length:Int).toNat)),(7,.int .u64 f),(8,i' o)]) (fun ⟨d,c,f,o,j⟩=>Mem.le y j∧RowR (Rp.int .u32) 156 j (.slice C (a1.length:Int).toNat ((a1.length:Int).toNat)) d c) (fun ⟨d,c,f,o,j⟩=>St O y j [(4012,c)]) ⟨(List.replicate (a1.length:Int).toNat 0),J,0,IntKind.i64.wrap ((a1.length:Int)-1),y⟩ hr (fc z (fc z (fc z (fc z (fc z fn))))) ⟨mr,S⟩ (wk (lc z ln)) ?_
  ·intro ak Z hx hr
   obtain⟨d,c,f,o,j⟩:=Z
   obtain⟨k,p⟩:=hx
   refine h'<|sr<|mv z z<|yy (bc' z z) z<|nx<|I' hr z (fun P hr=>?_) (fun P hr=>?_)
   ·refine o'<|e'<|h'<|B'<|sr<|mv z z<|yy (dG' z z) z<|mv z z<|mv z z ?_
    obtain⟨D,F,hr⟩:=hr
    refine yy (Q' y' bh' (q.mono k) z z F) z<|yy (U' bC' z (aC' (E' (Z' q F) k))) z<|yy (aH' an' al' z) z<|yy (N' z z) z<|sg z z<|nr<|mv z z<|mv z z<|mv z z<|mv z z ?_
    obtain⟨M,hr⟩:=hr
    refine yy (dF' z z M) z<|yy (aH' al' an' z) z ?_
    obtain⟨x2,E,hr⟩:=hr
    refine yy (aX' y' bh' p z z E) z<|bx' (r:=(Rp.int .u32)) (e:=156) (cs':=[.int .u32 (IntKind.u32.wrap (IntKind.u64.wrap (Int.tdiv (IntKind.u64.wrap ((IntKind.u64.wrap (f*4294967296))+(IntKind.u64.wrap D))) d1)))]) (i:=o) (z':=IntKind.u32.wrap (IntKind.u64.wrap (Int.tdiv (IntKind.u64.wrap ((IntKind.u64.wrap (f*4294967296))+(IntKind.u64.wrap D))) d1))) 4012 z bh' z p z z z z z E fun U H=>nx<|w'<|mv z z<|mv z z ?_
    obtain⟨T,hr⟩:=hr
    refine yy (bL' z z T) z<|sg z z<|u'<|D'<|e'<|w'<|mv z z<|yy (bd' z z) z<|sg z z<|u'<|P' ⟨(d.set o.toNat (IntKind.u32.wrap (IntKind.u64.wrap (Int.tdiv (IntKind.u64.wrap ((IntKind.u64.wrap (f*4294967296))+(IntKind.u64.wrap D))) d1)))),U,Int.tmod (IntKind.u64.wrap ((IntKind.u64.wrap (f*4294967296))+(IntKind.u64.wrap D))) d1,IntKind.i64.wrap (o-1),j⟩ hr ⟨k,H⟩ (fc z (fc z (fc z (fc z (fc z fn))))) (wk (lc z ln))
   ·refine ad'<|n'<|n'<|J'<|ae' ⟨d,c,f,j⟩ ⟨k,p,hr⟩ (fc z (fc z fn)) (wk (lc z ln))
 ·rintro⟨h,g,l,m⟩ ⟨Y,B,hr⟩
  refine e'<|sr<|mv z z<|bu' (r:=(Rp.int .u32)) (e:=156) 4012 B z (by rw[R]; rfl) (fun aj ah X u W=>?_)
  obtain⟨ag,L,hr⟩:=hr
  refine M' z z (s' E161 z) (dy' L) (by rw[cV' u]) ((cN' u)) (fun aa ai V s=>?_)
  obtain⟨ad,af,rfl,K⟩:=s
  refine mv z z<|sg z z<|sg z z<|nx<|j' ?_
  obtain rfl:_=r:=hr
  exact aE' z z z ⟨_,_,z,K⟩
theorem eS'{a0_1 a1_1 a0_1p a0_1c a1_1p a1_1c r}(hr:(Zey a0_1 a1_1).Ret r):Ctr Tryz.prog 201 #[.slice a0_1p a0_1.length a0_1c,.slice a1_1p a1_1.length a1_1c] (fun G=>sl (Rp.int .u32) G a0_1p a0_1c a0_1∧sl (Rp.int .u32) G a1_1p a1_1c a1_1) (fun G v=>∃ k h g j,v = .tuple #[.slice k r.1.length h,.slice g r.2.length j]∧sl (Rp.int .u32) G k h r.1∧sl (Rp.int .u32) G g j r.2):=by
 refine C' (args:=[_,_]) (N:=110) Tryz.func201 z z z (fun M P J o=>?_)
 obtain⟨d,c⟩:=o
 refine sr<|sg z z<|sg z z<|nx<|h'<|sr<|mv z z<|mv z z ?_
 obtain⟨F,s,hr⟩:=hr
 refine F' z z (s' E167 z) (cO' s) z (⟨d,c⟩)<|yy (V' z z) z<|nx<|I' hr z (fun x hr=>?_) (fun x hr=>?_)
 ·refine sr<|mv z z<|sg z z<|sg z z<|nx<|j' ?_
  replace hr:_=r:=hr
  refine g' ?_
  subst hr
  exact aE' z z z ⟨_,_,_,_,z,(ah' (Rp.int .u32) _),d⟩
 ·refine o'<|e'<|h'<|sr<|mv z z<|yy (L' y' c z) z<|yy (ak' z z) z<|nx<|I' hr z (fun t hr=>?_) (fun t hr=>?_)
  ·refine sr<|mv z z<|mv z z ?_
   obtain⟨O,m,hr⟩:=hr
   refine yy (Q' y' bh' c z z m) z<|yy (U' bC' z (aC' (Z' c m))) z<|yy (aH' an' al' z) z ?_
   obtain⟨I,q,hr⟩:=hr
   refine M' z z (s' E212 z) (ge' q) z (d) (fun B H A e=>?_)
   obtain⟨y,u,rfl,i⟩:=e
   refine mv z z<|yy (K' z z) z<|yy (K' z z) z<|sg z z<|sg z z<|nr<|mv z z<|mv z z ?_
   obtain⟨L,p,hr⟩:=hr
   refine M' z z (s' E128 z) (eg' p) z (trivial) (fun C K l f=>?_)
   obtain⟨D,E,rfl,n⟩:=f
   refine sg z z<|sg z z<|nx<|j' ?_
   replace hr:_=r:=hr
   refine g' ?_
   subst hr
   exact aE' z z z ⟨_,_,_,_,z,(i.mono l),n⟩
  ·exact (show False from hr).elim
theorem gr'{a1 b1 a1p a1c b1p b1c r}(hr:(ZhH a1 b1).Ret r):Ctr Tryz.prog 185 #[.slice a1p a1.length a1c,.slice b1p b1.length b1c] (fun G=>sl (Rp.int .u32) G a1p a1c a1∧sl (Rp.int .u32) G b1p b1c b1) (fun G v=>∃ T U,v = .slice T r.length U∧sl (Rp.int .u32) G T U r):=by
 refine C' (args:=[_,_]) (N:=33) Tryz.func185 z z z (fun H A ar J=>?_)
 obtain⟨X,P⟩:=J
 refine sr<|sg z z<|nx<|h'<|aa' (fun (⟨q,p,o,l⟩:(List Int)×Option Addr×Nat×Mem)=>[(0,.slice p q.length o)]) (fun ⟨q,p,o,l⟩=>Mem.le A l∧sl (Rp.int .u32) l p o q∧(Zdj q).Ret r) (fun ⟨q,p,o,l⟩=>St H A l []) ?_ ?_
 ·refine B' ?_
  let s:((List Int)⊕(List Int))→Prop:=fun oo=>((fun ov=>match ov with | .inl rv1=>Comp.ret rv1 | .inr q=>Zdj q:((List Int)⊕(List Int))→Comp (List Int)) oo).wp (fun a=>a=r)
  replace hr:(Comp.loop _ _).wp s:=hr
  refine ab' (Φ:=s) (fun (⟨k,g,h,j,i,f,c⟩:(List Int)×Option Addr×Nat×(List Int)×Option Addr×Nat×Mem)=>((k,j):(List Int)×(List Int))) (fun ⟨k,g,h,j,i,f,c⟩=>[(0,.slice g k.length h),(1,.slice i j.length f)]) (fun ⟨k,g,h,j,i,f,c⟩=>Mem.le A c∧sl (Rp.int .u32) c g h k∧sl (Rp.int .u32) c i f j) (fun ⟨k,g,h,j,i,f,c⟩=>St H A c []) ⟨a1,a1p,a1c,b1,b1p,b1c,A⟩ hr (fc z (fc z fn)) ⟨mr,X,P⟩ (wk ln) ?_
  ·intro Y gx hx hr
   obtain⟨k,g,h,j,i,f,c⟩:=gx
   obtain⟨u,x,n⟩:=hx
   refine h'<|sr<|mv z z<|yy (L' y' n z) z<|yy (br' z z) z<|nx<|I' hr z (fun V hr=>?_) (fun V hr=>?_)
   ·refine o'<|e'<|B'<|h'<|aV' (fun (⟨e,m⟩:Bool×Mem)=>[(0,.slice g k.length h),(1,.slice i j.length f),(17,.bool e)]) (fun ⟨e,m⟩=>Mem.le c m∧(Zdk k j e).wp (Out Y s)) (fun ⟨e,m⟩=>St H A m []) ?_ ?_
    ·skip
     refine w'<|mv z z<|yy (L' y' x z) z<|aj' hr z (bz' z z) z (fun aa hr=>?_) (fun aa hr=>?_)
     ·refine mv z z<|gy z z (f' z) z<|gy z z (L' y' n z) z<|gy z z (bz' z z) z<|yy (m' z z) z<|u'<|ap' ⟨decide ((j.length:Int)≤2),c⟩ ⟨mr,hr⟩ (fc z (fc z (fc z fn))) (wk ln)
     ·refine mv z z<|sk z z z<|sk z z z<|sk z z z<|yy (l' z z) z<|u'<|ap' ⟨false,c⟩ ⟨mr,hr⟩ (fc z (fc z (fc z fn))) (wk ln)
    ·rintro⟨e,m⟩ ⟨d,hr⟩
     refine aN' hr z (fun R hr=>?_) (fun R hr=>?_)
     ·refine sr<|mv z z ?_
      obtain⟨an,O,hr⟩:=hr
      refine F' z z (s' E200 z) (eZ' O) z ((x.mono d))<|mv z z ?_
      obtain⟨ap,M,hr⟩:=hr
      refine F' z z (s' E200 z) (eZ' M) z ((n.mono d)) ?_
      obtain⟨au,K,hr⟩:=hr
      refine F' z z (s' E199 z) (gq' K) z (trivial) ?_
      obtain⟨ao,F,hr⟩:=hr
      refine M' z z (s' E128 z) (eg' F) z (trivial) (fun am aq ad B=>?_)
      obtain⟨af,ah,rfl,L⟩:=B
      refine sg z z<|nx<|j' ?_
      replace hr:_=r:=hr
      refine g'<|x'<|g'<|x'<|aI'<|g' ?_
      subst hr
      exact k' z z ⟨_,_,z,L⟩
     ·refine o'<|e'<|sr<|mv z z<|mv z z ?_
      obtain⟨Z,I,hr⟩:=hr
      refine M' z z (s' E201 z) (eS' I) z (⟨(x.mono d),(n.mono d)⟩) (fun al W t y=>?_)
      obtain⟨Q,ac,C,D,rfl,ab,E⟩:=y
      refine mv z z<|yy (K' z z) z<|yy (K' z z) z<|sg z z<|sg z z<|nr<|mv z z<|sg z z<|nx<|w'<|mv z z<|sg z z<|u'<|D'<|P' ⟨j,i,f,Z.2,C,D,W⟩ hr ⟨(mt (mt u d) t),(n.mono (mt d t)),E⟩ (fc z (fc z fn)) (wk ln)
   ·refine ad'<|n'<|n'<|J'<|ae' ⟨k,g,h,c⟩ ⟨u,x,hr⟩ (fc z fn) (wk ln)
 ·rintro⟨q,p,o,l⟩ ⟨ae,S,hr⟩
  refine e'<|sr<|mv z z<|sg z z<|nx<|j' ?_
  obtain rfl:_=r:=hr
  exact k' z z ⟨_,_,z,S⟩
theorem gb'{a1 b1 a1magp a1magc b1magp b1magc r}(hr:(Zih a1 b1).Ret r):Ctr Tryz.prog 162 #[.agg ((v58' a1 a1magp a1magc)).toArray,.agg ((v58' b1 b1magp b1magc)).toArray] (fun G=>sl (Rp.int .u32) G a1magp a1magc a1.mag∧sl (Rp.int .u32) G b1magp b1magc b1.mag) (fun G v=>∃ d c,v = .agg ((v58' r d c)).toArray∧sl (Rp.int .u32) G d c r.mag):=by
 refine C' (args:=[_,_]) (N:=11) Tryz.func162 z z z (fun H J E k=>?_)
 obtain⟨j,h⟩:=k
 refine sr<|W' 2 z z z fun K=>W' 3 z z z fun F=>T' 4 z z58 z fun I=>nr<|yy (aO' z) z<|yy (b' 2 bG' z z z) z<|yy (aO' z) z<|yy (b' 3 bG' z z z) z ?_
 obtain⟨A,n,hr⟩:=hr
 refine M' z z (s' E185 z) (gr' n) z (⟨j,h⟩) (fun u B s f=>?_)
 obtain⟨x,y,rfl,l⟩:=f
 obtain⟨D,m,hr⟩:=hr
 refine M' z z (s' E127 z) (cz' m) z (l) (fun t C q e=>?_)
 obtain⟨p,o,rfl,g⟩:=e
 refine v' 4 z sz58 z z z z z (List.all_eq_true.1 z)<|nx<|j' ?_
 obtain rfl:_=r:=hr
 exact k' z (ac' (i:=4) bk' z z z) ⟨_,_,z,g⟩
theorem gw'{a1 b1 a1p a1c b1p b1c r}(hr:(ZiD a1 b1).Ret r):Ctr Tryz.prog 166 #[.slice a1p a1.length a1c,.slice b1p b1.length b1c] (fun G=>sl (Rp.int .u32) G a1p a1c a1∧sl (Rp.int .u32) G b1p b1c b1) (fun G v=>∃ M P,v = .slice M r.length P∧sl (Rp.int .u32) G M P r):=by
 refine C' (args:=[_,_]) (N:=42) Tryz.func166 z z z (fun O x S F=>?_)
 obtain⟨C,B⟩:=F
 refine sr<|sg z z<|nr<|mv z z<|yy (L' y' C z) z<|mv z z<|yy (L' y' B z) z<|yy (Y0.max2 z z) z<|yy (N' z z) z<|sg z z<|nr<|mv z z ?_
 obtain⟨R,hr⟩:=hr
 refine dM' (r:=(Rp.int .u32)) (e:=156) (n:=IntKind.i64.wrap ((if (a1.length:Int)<(b1.length:Int) then (b1.length:Int) else (a1.length:Int))+1)) (zx:=0) 4017 z z y' el156 z (by decide) (by decide) z z z R fun A I T=>sg z z<|nr<|sg z z<|nx<|h'<|sr<|sg z z<|nx<|aa' (fun (⟨h,g,l⟩:(List Int)×Option Ow×Mem)=>[(6,.slice A (IntKind.i64.wrap ((if (a1.length:Int)<(b1.length:Int) then (b1.length:Int) else (a1.length:Int))+1)).toNat ((IntKind.i64.wrap ((if (a1.length:Int)<(b1.length:Int) then (b1.length:Int) else (a1.length:Int))+1)).toNat))]) (fun ⟨h,g,l⟩=>Mem.le x l∧RowR (Rp.int .u32) 156 l (.slice A (IntKind.i64.wrap ((if (a1.length:Int)<(b1.length:Int) then (b1.length:Int) else (a1.length:Int))+1)).toNat ((IntKind.i64.wrap ((if (a1.length:Int)<(b1.length:Int) then (b1.length:Int) else (a1.length:Int))+1)).toNat)) h g∧(ZdL h).Ret r) (fun ⟨h,g,l⟩=>St O x l [(4017,g)]) ?_ ?_
 ·refine B' ?_
  let t:(List Int)→Prop:=fun oo=>((fun ov=>match ov with|h=>ZdL h:(List Int)→Comp (List Int)) oo).wp (fun a=>a=r)
  replace hr:(Comp.loop _ _).wp t:=hr
  refine ab' (Φ:=t) (fun (⟨f,d,c,m,j⟩:(List Int)×Option Ow×Int×Int×Mem)=>((f,c,m):(List Int)×Int×Int)) (fun ⟨f,d,c,m,j⟩=>[(0,.slice a1p a1.length a1c),(1,.slice b1p b1.length b1c),(5,i' (IntKind.i64.wrap ((if (a1.length:Int)<(b1.length:Int) then (b1.length:Int) else (a1.length:Int))+1))),(6,.slice A (IntKind.i64.wrap ((if (a1.length:Int)<(b1.length:Int) then (b1.length:Int) else (a1.length:Int))+1)).toNat ((IntKind.i64.wrap ((if (a1.length:Int)<(b1.length:Int) then (b1.length:Int) else (a1.length:Int))+1)).toNat)),(7,.int .u64 c),(8,i' m)]) (fun ⟨f,d,c,m,j⟩=>Mem.le x j∧RowR (Rp.int .u32) 156 j (.slice A (IntKind.i64.wrap ((if (a1.length:Int)<(b1.length:Int) then (b1.length:Int) else (a1.length:Int))+1)).toNat ((IntKind.i64.wrap ((if (a1.length:Int)<(b1.length:Int) then (b1.length:Int) else (a1.length:Int))+1)).toNat)) f d) (fun ⟨f,d,c,m,j⟩=>St O x j [(4017,d)]) ⟨(List.replicate (IntKind.i64.wrap ((if (a1.length:Int)<(b1.length:Int) then (b1.length:Int) else (a1.length:Int))+1)).toNat 0),I,0,0,x⟩ hr (fc z (fc z (fc z (fc z (fc z (fc z fn)))))) ⟨mr,T⟩ (wk (lc z ln)) ?_
  ·intro ak Z hx hr
   obtain⟨f,d,c,m,j⟩:=Z
   obtain⟨k,o⟩:=hx
   refine h'<|sr<|mv z z<|mv z z<|yy (V' z z) z<|nx<|I' hr z (fun Q hr=>?_) (fun Q hr=>?_)
   ·refine o'<|e'<|h'<|B'<|sr<|mv z z<|mv z z ?_
    obtain⟨p,K,hr⟩:=hr
    refine F' z z (s' E187 z) (dj' K) z ((C.mono k))<|mv z z<|mv z z ?_
    obtain⟨q,H,hr⟩:=hr
    refine F' z z (s' E187 z) (dj' H) z ((B.mono k))<|yy (N' z z) z<|mv z z<|yy (N' z z) z<|sg z z<|nr<|mv z z<|mv z z<|mv z z<|yy (bL' z z (by decide)) z<|yy (aH' al' an' z) z ?_
    obtain⟨x1,D,hr⟩:=hr
    refine yy (aX' y' bh' o z z D) z<|bx' (r:=(Rp.int .u32)) (e:=156) (cs':=[.int .u32 (IntKind.u32.wrap (Int.tmod (IntKind.u64.wrap ((IntKind.u64.wrap (p+q))+c)) 4294967296))]) (i:=m) (z':=IntKind.u32.wrap (Int.tmod (IntKind.u64.wrap ((IntKind.u64.wrap (p+q))+c)) 4294967296)) 4017 z bh' z o z z z z z D fun U E=>nx<|w'<|mv z z<|yy (dF' z z (by decide)) z<|sg z z<|u'<|D'<|e'<|w'<|mv z z<|yy (N' z z) z<|sg z z<|u'<|P' ⟨(f.set m.toNat (IntKind.u32.wrap (Int.tmod (IntKind.u64.wrap ((IntKind.u64.wrap (p+q))+c)) 4294967296))),U,IntKind.u64.wrap (Int.tdiv (IntKind.u64.wrap ((IntKind.u64.wrap (p+q))+c)) 4294967296),IntKind.i64.wrap (m+1),j⟩ hr ⟨k,E⟩ (fc z (fc z (fc z (fc z (fc z (fc z fn)))))) (wk (lc z ln))
   ·refine ad'<|n'<|n'<|J'<|ae' ⟨f,d,j⟩ ⟨k,o,hr⟩ (fc z fn) (wk (lc z ln))
 ·rintro⟨h,g,l⟩ ⟨Y,y,hr⟩
  refine e'<|sr<|mv z z<|bu' (r:=(Rp.int .u32)) (e:=156) 4017 y z (by rw[S]; rfl) (fun aj ah X u W=>?_)
  obtain⟨ag,L,hr⟩:=hr
  refine M' z z (s' E161 z) (dy' L) (by rw[cV' u]) ((cN' u)) (fun aa ai V s=>?_)
  obtain⟨ad,af,rfl,J⟩:=s
  refine sg z z<|nx<|j' ?_
  obtain rfl:_=r:=hr
  exact k' z z ⟨_,_,z,J⟩
theorem ft'{a1 b1 a1p a1c b1p b1c r}(hr:(ZfR a1 b1).Ret r):Ctr Tryz.prog 168 #[.slice a1p a1.length a1c,.slice b1p b1.length b1c] (fun G=>sl (Rp.int .u32) G a1p a1c a1∧sl (Rp.int .u32) G b1p b1c b1) (fun G v=>∃ O Q,v = .slice O r.length Q∧sl (Rp.int .u32) G O Q r):=by
 refine C' (args:=[_,_]) (N:=41) Tryz.func168 z z z (fun P y T H=>?_)
 obtain⟨s,M⟩:=H
 refine sr<|sg z z<|nr<|mv z z<|yy (L' y' s z) z ?_
 obtain⟨S,hr⟩:=hr
 refine dM' (r:=(Rp.int .u32)) (e:=156) (n:=(a1.length:Int)) (zx:=0) 4011 z z y' el156 z (by decide) (by decide) z z z S fun B I U=>sg z z<|nr<|sg z z<|nx<|h'<|sr<|sg z z<|nx<|aa' (fun (⟨k,h,m⟩:(List Int)×Option Ow×Mem)=>[(5,.slice B (a1.length:Int).toNat ((a1.length:Int).toNat))]) (fun ⟨k,h,m⟩=>Mem.le y m∧RowR (Rp.int .u32) 156 m (.slice B (a1.length:Int).toNat ((a1.length:Int).toNat)) k h∧(ZdM k).Ret r) (fun ⟨k,h,m⟩=>St P y m [(4011,h)]) ?_ ?_
 ·refine B' ?_
  let u:(List Int)→Prop:=fun oo=>((fun ov=>match ov with|k=>ZdM k:(List Int)→Comp (List Int)) oo).wp (fun a=>a=r)
  replace hr:(Comp.loop _ _).wp u:=hr
  refine ab' (Φ:=u) (fun (⟨g,d,c,o,l⟩:(List Int)×Option Ow×Int×Int×Mem)=>((g,c,o):(List Int)×Int×Int)) (fun ⟨g,d,c,o,l⟩=>[(0,.slice a1p a1.length a1c),(1,.slice b1p b1.length b1c),(5,.slice B (a1.length:Int).toNat ((a1.length:Int).toNat)),(6,.int .u64 c),(7,i' o)]) (fun ⟨g,d,c,o,l⟩=>Mem.le y l∧RowR (Rp.int .u32) 156 l (.slice B (a1.length:Int).toNat ((a1.length:Int).toNat)) g d) (fun ⟨g,d,c,o,l⟩=>St P y l [(4011,d)]) ⟨(List.replicate (a1.length:Int).toNat 0),I,0,0,y⟩ hr (fc z (fc z (fc z (fc z (fc z fn))))) ⟨mr,U⟩ (wk (lc z ln)) ?_
  ·intro am gx hx hr
   obtain⟨g,d,c,o,l⟩:=gx
   obtain⟨j,p⟩:=hx
   refine h'<|sr<|mv z z<|mv z z<|yy (L' y' (s.mono j) z) z<|yy (V' z z) z<|nx<|I' hr z (fun R hr=>?_) (fun R hr=>?_)
   ·refine o'<|e'<|h'<|B'<|h'<|Y' [false,false,false,false,false,false,false,false,false,false,false] mix (by kernel_rfl) fun hb=>cn (fun _ f=>f' z)<|cn (fun _ f=>f' z) ?_
    obtain⟨C,E,hr⟩:=hr
    refine cn (fun _ f=>Q' y' bh' ((s.mono j).mono f) z z E)<|cn (fun _ f=>U' bC' z (aC' (E' (E' (Z' s E) j) f)))<|cn (fun _ f=>aH' an' al' z)<|cn (fun _ f=>N' z z)<|cn (fun _ f=>f' z)<|cn (fun _ f=>f' z) ?_
    obtain⟨q,K,hr⟩:=hr
    refine bB' z (fun _=>s' E187 z) (dj' K) z (fun G' f=>((M.mono j).mono f))<|cn (fun _ f=>bd' z z)<|cn (fun _ f=>f' z)<|X' hb<|yy (bd' z z) z<|sg z z<|u'<|am'<|e'<|sr<|mv z z<|mv z z<|mv z z<|yy (bL' z z (by decide)) z<|yy (aH' al' an' z) z ?_
    obtain⟨x2,D,hr⟩:=hr
    refine yy (aX' y' bh' p z z D) z<|bx' (r:=(Rp.int .u32)) (e:=156) (cs':=[.int .u32 (IntKind.u32.wrap (Int.tmod (IntKind.u64.wrap ((IntKind.u64.wrap ((IntKind.u64.wrap (4294967296+(IntKind.u64.wrap C)))-q))-c)) 4294967296))]) (i:=o) (z':=IntKind.u32.wrap (Int.tmod (IntKind.u64.wrap ((IntKind.u64.wrap ((IntKind.u64.wrap (4294967296+(IntKind.u64.wrap C)))-q))-c)) 4294967296)) 4011 z bh' z p z z z z z D fun V F=>nx<|w'<|mv z z<|yy (dF' z z (by decide)) z<|yy (bd' z z) z<|sg z z<|u'<|D'<|e'<|w'<|mv z z<|yy (N' z z) z<|sg z z<|u'<|P' ⟨(g.set o.toNat (IntKind.u32.wrap (Int.tmod (IntKind.u64.wrap ((IntKind.u64.wrap ((IntKind.u64.wrap (4294967296+(IntKind.u64.wrap C)))-q))-c)) 4294967296))),V,IntKind.u64.wrap (1-(IntKind.u64.wrap (Int.tdiv (IntKind.u64.wrap ((IntKind.u64.wrap ((IntKind.u64.wrap (4294967296+(IntKind.u64.wrap C)))-q))-c)) 4294967296))),IntKind.i64.wrap (o+1),l⟩ hr ⟨j,F⟩ (fc z (fc z (fc z (fc z (fc z fn))))) (wk (lc z ln))
   ·refine ad'<|n'<|n'<|J'<|ae' ⟨g,d,l⟩ ⟨j,p,hr⟩ (fc z fn) (wk (lc z ln))
 ·rintro⟨k,h,m⟩ ⟨Z,A,hr⟩
  refine e'<|sr<|mv z z<|bu' (r:=(Rp.int .u32)) (e:=156) 4011 A z (by rw[T]; rfl) (fun al aj Y x X=>?_)
  obtain⟨ai,L,hr⟩:=hr
  refine M' z z (s' E161 z) (dy' L) (by rw[cV' x]) ((cN' x)) (fun ac ak W t=>?_)
  obtain⟨af,ah,rfl,J⟩:=t
  refine sg z z<|nx<|j' ?_
  obtain rfl:_=r:=hr
  exact k' z z ⟨_,_,z,J⟩
theorem gs'{a1 b1 a1magp a1magc b1magp b1magc r}(hr:(ZhF a1 b1).Ret r):Ctr Tryz.prog 186 #[.agg ((v58' a1 a1magp a1magc)).toArray,.agg ((v58' b1 b1magp b1magc)).toArray] (fun G=>sl (Rp.int .u32) G a1magp a1magc a1.mag∧sl (Rp.int .u32) G b1magp b1magc b1.mag) (fun G v=>∃ j l g m,v = .tuple #[.agg ((v58' r.1 j l)).toArray,.agg ((v58' r.2.1 g m)).toArray,i' r.2.2]∧sl (Rp.int .u32) G j l r.1.mag∧sl (Rp.int .u32) G g m r.2.1.mag):=by
 refine C' (args:=[_,_]) (N:=46) Tryz.func186 z z z (fun w0 G0 ao S=>?_)
 obtain⟨J,p⟩:=S
 refine sr<|W' 2 z z z fun R=>W' 3 z z z fun P=>T' 4 z z58 z fun Q=>T' 5 z z58 z fun M=>sg z z<|nx<|h'<|sr<|yy (aO' z) z<|yy (b' 3 bG' z z z) z<|yy (L' y' p z) z<|yy (ak' z z) z<|nx<|I' hr z (fun ae hr=>?_) (fun ae hr=>?_)
 ·exact (show False from hr).elim
 ·refine o'<|e'<|sr<|yy (aO' z) z<|yy (b' 2 bG' z z z) z<|yy (aO' z) z<|yy (b' 3 bG' z z z) z ?_
  obtain⟨h,W,hr⟩:=hr
  refine M' z z (s' E201 z) (eS' W) z (⟨J,p⟩) (fun ak B ah E=>?_)
  obtain⟨t,s,y,q,rfl,K,A⟩:=E
  refine mv z z<|yy (K' z z) z<|yy (K' z z) z<|sg z z<|sg z z<|nx<|aV' (fun (⟨I,x,u,k,f,d,e⟩:(List Int)×Option Addr×Nat×(List Int)×Option Addr×Nat×Mem)=>[(2,.pointer (some ⟨R,0,none⟩)),(3,.pointer (some ⟨P,0,none⟩)),(4,.pointer (some ⟨Q,0,none⟩)),(5,.pointer (some ⟨M,0,none⟩)),(7,.slice x I.length u),(8,.slice f k.length d)]) (fun ⟨I,x,u,k,f,d,e⟩=>Mem.le B e∧sl (Rp.int .u32) e x u I∧sl (Rp.int .u32) e f d k∧(ZfC a1 b1 I k).Ret r) (fun ⟨I,x,u,k,f,d,e⟩=>St w0 G0 e [(2,some ⟨R,.cells ((v58' a1 a1magp a1magc)).toArray 58 (0,0),0⟩),(3,some ⟨P,.cells ((v58' b1 b1magp b1magc)).toArray 58 (0,0),0⟩),(4,some ⟨Q,.cells ([.bool false,.slice none 0 0]).toArray 58 (0,0),0⟩),(5,some ⟨M,.cells ([.bool false,.slice none 0 0]).toArray 58 (0,0),0⟩)]) ?_ ?_
  ·skip
   refine aV' (fun (⟨c,n⟩:Bool×Mem)=>[(2,.pointer (some ⟨R,0,none⟩)),(3,.pointer (some ⟨P,0,none⟩)),(4,.pointer (some ⟨Q,0,none⟩)),(5,.pointer (some ⟨M,0,none⟩)),(7,.slice t h.1.length s),(8,.slice y h.2.length q),(29,.bool c)]) (fun ⟨c,n⟩=>Mem.le B n∧(Zdi a1 b1 h c).Ret r) (fun ⟨c,n⟩=>St w0 G0 n [(2,some ⟨R,.cells ((v58' a1 a1magp a1magc)).toArray 58 (0,0),0⟩),(3,some ⟨P,.cells ((v58' b1 b1magp b1magc)).toArray 58 (0,0),0⟩),(4,some ⟨Q,.cells ([.bool false,.slice none 0 0]).toArray 58 (0,0),0⟩),(5,some ⟨M,.cells ([.bool false,.slice none 0 0]).toArray 58 (0,0),0⟩)]) ?_ ?_
   ·skip
    refine w'<|yy (bl' z) z<|aj' hr z (cI' (b' 2 sc4 z z z) (congrArg Value.bool (bdec _))) z (fun ag hr=>?_) (fun ag hr=>?_)
    ·refine mv z z<|gy z z (f' z) z<|gy z z (L' y' A z) z<|gy z z (br' z z) z<|yy (m' z z) z<|u'<|ap' ⟨decide (0<(h.2.length:Int)),B⟩ ⟨mr,hr⟩ (fc z (fc z (fc z (fc z (fc z (fc z (fc z fn))))))) (wk (lc z (lc z (lc z (lc z ln)))))
    ·refine mv z z<|sk z z z<|sk z z z<|sk z z z<|yy (l' z z) z<|u'<|ap' ⟨false,B⟩ ⟨mr,hr⟩ (fc z (fc z (fc z (fc z (fc z (fc z (fc z fn))))))) (wk (lc z (lc z (lc z (lc z ln)))))
   ·rintro⟨c,n⟩ ⟨o,hr⟩
    refine aN' hr z (fun ab hr=>?_) (fun ab hr=>?_)
    ·exact (show False from hr).elim
    ·refine o'<|ap' ⟨h.1,t,s,h.2,y,q,n⟩ ⟨o,(K.mono o),(A.mono o),hr⟩ (fc z (fc z (fc z (fc z (fc z (fc z fn)))))) (wk (lc z (lc z (lc z (lc z ln)))))
  ·rintro⟨I,x,u,k,f,d,e⟩ ⟨ai,ac,U,hr⟩
   refine sr<|yy (bl' z) z<|yy (b' 2 sc4 z z z) z<|yy (bl' z) z<|yy (b' 3 sc4 z z z) z<|yy (eb' bH' z z) z<|mv z z ?_
   obtain⟨an,V,hr⟩:=hr
   refine M' z z (s' E127 z) (cz' V) z (ac) (fun aj am O D=>?_)
   obtain⟨aa,Z,rfl,H⟩:=D
   refine mv z z ?_
   obtain⟨aq,T,hr⟩:=hr
   refine M' z z (s' E127 z) (cz' T) z ((U.mono O)) (fun al ap L F=>?_)
   obtain⟨Y,X,rfl,C⟩:=F
   refine v' 4 z sz58 z z z z z (List.all_eq_true.1 z)<|v' 5 z sz58 z z z z z (List.all_eq_true.1 z)<|sg z z<|nx<|j' ?_
   obtain rfl:_=r:=hr
   exact WE.ret3 z (ac' (i:=4) bk' z z z) (ac' (i:=5) bk' z z z) z ⟨_,_,_,_,z,(H.mono L),C⟩
theorem fu'{n1 g1 n1magp n1magc g1magp g1magc r}(hr:(ZfT n1 g1).Ret r):Ctr Tryz.prog 164 #[.agg ((v58' n1 n1magp n1magc)).toArray,.agg ((v58' g1 g1magp g1magc)).toArray] (fun G=>sl (Rp.int .u32) G n1magp n1magc n1.mag∧sl (Rp.int .u32) G g1magp g1magc g1.mag) (fun G v=>∃ e d,v = .agg ((v58' r e d)).toArray∧sl (Rp.int .u32) G e d r.mag):=by
 refine C' (args:=[_,_]) (N:=16) Tryz.func164 z z z (fun C E x o=>?_)
 obtain⟨g,h⟩:=o
 refine sr<|W' 2 z z z fun A=>W' 3 z z z fun F=>T' 4 z z58 z fun B=>nr<|yy (t' 2 bk' z z z) z<|yy (t' 3 bk' z z z) z ?_
 obtain⟨t,p,hr⟩:=hr
 refine M' z z (s' E186 z) (gs' p) z (⟨g,h⟩) (fun s u q f=>?_)
 obtain⟨k,j,n,m,rfl,c,l⟩:=f
 refine mv z z<|yy (K' z z) z<|yy (K' z z) z<|yy (K' z z) z<|T' 5 z z58 z fun D=>T' 6 z z58 z fun y=>v' 5 z sz58 z z z z z (List.all_eq_true.1 z)<|v' 6 z sz58 z z z z z (List.all_eq_true.1 z)<|sg z z<|nr<|yy (t' 5 bk' z z z) z<|v' 4 z sz58 z z z z z (List.all_eq_true.1 z)<|nx<|j' ?_
 obtain rfl:_=r:=hr
 exact k' z (ac' (i:=4) bk' z z z) ⟨_,_,z,c⟩
theorem fa'{n1 d1 n1magp n1magc d1magp d1magc r}(hr:(Ze9 n1 d1).Ret r):Ctr Tryz.prog 129 #[.agg ((v58' n1 n1magp n1magc)).toArray,.agg ((v58' d1 d1magp d1magc)).toArray] (fun G=>sl (Rp.int .u32) G n1magp n1magc n1.mag∧sl (Rp.int .u32) G d1magp d1magc d1.mag) (fun G v=>∃ q p n l,v = .agg ([.bool r.num.neg,.slice q r.num.mag.length p,.bool r.den.neg,.slice n r.den.mag.length l]).toArray∧sl (Rp.int .u32) G q p r.num.mag∧sl (Rp.int .u32) G n l r.den.mag):=by
 refine C' (args:=[_,_]) (N:=21) Tryz.func129 z z z (fun w0 G0 ai R=>?_)
 obtain⟨B,m⟩:=R
 refine sr<|W' 2 z z z fun W=>W' 3 z z z fun b2=>T' 4 z z60 z fun X=>nr<|yy (t' 2 bk' z z z) z<|yy (t' 3 bk' z z z) z ?_
 obtain⟨V,U,hr⟩:=hr
 refine M' z z (s' E162 z) (gb' U) z (⟨B,m⟩) (fun ad P A J=>?_)
 obtain⟨I,K,rfl,E⟩:=J
 refine T' 5 z z58 z fun Z=>v' 5 z sz58 z z z z z (List.all_eq_true.1 z)<|nx<|aV' (fun (⟨x,f,g,u⟩:Zf×Option Addr×Nat×Mem)=>[(2,.pointer (some ⟨W,0,none⟩)),(3,.pointer (some ⟨b2,0,none⟩)),(4,.pointer (some ⟨X,0,none⟩)),(5,.pointer (some ⟨Z,0,none⟩))]) (fun ⟨x,f,g,u⟩=>Mem.le P u∧sl (Rp.int .u32) u f g x.mag∧(ZfD n1 d1 x).Ret r) (fun ⟨x,f,g,u⟩=>St w0 G0 u [(2,some ⟨W,.cells ((v58' n1 n1magp n1magc)).toArray 58 (0,0),0⟩),(3,some ⟨b2,.cells ((v58' d1 d1magp d1magc)).toArray 58 (0,0),0⟩),(4,some ⟨X,.cells ([.bool false,.slice none 0 0,.bool false,.slice none 0 0]).toArray 60 (0,0),0⟩),(5,some ⟨Z,.cells ((v58' x f g)).toArray 58 (0,0),0⟩)]) ?_ ?_
 ·skip
  refine sr<|yy (t' 3 bk' z z z) z ?_
  obtain⟨ag,Q,hr⟩:=hr
  refine F' z z (s' E138 z) (eN' Q) z ((m.mono A))<|yy (V' z z) z<|nx<|I' hr z (fun Y hr=>?_) (fun Y hr=>?_)
  ·exact (show False from hr).elim
  ·refine o'<|ap' ⟨V,I,K,P⟩ ⟨mr,E,hr⟩ (fc z (fc z (fc z (fc z fn)))) (wk (lc z (lc z (lc z (lc z ln)))))
 ·rintro⟨x,f,g,u⟩ ⟨D,y,hr⟩
  refine h'<|Y' [false,false,false,false,false] mix (by kernel_rfl) fun hb=>cn (fun _ k=>t' 2 bk' z z z)<|cn (fun _ k=>t' 5 bk' z z z) ?_
  obtain⟨o,T,hr⟩:=hr
  refine aD' (post:=fun G v=>∃ e c,v = .agg ((v58' o e c)).toArray∧sl (Rp.int .u32) G e c o.mag) (fun _=>z) (fun _ _=>s' E164 z) (fu' T) z (fun G' k=>⟨((B.mono (mt A D)).mono k),(y.mono k)⟩) (fun v G1 G2 k h=>?_) ?_
  ·obtain⟨e,c,rfl,j⟩:=h
   exact⟨_,_,z,j.mono k⟩
  refine cu (fun _ _ k=>t' 3 bk' z z z)<|cu (fun _ _ k=>t' 5 bk' z z z)<|cl' (d:=16) (post:=fun G v=>∃ e c,v = .agg ((v58' o e c)).toArray∧sl (Rp.int .u32) G e c o.mag) (fun ab ah C H=>?_)
  obtain⟨e,c,rfl,j⟩:=H
  obtain⟨M,S,hr⟩:=hr
  refine M' z z (s' E164 z) (fu' S) z (⟨(m.mono (mt (mt A D) C)),(y.mono C)⟩) (fun ae aj O L=>?_)
  obtain⟨t,s,rfl,F⟩:=L
  refine yy (aq' (vs:=#[(0,.agg ((v58' o e c)).toArray),(1,.agg ((v58' M t s)).toArray)]) (v:=.agg ([.bool o.neg,.slice e o.mag.length c,.bool M.neg,.slice t M.mag.length s]).toArray) z z (fun _=>by kernel_rfl)) z<|v' 4 z sz60 z z z z z (List.all_eq_true.1 z)<|u'<|am'<|e'<|j' ?_
  obtain rfl:_=r:=hr
  exact k' z (ac' (i:=4) ci' z z z) ⟨_,_,_,_,z,(j.mono O),F⟩
theorem gc'{a1 b1 a1nummagp a1nummagc a1denmagp a1denmagc b1nummagp b1nummagc b1denmagp b1denmagc r}(hr:(Zij a1 b1).Ret r):Ctr Tryz.prog 84 #[.agg ([.bool a1.num.neg,.slice a1nummagp a1.num.mag.length a1nummagc,.bool a1.den.neg,.slice a1denmagp a1.den.mag.length a1denmagc]).toArray,.agg ([.bool b1.num.neg,.slice b1nummagp b1.num.mag.length b1nummagc,.bool b1.den.neg,.slice b1denmagp b1.den.mag.length b1denmagc]).toArray] (fun G=>sl (Rp.int .u32) G a1nummagp a1nummagc a1.num.mag∧sl (Rp.int .u32) G a1denmagp a1denmagc a1.den.mag∧sl (Rp.int .u32) G b1nummagp b1nummagc b1.num.mag∧sl (Rp.int .u32) G b1denmagp b1denmagc b1.den.mag) (fun G v=>∃ m l k j,v = .agg ([.bool r.num.neg,.slice m r.num.mag.length l,.bool r.den.neg,.slice k r.den.mag.length j]).toArray∧sl (Rp.int .u32) G m l r.num.mag∧sl (Rp.int .u32) G k j r.den.mag):=by
 refine C' (args:=[_,_]) (N:=16) Tryz.func84 z z z (fun w0 G0 X J=>?_)
 obtain⟨q,p,t,s⟩:=J
 refine sr<|W' 2 z z z fun b2=>W' 3 z z z fun b3=>T' 4 z z60 z fun b4=>nx<|h'<|Y' [false,false,false,false,false,false,false,false,false] mix (by kernel_rfl) fun hb=>cn (fun _ f=>cn' z)<|cn (fun _ f=>av' ((v58' a1.num a1nummagp a1nummagc)).toArray 2 bk' z z z (aM' ([]) ((v58' a1.num a1nummagp a1nummagc)) ((v58' a1.den a1denmagp a1denmagc))))<|cn (fun _ f=>cn' z)<|cn (fun _ f=>av' ((v58' b1.num b1nummagp b1nummagc)).toArray 3 bk' z z z (aM' ([]) ((v58' b1.num b1nummagp b1nummagc)) ((v58' b1.den b1denmagp b1denmagc)))) ?_
 obtain⟨u,M,hr⟩:=hr
 refine aD' (post:=fun G v=>∃ c e,v = .agg ((v58' u c e)).toArray∧sl (Rp.int .u32) G c e u.mag) (fun _=>z) (fun _ _=>s' E130 z) (ek' M) z (fun G' f=>⟨(q.mono f),(t.mono f)⟩) (fun v G1 G2 f h=>?_) ?_
 ·obtain⟨c,e,rfl,g⟩:=h
  exact⟨_,_,z,g.mono f⟩
 refine cu (fun _ _ f=>bW' z)<|cu (fun _ _ f=>av' ((v58' a1.den a1denmagp a1denmagc)).toArray 2 bk' z z z (aM' ((v58' a1.num a1nummagp a1nummagc)) ((v58' a1.den a1denmagp a1denmagc)) ([])))<|cu (fun _ _ f=>bW' z)<|cu (fun _ _ f=>av' ((v58' b1.den b1denmagp b1denmagc)).toArray 3 bk' z z z (aM' ((v58' b1.num b1nummagp b1nummagc)) ((v58' b1.den b1denmagp b1denmagc)) ([])))<|cl' (d:=9) (post:=fun G v=>∃ c e,v = .agg ((v58' u c e)).toArray∧sl (Rp.int .u32) G c e u.mag) (fun T U x A=>?_)
 obtain⟨c,e,rfl,g⟩:=A
 obtain⟨W,L,hr⟩:=hr
 refine M' z z (s' E130 z) (ek' L) z (⟨(p.mono x),(s.mono x)⟩) (fun R V E y=>?_)
 obtain⟨P,O,rfl,C⟩:=y
 obtain⟨Z,K,hr⟩:=hr
 refine M' z z (s' E129 z) (fa' K) z (⟨(g.mono E),C⟩) (fun S Y Q B=>?_)
 obtain⟨H,D,I,F,rfl,o,n⟩:=B
 refine v' 4 z sz60 z z z z z (List.all_eq_true.1 z)<|u'<|am'<|e'<|j' ?_
 obtain rfl:_=r:=hr
 exact k' z (ac' (i:=4) ci' z z z) ⟨_,_,_,_,z,o,n⟩
theorem fv'{c1 m1 p1 c1nummagp c1nummagc c1denmagp c1denmagc p1p p1c r}(hr:(ZfV c1 m1 p1).Ret r):Ctr Tryz.prog 92 #[.agg ([.bool c1.num.neg,.slice c1nummagp c1.num.mag.length c1nummagc,.bool c1.den.neg,.slice c1denmagp c1.den.mag.length c1denmagc]).toArray,.agg (vecG (Value.int .i64) 8 m1).toArray,.slice p1p p1.length p1c] (fun G=>sl (Rp.int .u32) G c1nummagp c1nummagc c1.num.mag∧sl (Rp.int .u32) G c1denmagp c1denmagc c1.den.mag∧sl r' G p1p p1c p1) (fun G v=>∃ W Y,v = .tuple #[.slice W r.1.length Y,i' r.2]∧sl r' G W Y r.1):=by
 refine C' (args:=[_,_,_]) (N:=47) Tryz.func92 z z z (fun w0 G0 U ah=>?_)
 obtain⟨H,I,O⟩:=ah
 refine sr<|W' 3 z z z fun b1=>W' 4 z z z fun b2=>sg z z<|sg z z<|nr<|aU' (e:=101) (r:=r') (vs:=#[]) (cs:=[]) ([]:List Zc) z z z z z (by decide) (fun _=>by kernel_rfl) (z) (key:=999) z (by rw[U]; rfl) fun p2 X n ay=>sg z z<|nx<|h'<|sr<|yy (t' 3 ci' z z z) z ?_
 obtain⟨aQ,an,hr⟩:=hr
 refine F' z z (s' E91 z) (ex' an) z (⟨(H.mono n),(I.mono n)⟩)<|yy (ak' z z) z<|nx<|I' hr z (fun aD hr=>?_) (fun aD hr=>?_)
 ·refine sr<|sg z z<|sg z z<|nx<|j' ?_
  replace hr:_=r:=hr
  refine g' ?_
  subst hr
  exact aE' z z z ⟨_,_,z,(ah' r' _)⟩
 ·refine o'<|e'<|h'<|sr<|sg z z<|nx<|aa' (fun (⟨t,C,D,B,J⟩:(List Zc)×Option Addr×Nat×Option Ow×Mem)=>[(8,.slice C t.length D)]) (fun ⟨t,C,D,B,J⟩=>Mem.le X J∧sl r' J C D t∧Tok 12 101 (.slice C t.length D) t.length B∧(ZdQ t).Ret r) (fun ⟨t,C,D,B,J⟩=>St w0 G0 J [(1008,B)]) ?_ ?_
  ·refine B' ?_
   let V:(((List Zc)×Int)⊕(List Zc))→Prop:=fun oo=>((fun ov=>match ov with | .inl rv1=>Comp.ret rv1 | .inr t=>ZdQ t:(((List Zc)×Int)⊕(List Zc))→Comp ((List Zc)×Int)) oo).wp (fun a=>a=r)
   replace hr:(Comp.loop _ _).wp V:=hr
   refine ab' (Φ:=V) (fun (⟨p,q,s,o,P,F⟩:(List Zc)×Option Addr×Nat×Option Ow×Int×Mem)=>((p,P):(List Zc)×Int)) (fun ⟨p,q,s,o,P,F⟩=>[(2,.slice p1p p1.length p1c),(3,.pointer (some ⟨b1,0,none⟩)),(4,.pointer (some ⟨b2,0,none⟩)),(8,.slice q p.length s),(9,i' P)]) (fun ⟨p,q,s,o,P,F⟩=>Mem.le X F∧sl r' F q s p∧Tok 12 101 (.slice q p.length s) p.length o) (fun ⟨p,q,s,o,P,F⟩=>St w0 G0 F [(3,some ⟨b1,.cells ([.bool c1.num.neg,.slice c1nummagp c1.num.mag.length c1nummagc,.bool c1.den.neg,.slice c1denmagp c1.den.mag.length c1denmagc]).toArray 60 (0,0),0⟩),(4,some ⟨b2,.cells (vecG (Value.int .i64) 8 m1).toArray 99 (0,0),0⟩),(1008,o)]) ⟨[],p2,0,none,0,X⟩ hr (fc z (fc z (fc z (fc z (fc z fn))))) ⟨mr,ay,ec'⟩ (wk (lc z (lc z (lw ln)))) ?_
   ·intro aT gx hx hr
    obtain⟨p,q,s,o,P,F⟩:=gx
    obtain⟨m,S,K⟩:=hx
    refine h'<|sr<|mv z z<|mv z z<|yy (L' R' (O.mono (mt n m)) z) z<|yy (V' z z) z<|nx<|I' hr z (fun aw hr=>?_) (fun aw hr=>?_)
    ·refine o'<|e'<|h'<|B'<|h'<|Y' [false,false,false,false,false,false,false,false,false,true,false] mix (by kernel_rfl) fun hb=>cn (fun _ l=>t' 4 bS' z z (O' _ _ _))<|cn (fun _ l=>f' z)<|cn (fun _ l=>f' z) ?_
     obtain⟨x1,ag,hr⟩:=hr
     refine cn (fun _ l=>Q' R' bD' ((O.mono (mt n m)).mono l) z z ag)<|cn (fun _ l=>bm' z)<|cn (fun _ l=>aw' _ bS' z (O' _ _ _) (cW' (E' (E' (aK' (aF' (Z' O ag))) (mt n m)) l))) ?_
     obtain⟨E,aj,hr⟩:=hr
     refine bB' z (fun _=>s' E139 z) (gL' aj) z (fun G' l=>trivial)<|cn (fun _ l=>f' z)<|cn (fun _ l=>K' z z)<|cJ' z (K' z z)<|bq' (fun _=>z) z99<|Chain.tail1 hb fun b3=>v' 10 z sz99 z z z (O' _ _ _) (O' _ _ _) (fun u hu=>Rp.one (cv' .i64 8) (G:=F) (x:=E.1) (cs:=vecG (Value.int .i64) 8 E.1) z u (by first|simpa using hu|simpa [Value.cells] using hu))<|sg z z<|u'<|am'<|e'<|h'<|sr<|mv z z<|yy (aR' z z) z<|nx<|I' hr z (fun aB hr=>?_) (fun aB hr=>?_)
     ·exact (show False from hr).elim
     ·refine o'<|e'<|Y' [true,false,false,false,false,false,false,false,false] mix (by kernel_rfl) fun hb=>cJ' z (f' z)<|cn (fun _ l=>t' 3 ci' z z z)<|cn (fun _ l=>f' z)<|cn (fun _ l=>f' z) ?_
      obtain⟨x2,ab,hr⟩:=hr
      refine cn (fun _ l=>Q' R' bD' ((O.mono (mt n m)).mono l) z z ab)<|cn (fun _ l=>ce' z) ?_
      obtain⟨af,ad,ac,ae,aq,L,M⟩:=dz' (E' (be' (aF' (Z' O ab))) (mt n m))
      refine cn (fun _ l=>aw' _ ci' z z (fun j v hv=>l _ _ _ (aq j v hv))) ?_
      obtain⟨k,ai,hr⟩:=hr
      refine aD' (post:=fun G v=>∃ i c f g,v = .agg ([.bool k.num.neg,.slice i k.num.mag.length c,.bool k.den.neg,.slice f k.den.mag.length g]).toArray∧sl (Rp.int .u32) G i c k.num.mag∧sl (Rp.int .u32) G f g k.den.mag) (fun _=>z) (fun _ _=>s' E84 z) (gc' ai) z (fun G' l=>⟨((H.mono (mt n m)).mono l),((I.mono (mt n m)).mono l),(L.mono l),(M.mono l)⟩) (fun v G1 G2 l h=>?_) ?_
      ·obtain⟨i,c,f,g,rfl,A,y⟩:=h
       exact⟨_,_,_,_,z,A.mono l,y.mono l⟩
      refine cu (fun _ _ l=>t' 10 bS' z z (O' _ _ _))<|cl' (d:=41) (post:=fun G v=>∃ i c f g,v = .agg ([.bool k.num.neg,.slice i k.num.mag.length c,.bool k.den.neg,.slice f k.den.mag.length g]).toArray∧sl (Rp.int .u32) G i c k.num.mag∧sl (Rp.int .u32) G f g k.den.mag) (fun aI aS R T=>?_)
      obtain⟨i,c,f,g,rfl,A,y⟩:=T
      refine yy (aq' (vs:=#[(0,.agg ([.bool k.num.neg,.slice i k.num.mag.length c,.bool k.den.neg,.slice f k.den.mag.length g]).toArray),(1,.agg (vecG (Value.int .i64) 8 E.1).toArray)]) (v:=.agg (([.bool k.num.neg,.slice i k.num.mag.length c,.bool k.den.neg,.slice f k.den.mag.length g]:List Value)++(vecG (Value.int .i64) 8 E.1)).toArray) z z (fun _=>by kernel_rfl)) z<|aU' (e:=101) (r:=r') (vs:=#[(0,.agg (([.bool k.num.neg,.slice i k.num.mag.length c,.bool k.den.neg,.slice f k.den.mag.length g]:List Value)++(vecG (Value.int .i64) 8 E.1)).toArray)]) (cs:=(([.bool k.num.neg,.slice i k.num.mag.length c,.bool k.den.neg,.slice f k.den.mag.length g]:List Value)++(vecG (Value.int .i64) 8 E.1))++([])) ([(Zc.mk k E.1)]:List Zc) z z z z z (by decide) (fun _=>by kernel_rfl) ⟨([.bool k.num.neg,.slice i k.num.mag.length c,.bool k.den.neg,.slice f k.den.mag.length g]:List Value)++(vecG (Value.int .i64) 8 E.1),[],z,⟨[.bool k.num.neg,.slice i k.num.mag.length c,.bool k.den.neg,.slice f k.den.mag.length g],vecG (Value.int .i64) 8 E.1,z,⟨(v58' k.num i c),(v58' k.den f g),z,⟨[.bool k.num.neg],[.slice i k.num.mag.length c],z,z,⟨_,z,A⟩⟩,⟨[.bool k.den.neg],[.slice f k.den.mag.length g],z,z,⟨_,z,y⟩⟩⟩,z⟩,z⟩ (key:=999) z (by rw[U]; rfl) (fun p3 aR Q av=>?_)
      obtain⟨al,hr⟩:=hr
      refine cA' (r:=r') 1008 z z R' el101 z (by decide) z z (S.mono (mt R Q)) z (by rw[U]; rfl) K av al fun p4 aE ak az Z ax am=>sg z z<|u'<|am'<|D'<|e'<|w'<|mv z z<|yy (N' z z) z<|sg z z<|u'<|P' ⟨(p++[(Zc.mk k E.1)]),p4,aE,ak,IntKind.i64.wrap (P+1),az⟩ hr ⟨(mt (mt (mt m R) Q) Z),ax,am⟩ (fc z (fc z (fc z (fc z (fc z fn))))) (wk (lc z (lc z (lc z ln))))
    ·refine ad'<|n'<|n'<|J'<|ae' ⟨p,q,s,o,F⟩ ⟨m,S,K,hr⟩ (fc z fn) (wk (lc z ln))
  ·rintro⟨t,C,D,B,J⟩ ⟨aG,aa,aF,hr⟩
   refine e'<|sr<|mv z z<|sg z z<|sg z z<|nx<|j' ?_
   obtain rfl:_=r:=hr
   exact aE' z z z ⟨_,_,z,aa⟩
theorem fb'{a1 b1 r}(hr:(ZeZ a1 b1).Ret r):Ctr Tryz.prog 90 #[.agg (vecG (Value.int .i64) 8 a1).toArray,.agg (vecG (Value.int .i64) 8 b1).toArray] (fun G=>True) (fun G v=>v=i' r):=by
 refine C' (args:=[_,_]) (N:=24) Tryz.func90 z z z fun t j E C=>sr<|W' 2 z z z fun x=>W' 3 z z z fun s=>sg z z<|nx<|h'<|sr<|sg z z<|nx<|aa' (fun (g:Mem)=>match g with|e=>[]) (fun (g:Mem)=>match g with|e=>Mem.le j e∧(Zfb).Ret r) (fun (g:Mem)=>match g with|e=>St t j e []) ?_ ?_
 ·refine B' ?_
  let i:(Int⊕Unit)→Prop:=fun A=>((fun D=>match D with | .inl rv1=>Comp.ret rv1 | .inr ()=>Zfb:(Int⊕Unit)→Comp Int) A).wp (fun a=>a=r)
  replace hr:(Comp.loop _ _).wp i:=hr
  refine ab' (Φ:=i) (fun (⟨f,d⟩:Int×Mem)=>(f:Int)) (fun ⟨f,d⟩=>[(2,.pointer (some ⟨x,0,none⟩)),(3,.pointer (some ⟨s,0,none⟩)),(5,i' f)]) (fun ⟨f,d⟩=>Mem.le j d) (fun ⟨f,d⟩=>St t j d [(2,some ⟨x,.cells (vecG (Value.int .i64) 8 a1).toArray 99 (0,0),0⟩),(3,some ⟨s,.cells (vecG (Value.int .i64) 8 b1).toArray 99 (0,0),0⟩)]) ⟨0,j⟩ hr (fc z (fc z (fc z fn))) mr (wk (lc z (lc z ln))) ?_
  ·intro F g B hr
   obtain⟨f,d⟩:=g
   have h:=B
   refine h'<|sr<|mv z z<|yy (V' z z) z<|nx<|I' hr z (fun u hr=>?_) (fun u hr=>?_)
   ·refine o'<|e'<|h'<|B'<|h'<|h'<|Y' [false,false,false,false,false,false] mix (by kernel_rfl) fun o=>cn (fun _ c=>f' z) ?_
    obtain⟨n,hr⟩:=hr
    refine cn (fun _ c=>aW' aG' sz3 z z n)<|cn (fun _ c=>b' 2 sc3 z z (by' _ _ _ n))<|cn (fun _ c=>f' z) ?_
    obtain⟨l,hr⟩:=hr
    refine cn (fun _ c=>aW' aG' sz3 z z l)<|cn (fun _ c=>b' 3 sc3 z z (by' _ _ _ l))<|X' o<|yy (V' z z) z<|u'<|am'<|e'<|I' hr z (fun q hr=>?_) (fun q hr=>?_)
    ·refine sr<|sg z z<|nx<|j' ?_
     replace hr:_=r:=hr
     refine g'<|x'<|g'<|g'<|x'<|aI'<|g' ?_
     subst hr
     exact k' z z z
    ·refine o'<|e'<|h'<|Y' [false,false,false,false,false,false] mix (by kernel_rfl) fun o=>cn (fun _ c=>f' z) ?_
     obtain⟨m,hr⟩:=hr
     refine cn (fun _ c=>aW' aG' sz3 z z m)<|cn (fun _ c=>b' 2 sc3 z z (by' _ _ _ m))<|cn (fun _ c=>f' z) ?_
     obtain⟨k,hr⟩:=hr
     refine cn (fun _ c=>aW' aG' sz3 z z k)<|cn (fun _ c=>b' 3 sc3 z z (by' _ _ _ k))<|X' o<|yy (br' z z) z<|u'<|am'<|e'<|I' hr z (fun p hr=>?_) (fun p hr=>?_)
     ·refine sr<|sg z z<|nx<|j' ?_
      replace hr:_=r:=hr
      refine x'<|g'<|g'<|x'<|aI'<|g' ?_
      subst hr
      exact k' z z z
     ·refine o'<|D'<|e'<|w'<|mv z z<|yy (N' z z) z<|sg z z<|u'<|P' ⟨IntKind.i64.wrap (f+1),d⟩ hr h (fc z (fc z (fc z fn))) (wk (lc z (lc z ln)))
   ·refine ad'<|n'<|n'<|J'<|ae' d ⟨h,hr⟩ fn (wk ln)
 ·rintro e ⟨y,hr⟩
  refine e'<|sr<|sg z z<|nx<|j' ?_
  obtain rfl:_=r:=hr
  exact k' z z z
theorem gM'{a1 b1 a1magp a1magc b1magp b1magc r}(hr:(Zkx a1 b1).Ret r):Ctr Tryz.prog 131 #[.agg ((v58' a1 a1magp a1magc)).toArray,.agg ((v58' b1 b1magp b1magc)).toArray] (fun G=>sl (Rp.int .u32) G a1magp a1magc a1.mag∧sl (Rp.int .u32) G b1magp b1magc b1.mag) (fun G v=>∃ y t,v = .agg ((v58' r y t)).toArray∧sl (Rp.int .u32) G y t r.mag):=by
 refine C' (args:=[_,_]) (N:=40) Tryz.func131 z z z (fun w0 G0 au O=>?_)
 obtain⟨n,m⟩:=O
 refine sr<|W' 2 z z z fun b2=>W' 3 z z z fun b3=>T' 4 z z58 z fun b4=>nx<|h'<|sr<|yy (bl' z) z<|yy (b' 2 sc4 z z z) z<|yy (bl' z) z<|yy (b' 3 sc4 z z z) z<|yy (Y0.eqlB bH' z z) z<|nx<|I' hr z (fun ae hr=>?_) (fun ae hr=>?_)
 ·refine h'<|Y' [false,false,false,false,false,false,false] mix (by kernel_rfl) fun hb=>cn (fun _ c=>bl' z)<|cn (fun _ c=>b' 2 sc4 z z z)<|cn (fun _ c=>aO' z)<|cn (fun _ c=>b' 2 bG' z z z)<|cn (fun _ c=>aO' z)<|cn (fun _ c=>b' 3 bG' z z z) ?_
  obtain⟨s,S,hr⟩:=hr
  refine aD' (post:=fun G v=>∃ e l,v = .slice e s.length l∧sl (Rp.int .u32) G e l s) (fun _=>z) (fun _ _=>s' E166 z) (gw' S) z (fun Z c=>⟨(n.mono c),(m.mono c)⟩) (fun v G1 G2 c h=>?_) ?_
  ·obtain⟨e,l,rfl,q⟩:=h
   exact⟨_,_,z,q.mono c⟩
  refine cl' (d:=16) (post:=fun G v=>∃ e l,v = .slice e s.length l∧sl (Rp.int .u32) G e l s) (fun aq aC ai D=>?_)
  obtain⟨e,l,rfl,q⟩:=D
  obtain⟨aD,R,hr⟩:=hr
  refine M' z z (s' E127 z) (cz' R) z (q) (fun ap ar ak I=>?_)
  obtain⟨X,T,rfl,F⟩:=I
  refine v' 4 z sz58 z z z z z (List.all_eq_true.1 z)<|u'<|am'<|e'<|j' ?_
  replace hr:_=r:=hr
  refine g' ?_
  subst hr
  exact k' z (ac' (i:=4) bk' z z z) ⟨_,_,z,F⟩
 ·refine o'<|e'<|h'<|sr<|yy (aO' z) z<|yy (b' 2 bG' z z z) z<|yy (aO' z) z<|yy (b' 3 bG' z z z) z ?_
  obtain⟨ay,P,hr⟩:=hr
  refine F' z z (s' E167 z) (cO' P) z (⟨n,m⟩)<|yy (V' z z) z<|nx<|I' hr z (fun ad hr=>?_) (fun ad hr=>?_)
  ·refine h'<|Y' [false,false,false,false,false,false,false] mix (by kernel_rfl) fun hb=>cn (fun _ c=>bl' z)<|cn (fun _ c=>b' 3 sc4 z z z)<|cn (fun _ c=>aO' z)<|cn (fun _ c=>b' 3 bG' z z z)<|cn (fun _ c=>aO' z)<|cn (fun _ c=>b' 2 bG' z z z) ?_
   obtain⟨x,K,hr⟩:=hr
   refine aD' (post:=fun G v=>∃ g j,v = .slice g x.length j∧sl (Rp.int .u32) G g j x) (fun _=>z) (fun _ _=>s' E168 z) (ft' K) z (fun Z c=>⟨(m.mono c),(n.mono c)⟩) (fun v G1 G2 c h=>?_) ?_
   ·obtain⟨g,j,rfl,p⟩:=h
    exact⟨_,_,z,p.mono c⟩
   refine cl' (d:=30) (post:=fun G v=>∃ g j,v = .slice g x.length j∧sl (Rp.int .u32) G g j x) (fun al aw ag J=>?_)
   obtain⟨g,j,rfl,p⟩:=J
   obtain⟨av,M,hr⟩:=hr
   refine M' z z (s' E127 z) (cz' M) z (p) (fun ao ax aj B=>?_)
   obtain⟨Y,V,rfl,E⟩:=B
   refine v' 4 z sz58 z z z z z (List.all_eq_true.1 z)<|u'<|am'<|e'<|j' ?_
   replace hr:_=r:=hr
   refine g' ?_
   subst hr
   exact k' z (ac' (i:=4) bk' z z z) ⟨_,_,z,E⟩
  ·refine o'<|e'<|h'<|Y' [false,false,false,false,false,false,false] mix (by kernel_rfl) fun hb=>cn (fun _ c=>bl' z)<|cn (fun _ c=>b' 2 sc4 z z z)<|cn (fun _ c=>aO' z)<|cn (fun _ c=>b' 2 bG' z z z)<|cn (fun _ c=>aO' z)<|cn (fun _ c=>b' 3 bG' z z z) ?_
   obtain⟨u,L,hr⟩:=hr
   refine aD' (post:=fun G v=>∃ f k,v = .slice f u.length k∧sl (Rp.int .u32) G f k u) (fun _=>z) (fun _ _=>s' E168 z) (ft' L) z (fun Z c=>⟨(n.mono c),(m.mono c)⟩) (fun v G1 G2 c h=>?_) ?_
   ·obtain⟨f,k,rfl,o⟩:=h
    exact⟨_,_,z,o.mono c⟩
   refine cl' (d:=38) (post:=fun G v=>∃ f k,v = .slice f u.length k∧sl (Rp.int .u32) G f k u) (fun an aB af H=>?_)
   obtain⟨f,k,rfl,o⟩:=H
   obtain⟨aA,Q,hr⟩:=hr
   refine M' z z (s' E127 z) (cz' Q) z (o) (fun am az ah C=>?_)
   obtain⟨U,W,rfl,A⟩:=C
   refine v' 4 z sz58 z z z z z (List.all_eq_true.1 z)<|u'<|am'<|e'<|j' ?_
   obtain rfl:_=r:=hr
   exact k' z (ac' (i:=4) bk' z z z) ⟨_,_,z,A⟩
theorem gN'{a1 b1 a1nummagp a1nummagc a1denmagp a1denmagc b1nummagp b1nummagc b1denmagp b1denmagc r}(hr:(ZgE a1 b1).Ret r):Ctr Tryz.prog 86 #[.agg ([.bool a1.num.neg,.slice a1nummagp a1.num.mag.length a1nummagc,.bool a1.den.neg,.slice a1denmagp a1.den.mag.length a1denmagc]).toArray,.agg ([.bool b1.num.neg,.slice b1nummagp b1.num.mag.length b1nummagc,.bool b1.den.neg,.slice b1denmagp b1.den.mag.length b1denmagc]).toArray] (fun G=>sl (Rp.int .u32) G a1nummagp a1nummagc a1.num.mag∧sl (Rp.int .u32) G a1denmagp a1denmagc a1.den.mag∧sl (Rp.int .u32) G b1nummagp b1nummagc b1.num.mag∧sl (Rp.int .u32) G b1denmagp b1denmagc b1.den.mag) (fun G v=>∃ A y x t,v = .agg ([.bool r.num.neg,.slice A r.num.mag.length y,.bool r.den.neg,.slice x r.den.mag.length t]).toArray∧sl (Rp.int .u32) G A y r.num.mag∧sl (Rp.int .u32) G x t r.den.mag):=by
 refine C' (args:=[_,_]) (N:=22) Tryz.func86 z z z (fun w0 G0 av ab=>?_)
 obtain⟨F,q,H,s⟩:=ab
 refine sr<|W' 2 z z z fun b2=>W' 3 z z z fun b3=>T' 4 z z60 z fun b4=>nx<|h'<|Y' [false,false,false,false,false,false,false,false,false,false,false,false,false,false,false] mix (by kernel_rfl) fun hb=>cn (fun _ k=>cn' z)<|cn (fun _ k=>av' ((v58' a1.num a1nummagp a1nummagc)).toArray 2 bk' z z z (aM' ([]) ((v58' a1.num a1nummagp a1nummagc)) ((v58' a1.den a1denmagp a1denmagc))))<|cn (fun _ k=>bW' z)<|cn (fun _ k=>av' ((v58' b1.den b1denmagp b1denmagc)).toArray 3 bk' z z z (aM' ((v58' b1.num b1nummagp b1nummagc)) ((v58' b1.den b1denmagp b1denmagc)) ([]))) ?_
 obtain⟨B,ae,hr⟩:=hr
 refine aD' (post:=fun G v=>∃ g j,v = .agg ((v58' B g j)).toArray∧sl (Rp.int .u32) G g j B.mag) (fun _=>z) (fun _ _=>s' E130 z) (ek' ae) z (fun S k=>⟨(F.mono k),(s.mono k)⟩) (fun v G1 G2 k h=>?_) ?_
 ·obtain⟨g,j,rfl,n⟩:=h
  exact⟨_,_,z,n.mono k⟩
 refine cu (fun _ _ k=>cn' z)<|cu (fun _ _ k=>av' ((v58' b1.num b1nummagp b1nummagc)).toArray 3 bk' z z z (aM' ([]) ((v58' b1.num b1nummagp b1nummagc)) ((v58' b1.den b1denmagp b1denmagc))))<|cu (fun _ _ k=>bW' z)<|cu (fun _ _ k=>av' ((v58' a1.den a1denmagp a1denmagc)).toArray 2 bk' z z z (aM' ((v58' a1.num a1nummagp a1nummagc)) ((v58' a1.den a1denmagp a1denmagc)) ([]))) ?_
 obtain⟨C,ad,hr⟩:=hr
 refine aD' (post:=fun G v=>∃ e c,v = .agg ((v58' C e c)).toArray∧sl (Rp.int .u32) G e c C.mag) (fun _=>z) (fun _ _=>s' E130 z) (ek' ad) z (fun S k=>⟨(H.mono k),(q.mono k)⟩) (fun v G1 G2 k h=>?_) ?_
 ·obtain⟨e,c,rfl,o⟩:=h
  exact⟨_,_,z,o.mono k⟩
 obtain⟨J,ac,hr⟩:=hr
 refine cR' (f:=131) (φ:=fun G v=>∃ m l,v = .agg ((v58' J m l)).toArray∧sl (Rp.int .u32) G m l J.mag) (fun _=>z) (fun v G1 G2 k h=>?_) (fun u S k hu=>?_) ?_
 ·obtain⟨m,l,rfl,p⟩:=h
  exact⟨_,_,z,p.mono k⟩
 ·obtain⟨⟨e,c,W,o⟩,⟨g,j,X,n⟩,_⟩:=(show (fun G v=>∃ e c,v = .agg ((v58' C e c)).toArray∧sl (Rp.int .u32) G e c C.mag) S.m (u 14)∧(fun G v=>∃ g j,v = .agg ((v58' B g j)).toArray∧sl (Rp.int .u32) G g j B.mag) S.m (u 9)∧True from hu)
  exact⟨_,_,_,fun _=>s' E131 z,gM' ac,(by simp only[W,X] <;> rfl),⟨n,o⟩⟩
 refine cu (fun _ _ k=>bW' z)<|cu (fun _ _ k=>av' ((v58' a1.den a1denmagp a1denmagc)).toArray 2 bk' z z z (aM' ((v58' a1.num a1nummagp a1nummagc)) ((v58' a1.den a1denmagp a1denmagc)) ([])))<|cu (fun _ _ k=>bW' z)<|cu (fun _ _ k=>av' ((v58' b1.den b1denmagp b1denmagc)).toArray 3 bk' z z z (aM' ((v58' b1.num b1nummagp b1nummagc)) ((v58' b1.den b1denmagp b1denmagc)) ([])))<|Chain.tailU3 (d:=15) (post:=fun G v=>∃ m l,v = .agg ((v58' J m l)).toArray∧sl (Rp.int .u32) G m l J.mag) (d':=14) (post':=fun G v=>∃ e c,v = .agg ((v58' C e c)).toArray∧sl (Rp.int .u32) G e c C.mag) (d'':=9) (post'':=fun G v=>∃ g j,v = .agg ((v58' B g j)).toArray∧sl (Rp.int .u32) G g j B.mag) (fun al ak am ar I P M O=>?_)
 obtain⟨m,l,rfl,p⟩:=P
 obtain⟨e,c,rfl,o⟩:=M
 obtain⟨g,j,rfl,n⟩:=O
 obtain⟨aq,Z,hr⟩:=hr
 refine M' z z (s' E130 z) (ek' Z) z (⟨(q.mono I),(s.mono I)⟩) (fun ap au R Q=>?_)
 obtain⟨af,ag,rfl,K⟩:=Q
 obtain⟨ax,aa,hr⟩:=hr
 refine M' z z (s' E129 z) (fa' aa) z (⟨(p.mono R),K⟩) (fun an aw aj L=>?_)
 obtain⟨V,Y,U,T,rfl,E,D⟩:=L
 refine v' 4 z sz60 z z z z z (List.all_eq_true.1 z)<|u'<|am'<|e'<|j' ?_
 obtain rfl:_=r:=hr
 exact k' z (ac' (i:=4) ci' z z z) ⟨_,_,_,_,z,E,D⟩
theorem eC'{a0_1 a1_1 a0_1p a0_1c a1_1p a1_1c r}(hr:(ZcJ a0_1 a1_1).Ret r):Ctr Tryz.prog 57 #[.slice a0_1p a0_1.length a0_1c,.slice a1_1p a1_1.length a1_1c] (fun G=>sl r' G a0_1p a0_1c a0_1∧sl r' G a1_1p a1_1c a1_1) (fun G v=>∃ zp zc,v = .slice zp r.length zc∧sl r' G zp zc r):=by
 refine C' (args:=[_,_]) (N:=109) Tryz.func57 z z z (fun w0 G0 ao bm=>?_)
 obtain⟨q,K⟩:=bm
 refine sr<|sg z z<|nr<|aU' (e:=101) (r:=r') (vs:=#[]) (cs:=[]) ([]:List Zc) z z z z z (by decide) (fun _=>by kernel_rfl) (z) (key:=999) z (by rw[ao]; rfl) fun p1 aT m b0=>sg z z<|nr<|sg z z<|sg z z<|nx<|h'<|aa' (fun (⟨V,af,ac,aa,aq⟩:(List Zc)×Option Addr×Nat×Option Ow×Mem)=>[(5,.slice af V.length ac)]) (fun ⟨V,af,ac,aa,aq⟩=>Mem.le aT aq∧sl r' aq af ac V∧Tok 12 101 (.slice af V.length ac) V.length aa∧(Zfe V).Ret r) (fun ⟨V,af,ac,aa,aq⟩=>St w0 G0 aq [(1005,aa)]) ?_ ?_
 ·refine B' ?_
  let aj:(List Zc)→Prop:=fun oo=>((fun ov=>match ov with|V=>Zfe V:(List Zc)→Comp (List Zc)) oo).wp (fun a=>a=r)
  replace hr:(Comp.loop _ _).wp aj:=hr
  refine ab' (Φ:=aj) (fun (⟨D,H,F,E,L,p,ab⟩:(List Zc)×Option Addr×Nat×Option Ow×Int×Int×Mem)=>((D,L,p):(List Zc)×Int×Int)) (fun ⟨D,H,F,E,L,p,ab⟩=>[(0,.slice a0_1p a0_1.length a0_1c),(1,.slice a1_1p a1_1.length a1_1c),(5,.slice H D.length F),(6,i' L),(7,i' p)]) (fun ⟨D,H,F,E,L,p,ab⟩=>Mem.le aT ab∧sl r' ab H F D∧Tok 12 101 (.slice H D.length F) D.length E) (fun ⟨D,H,F,E,L,p,ab⟩=>St w0 G0 ab [(1005,E)]) ⟨[],p1,0,none,0,0,aT⟩ hr (fc z (fc z (fc z (fc z (fc z fn))))) ⟨mr,b0,ec'⟩ (wk (lw ln)) ?_
  ·intro aF gx hx hr
   obtain⟨D,H,F,E,L,p,ab⟩:=gx
   obtain⟨d,aA,an⟩:=hx
   refine aV' (fun (gx:Mem)=>match gx with|ag=>[(0,.slice a0_1p a0_1.length a0_1c),(1,.slice a1_1p a1_1.length a1_1c),(5,.slice H D.length F),(6,i' L),(7,i' p)]) (fun (gx:Mem)=>match gx with|ag=>Mem.le ab ag∧(Za8 a0_1 a1_1 D L p).wp (Out aF aj)) (fun (gx:Mem)=>match gx with|ag=>St w0 G0 ag [(1005,E)]) ?_ ?_
   ·skip
    refine sr<|mv z z<|mv z z<|yy (L' R' (q.mono (mt m d)) z) z<|aj' hr z (V' z z) z (fun bT hr=>?_) (fun bT hr=>?_)
    ·refine mv z z<|sf z z z<|sf z z z<|sf z z z<|sf z z z<|yy (m' z z) z<|nx<|at' z<|o'<|ap' ab ⟨mr,hr⟩ (fc z (fc z (fc z (fc z (fc z fn))))) (wk (lc z ln))
    ·refine mv z z<|gy z z (f' z) z<|gy z z (f' z) z<|gy z z (L' R' (K.mono (mt m d)) z) z<|gy z z (V' z z) z<|yy (l' z z) z<|nx<|I' hr z (fun bY hr=>?_) (fun bY hr=>?_)
     ·refine o'<|ap' ab ⟨mr,hr⟩ (fc z (fc z (fc z (fc z (fc z fn))))) (wk (lc z ln))
     ·refine ad'<|n'<|n'<|J'<|ae' ⟨D,H,F,E,ab⟩ ⟨d,aA,an,hr⟩ (fc z fn) (wk (lc z ln))
   ·rintro ag ⟨f,hr⟩
    refine B'<|aV' (fun (⟨M,T,S,R,O,ah⟩:(List Zc)×Option Addr×Nat×Option Ow×Int×Mem)=>[(0,.slice a0_1p a0_1.length a0_1c),(1,.slice a1_1p a1_1.length a1_1c),(5,.slice T M.length S),(6,i' O),(7,i' p)]) (fun ⟨M,T,S,R,O,ah⟩=>Mem.le ag ah∧sl r' ah T S M∧Tok 12 101 (.slice T M.length S) M.length R∧(Zch a0_1 a1_1 p M O).wp (Out aF aj)) (fun ⟨M,T,S,R,O,ah⟩=>St w0 G0 ah [(1005,R)]) ?_ ?_
    ·skip
     refine aV' (fun (⟨ak,au⟩:Bool×Mem)=>[(0,.slice a0_1p a0_1.length a0_1c),(1,.slice a1_1p a1_1.length a1_1c),(5,.slice H D.length F),(6,i' L),(7,i' p),(43,.bool ak)]) (fun ⟨ak,au⟩=>Mem.le ag au∧(ZaJ a0_1 a1_1 D L p ak).wp (Out aF aj)) (fun ⟨ak,au⟩=>St w0 G0 au [(1005,E)]) ?_ ?_
     ·skip
      refine Y' [false,false,false,false,false,false,false,false,false,false,false,false,false,false,false,false,false,false,false,false] mix (by kernel_rfl) fun hb=>cn (fun _ c=>f' z)<|cn (fun _ c=>f' z)<|cn (fun _ c=>L' R' ((K.mono (mt (mt m d) f)).mono c) z)<|bY' hr z (fun _ c=>ak' z z) (fun bz hr=>?_) (fun bz hr=>?_)
      ·refine cn (fun _ c=>f' z)<|cf z z<|cf z z<|cf z z<|cf z z<|cf z z<|cs z z<|cs z z<|cs z z<|cs z z<|cs z z<|cs z z<|cs z z<|cs z z<|cs z z<|cs z z<|X' hb<|aB' (af' z z) z<|aB' (af' z z) z<|sf z z z<|yy (m' z z) z<|u'<|am'<|ap' ⟨true,ag⟩ ⟨mr,hr⟩ (fc z (fc z (fc z (fc z (fc z (fc z fn)))))) (wk (lc z ln))
      ·refine cn (fun _ c=>f' z)<|cy z z (fun _ c=>f' z)<|cy z z (fun _ c=>f' z)<|cy z z (fun _ c=>L' R' ((q.mono (mt (mt m d) f)).mono c) z)<|bY' hr (H' z z) (fun _ c=>V' z z) (fun bG hr=>?_) (fun bG hr=>?_)
       ·refine cy z z (fun _ c=>f' z)<|cy z z (fun _ c=>f' z)<|cy z z (fun _ c=>f' z) ?_
        obtain⟨x8,a8,hr⟩:=hr
        refine cy z z (fun _ c=>Q' R' bD' ((q.mono (mt (mt m d) f)).mono c) z z a8)<|cy z z (fun _ c=>bm' z)<|cy z z (fun _ c=>aw' _ bS' z (O' _ _ _) (cW' (E' (E' (aK' (aF' (Z' q a8))) (mt (mt m d) f)) c)))<|cy z z (fun _ c=>f' z)<|cy z z (fun _ c=>f' z) ?_
        obtain⟨x9,bd,hr⟩:=hr
        refine cy z z (fun _ c=>Q' R' bD' ((K.mono (mt (mt m d) f)).mono c) z z bd)<|cy z z (fun _ c=>bm' z)<|cy z z (fun _ c=>aw' _ bS' z (O' _ _ _) (cW' (E' (E' (aK' (aF' (Z' K bd))) (mt (mt m d) f)) c)))<|X' hb ?_
        obtain⟨bN,bf,hr⟩:=hr
        refine F' (H' z z) z (s' E90 z) (fb' bf) z (trivial)<|gy z z (br' z z) z<|gy z z (m' z z) z<|yy (l' z z) z<|u'<|am'<|ap' ⟨decide (0<bN),ag⟩ ⟨mr,hr⟩ (fc z (fc z (fc z (fc z (fc z (fc z fn)))))) (wk (lc z ln))
       ·refine cy z z (fun _ c=>f' z)<|ct z z<|ct z z<|ct z z<|ct z z<|ct z z<|ct z z<|ct z z<|ct z z<|ct z z<|ct z z<|X' hb<|sk z z z<|sk z z z<|gy z z (l' z z) z<|yy (l' z z) z<|u'<|am'<|ap' ⟨false,ag⟩ ⟨mr,hr⟩ (fc z (fc z (fc z (fc z (fc z (fc z fn)))))) (wk (lc z ln))
     ·rintro⟨ak,au⟩ ⟨ae,hr⟩
      refine aN' hr z (fun bW hr=>?_) (fun bW hr=>?_)
      ·refine sr<|mv z z<|mv z z<|mv z z ?_
       obtain⟨I,bc,hr⟩:=hr
       refine yy (Q' R' bD' (q.mono (mt (mt (mt m d) f) ae)) z z bc) z ?_
       obtain⟨u,x,s,A,bC,av,ax⟩:=cB' (E' (Z' q bc) (mt (mt (mt m d) f) ae))
       refine yy (aw' _ ag101 z z bC) z<|aU' (e:=101) (r:=r') (vs:=#[(0,.agg (([.bool I.c.num.neg,.slice u I.c.num.mag.length x,.bool I.c.den.neg,.slice s I.c.den.mag.length A]:List Value)++(vecG (Value.int .i64) 8 I.m)).toArray)]) (cs:=(([.bool I.c.num.neg,.slice u I.c.num.mag.length x,.bool I.c.den.neg,.slice s I.c.den.mag.length A]:List Value)++(vecG (Value.int .i64) 8 I.m))++([])) ([I]:List Zc) z z z z z (by decide) (fun _=>by kernel_rfl) ⟨([.bool I.c.num.neg,.slice u I.c.num.mag.length x,.bool I.c.den.neg,.slice s I.c.den.mag.length A]:List Value)++(vecG (Value.int .i64) 8 I.m),[],z,⟨[.bool I.c.num.neg,.slice u I.c.num.mag.length x,.bool I.c.den.neg,.slice s I.c.den.mag.length A],vecG (Value.int .i64) 8 I.m,z,⟨(v58' I.c.num u x),(v58' I.c.den s A),z,⟨[.bool I.c.num.neg],[.slice u I.c.num.mag.length x],z,z,⟨_,z,av⟩⟩,⟨[.bool I.c.den.neg],[.slice s I.c.den.mag.length A],z,z,⟨_,z,ax⟩⟩⟩,z⟩,z⟩ (key:=999) z (by rw[ao]; rfl) (fun p6 cc aO bJ=>?_)
       obtain⟨bk,hr⟩:=hr
       refine cA' (r:=r') 1005 z z R' el101 z (by decide) z z (aA.mono (mt (mt f ae) aO)) z (by rw[ao]; rfl) an bJ bk fun p7 bF bt bU aX bB bq=>sg z z<|nr<|mv z z<|yy (N' z z) z<|sg z z<|nx<|ad'<|n'<|J'<|P' ⟨(D++[I]),p7,bF,bt,IntKind.i64.wrap (L+1),p,bU⟩ hr ⟨(mt (mt (mt (mt d f) ae) aO) aX),bB,bq⟩ (fc z (fc z (fc z (fc z (fc z fn))))) (wk (lc z ln))
      ·refine o'<|ap' ⟨D,H,F,E,L,au⟩ ⟨ae,(aA.mono (mt f ae)),an,hr⟩ (fc z (fc z (fc z (fc z (fc z fn))))) (wk (lc z ln))
    ·rintro⟨M,T,S,R,O,ah⟩ ⟨o,aP,aE,hr⟩
     refine aV' (fun (⟨W,Z,Y,X,ai,ap⟩:(List Zc)×Option Addr×Nat×Option Ow×Int×Mem)=>[(0,.slice a0_1p a0_1.length a0_1c),(1,.slice a1_1p a1_1.length a1_1c),(5,.slice Z W.length Y),(6,i' O),(7,i' ai)]) (fun ⟨W,Z,Y,X,ai,ap⟩=>Mem.le ah ap∧sl r' ap Z Y W∧Tok 12 101 (.slice Z W.length Y) W.length X∧(Zff a0_1 a1_1 O W ai).wp (Out aF aj)) (fun ⟨W,Z,Y,X,ai,ap⟩=>St w0 G0 ap [(1005,X)]) ?_ ?_
     ·skip
      refine aV' (fun (⟨al,ar⟩:Bool×Mem)=>[(0,.slice a0_1p a0_1.length a0_1c),(1,.slice a1_1p a1_1.length a1_1c),(5,.slice T M.length S),(6,i' O),(7,i' p),(70,.bool al)]) (fun ⟨al,ar⟩=>Mem.le ah ar∧(Zcg a0_1 a1_1 p M O al).wp (Out aF aj)) (fun ⟨al,ar⟩=>St w0 G0 ar [(1005,R)]) ?_ ?_
      ·skip
       refine Y' [false,false,false,false,false,false,false,false,false,false,false,false,false,false,false] mix (by kernel_rfl) fun hb=>cn (fun _ c=>f' z)<|cn (fun _ c=>f' z)<|cn (fun _ c=>L' R' ((q.mono (mt (mt (mt m d) f) o)).mono c) z)<|bY' hr z (fun _ c=>ak' z z) (fun bH hr=>?_) (fun bH hr=>?_)
       ·refine cn (fun _ c=>f' z)<|cf z z<|cf z z<|cf z z<|cf z z<|cf z z<|cf z z<|cf z z<|cf z z<|cf z z<|cf z z<|X' hb<|sf z z z<|sf z z z<|yy (m' z z) z<|u'<|am'<|ap' ⟨true,ah⟩ ⟨mr,hr⟩ (fc z (fc z (fc z (fc z (fc z (fc z fn)))))) (wk (lc z ln))
       ·refine cn (fun _ c=>f' z)<|cy z z (fun _ c=>f' z)<|cy z z (fun _ c=>f' z) ?_
        obtain⟨x5,a2,hr⟩:=hr
        refine cy z z (fun _ c=>Q' R' bD' ((q.mono (mt (mt (mt m d) f) o)).mono c) z z a2)<|cy z z (fun _ c=>bm' z)<|cy z z (fun _ c=>aw' _ bS' z (O' _ _ _) (cW' (E' (E' (aK' (aF' (Z' q a2))) (mt (mt (mt m d) f) o)) c)))<|cy z z (fun _ c=>f' z)<|cy z z (fun _ c=>f' z) ?_
        obtain⟨x6,a5,hr⟩:=hr
        refine cy z z (fun _ c=>Q' R' bD' ((K.mono (mt (mt (mt m d) f) o)).mono c) z z a5)<|cy z z (fun _ c=>bm' z)<|cy z z (fun _ c=>aw' _ bS' z (O' _ _ _) (cW' (E' (E' (aK' (aF' (Z' K a5))) (mt (mt (mt m d) f) o)) c)))<|X' hb ?_
        obtain⟨bV,bn,hr⟩:=hr
        refine F' (H' z z) z (s' E90 z) (fb' bn) z (trivial)<|gy z z (V' z z) z<|yy (l' z z) z<|u'<|am'<|ap' ⟨decide (bV<0),ah⟩ ⟨mr,hr⟩ (fc z (fc z (fc z (fc z (fc z (fc z fn)))))) (wk (lc z ln))
      ·rintro⟨al,ar⟩ ⟨ad,hr⟩
       refine aN' hr z (fun bL hr=>?_) (fun bL hr=>?_)
       ·refine sr<|mv z z<|mv z z<|mv z z ?_
        obtain⟨J,aY,hr⟩:=hr
        refine yy (Q' R' bD' (K.mono (mt (mt (mt (mt m d) f) o) ad)) z z aY) z ?_
        obtain⟨C,y,B,t,bO,ay,az⟩:=cB' (E' (Z' K aY) (mt (mt (mt (mt m d) f) o) ad))
        refine yy (aw' _ ag101 z z bO) z<|aU' (e:=101) (r:=r') (vs:=#[(0,.agg (([.bool J.c.num.neg,.slice C J.c.num.mag.length y,.bool J.c.den.neg,.slice B J.c.den.mag.length t]:List Value)++(vecG (Value.int .i64) 8 J.m)).toArray)]) (cs:=(([.bool J.c.num.neg,.slice C J.c.num.mag.length y,.bool J.c.den.neg,.slice B J.c.den.mag.length t]:List Value)++(vecG (Value.int .i64) 8 J.m))++([])) ([J]:List Zc) z z z z z (by decide) (fun _=>by kernel_rfl) ⟨([.bool J.c.num.neg,.slice C J.c.num.mag.length y,.bool J.c.den.neg,.slice B J.c.den.mag.length t]:List Value)++(vecG (Value.int .i64) 8 J.m),[],z,⟨[.bool J.c.num.neg,.slice C J.c.num.mag.length y,.bool J.c.den.neg,.slice B J.c.den.mag.length t],vecG (Value.int .i64) 8 J.m,z,⟨(v58' J.c.num C y),(v58' J.c.den B t),z,⟨[.bool J.c.num.neg],[.slice C J.c.num.mag.length y],z,z,⟨_,z,ay⟩⟩,⟨[.bool J.c.den.neg],[.slice B J.c.den.mag.length t],z,z,⟨_,z,az⟩⟩⟩,z⟩,z⟩ (key:=999) z (by rw[ao]; rfl) (fun p4 ce aQ bP=>?_)
        obtain⟨bh,hr⟩:=hr
        refine cA' (r:=r') 1005 z z R' el101 z (by decide) z z (aP.mono (mt ad aQ)) z (by rw[ao]; rfl) aE bP bh fun p5 bI bg bX aU bv bl=>sg z z<|nr<|mv z z<|yy (N' z z) z<|sg z z<|nx<|ad'<|n'<|J'<|P' ⟨(M++[J]),p5,bI,bg,O,IntKind.i64.wrap (p+1),bX⟩ hr ⟨(mt (mt (mt (mt (mt d f) o) ad) aQ) aU),bv,bl⟩ (fc z (fc z (fc z (fc z (fc z fn))))) (wk (lc z ln))
       ·refine o'<|ap' ⟨M,T,S,R,p,ar⟩ ⟨ad,(aP.mono ad),aE,hr⟩ (fc z (fc z (fc z (fc z (fc z fn))))) (wk (lc z ln))
     ·rintro⟨W,Z,Y,X,ai,ap⟩ ⟨U,aN,aK,hr⟩
      refine h'<|Y' [false,false,false,false,false,false,false,false,false,false,false,false] mix (by kernel_rfl) fun hb=>cn (fun _ c=>f' z)<|cn (fun _ c=>f' z) ?_
      obtain⟨x1,be,hr⟩:=hr
      refine cn (fun _ c=>Q' R' bD' ((q.mono (mt (mt (mt (mt m d) f) o) U)).mono c) z z be)<|cn (fun _ c=>ce' z) ?_
      obtain⟨bb,a6,a1,a9,bD,aG,aI⟩:=dz' (E' (be' (aF' (Z' q be))) (mt (mt (mt (mt m d) f) o) U))
      refine cn (fun _ c=>aw' _ ci' z z (fun j v hv=>c _ _ _ (bD j v hv)))<|cn (fun _ c=>f' z)<|cn (fun _ c=>f' z) ?_
      obtain⟨x2,a0,hr⟩:=hr
      refine cn (fun _ c=>Q' R' bD' ((K.mono (mt (mt (mt (mt m d) f) o) U)).mono c) z z a0)<|cn (fun _ c=>ce' z) ?_
      obtain⟨aZ,a3,a4,ba,bA,aH,aJ⟩:=dz' (E' (be' (aF' (Z' K a0))) (mt (mt (mt (mt m d) f) o) U))
      refine cn (fun _ c=>aw' _ ci' z z (fun j v hv=>c _ _ _ (bA j v hv))) ?_
      obtain⟨n,bu,hr⟩:=hr
      refine aD' (post:=fun G v=>∃ k l i g,v = .agg ([.bool n.num.neg,.slice k n.num.mag.length l,.bool n.den.neg,.slice i n.den.mag.length g]).toArray∧sl (Rp.int .u32) G k l n.num.mag∧sl (Rp.int .u32) G i g n.den.mag) (fun _=>z) (fun _ _=>s' E86 z) (gN' bu) z (fun G' c=>⟨(aG.mono c),(aI.mono c),(aH.mono c),(aJ.mono c)⟩) (fun v G1 G2 c h=>?_) ?_
      ·obtain⟨k,l,i,g,rfl,Q,P⟩:=h
       exact⟨_,_,_,_,z,Q.mono c,P.mono c⟩
      refine bq' (fun _=>z) z60<|du' (fun cb b9 X1 am aS aR=>?_)
      obtain⟨b1,rfl,br⟩:=aS
      obtain⟨k,l,i,g,rfl,Q,P⟩:=aR
      refine cj' br (bZ' (show WL _ _ _ _ _ _ (St w0 G0 X1.m _) from ?_))
      refine v' 8 z sz60 z z z z z (List.all_eq_true.1 z)<|u'<|am'<|e'<|h'<|sr<|yy (t' 8 ci' z z z) z ?_
      obtain⟨cg,bp,hr⟩:=hr
      refine F' z z (s' E91 z) (ex' bp) z (⟨Q,P⟩)<|yy (aR' z z) z<|nx<|I' hr z (fun bZ hr=>?_) (fun bZ hr=>?_)
      ·refine Y' [true,false,false,false,false,false,false] mix (by kernel_rfl) fun hb=>cJ' z (f' z)<|cn (fun _ c=>t' 8 ci' z z z)<|cn (fun _ c=>f' z)<|cn (fun _ c=>f' z) ?_
       obtain⟨x3,a7,hr⟩:=hr
       refine cn (fun _ c=>Q' R' bD' ((q.mono (mt (mt (mt (mt (mt m d) f) o) U) am)).mono c) z z a7)<|cn (fun _ c=>bm' z)<|cn (fun _ c=>aw' _ bS' z (O' _ _ _) (cW' (E' (E' (aK' (aF' (Z' q a7))) (mt (mt (mt (mt (mt m d) f) o) U) am)) c)))<|X' hb<|yy (aq' (vs:=#[(0,.agg ([.bool n.num.neg,.slice k n.num.mag.length l,.bool n.den.neg,.slice i n.den.mag.length g]).toArray),(1,.agg (vecG (Value.int .i64) 8 x3.m).toArray)]) (v:=.agg (([.bool n.num.neg,.slice k n.num.mag.length l,.bool n.den.neg,.slice i n.den.mag.length g]:List Value)++(vecG (Value.int .i64) 8 x3.m)).toArray) z z (fun _=>by kernel_rfl)) z<|aU' (e:=101) (r:=r') (vs:=#[(0,.agg (([.bool n.num.neg,.slice k n.num.mag.length l,.bool n.den.neg,.slice i n.den.mag.length g]:List Value)++(vecG (Value.int .i64) 8 x3.m)).toArray)]) (cs:=(([.bool n.num.neg,.slice k n.num.mag.length l,.bool n.den.neg,.slice i n.den.mag.length g]:List Value)++(vecG (Value.int .i64) 8 x3.m))++([])) ([(Zc.mk n x3.m)]:List Zc) z z z z z (by decide) (fun _=>by kernel_rfl) ⟨([.bool n.num.neg,.slice k n.num.mag.length l,.bool n.den.neg,.slice i n.den.mag.length g]:List Value)++(vecG (Value.int .i64) 8 x3.m),[],z,⟨[.bool n.num.neg,.slice k n.num.mag.length l,.bool n.den.neg,.slice i n.den.mag.length g],vecG (Value.int .i64) 8 x3.m,z,⟨(v58' n.num k l),(v58' n.den i g),z,⟨[.bool n.num.neg],[.slice k n.num.mag.length l],z,z,⟨_,z,Q⟩⟩,⟨[.bool n.den.neg],[.slice i n.den.mag.length g],z,z,⟨_,z,P⟩⟩⟩,z⟩,z⟩ (key:=999) z (by rw[ao]; rfl) (fun p2 cd aM bS=>?_)
       obtain⟨bs,hr⟩:=hr
       refine cA' (r:=r') 1005 z z R' el101 z (by decide) z z (aN.mono (mt am aM)) z (by rw[ao]; rfl) aK bS bs fun p3 bw bi bE aV bK bo=>sg z z<|u'<|am'<|e'<|sr<|mv z z<|yy (N' z z) z<|sg z z<|nx<|w'<|mv z z<|yy (N' z z) z<|sg z z<|u'<|D'<|P' ⟨(W++[(Zc.mk n x3.m)]),p3,bw,bi,IntKind.i64.wrap (O+1),IntKind.i64.wrap (ai+1),bE⟩ hr ⟨(mt (mt (mt (mt (mt (mt d f) o) U) am) aM) aV),bK,bo⟩ (fc z (fc z (fc z (fc z (fc z fn))))) (wk (lc z ln))
      ·refine o'<|e'<|sr<|mv z z<|yy (N' z z) z<|sg z z<|nx<|w'<|mv z z<|yy (N' z z) z<|sg z z<|u'<|D'<|P' ⟨W,Z,Y,X,IntKind.i64.wrap (O+1),IntKind.i64.wrap (ai+1),X1.m⟩ hr ⟨(mt (mt (mt (mt d f) o) U) am),(aN.mono am),aK⟩ (fc z (fc z (fc z (fc z (fc z fn))))) (wk (lc z ln))
 ·rintro⟨V,af,ac,aa,aq⟩ ⟨b2,aW,bM,hr⟩
  refine e'<|sr<|mv z z<|sg z z<|nx<|j' ?_
  obtain rfl:_=r:=hr
  exact k' z z ⟨_,_,z,aW⟩
theorem gO'{p1 q1 p1p p1c q1p q1c r}(hr:(Zkz p1 q1).Ret r):Ctr Tryz.prog 59 #[.slice p1p p1.length p1c,.slice q1p q1.length q1c] (fun G=>sl r' G p1p p1c p1∧sl r' G q1p q1c q1) (fun G v=>∃ X Z,v = .tuple #[.slice X r.1.length Z,i' r.2]∧sl r' G X Z r.1):=by
 refine C' (args:=[_,_]) (N:=39) Tryz.func59 z z z (fun w0 G0 ap al=>?_)
 obtain⟨I,aB⟩:=al
 refine sr<|sg z z<|sg z z<|nr<|aU' (e:=101) (r:=r') (vs:=#[]) (cs:=[]) ([]:List Zc) z z z z z (by decide) (fun _=>by kernel_rfl) (z) (key:=999) z (by rw[ap]; rfl) fun p2 Y s aA=>sg z z<|nx<|h'<|sr<|sg z z<|nx<|aa' (fun (⟨p,x,y,D⟩:(List Zc)×Option Addr×Nat×Mem)=>[(6,.slice x p.length y)]) (fun ⟨p,x,y,D⟩=>Mem.le Y D∧sl r' D x y p∧(Zfi p).Ret r) (fun ⟨p,x,y,D⟩=>St w0 G0 D []) ?_ ?_
 ·refine B' ?_
  let V:(((List Zc)×Int)⊕(List Zc))→Prop:=fun oo=>((fun ov=>match ov with | .inl rv1=>Comp.ret rv1 | .inr p=>Zfi p:(((List Zc)×Int)⊕(List Zc))→Comp ((List Zc)×Int)) oo).wp (fun a=>a=r)
  replace hr:(Comp.loop _ _).wp V:=hr
  refine ab' (Φ:=V) (fun (⟨q,n,o,L,B⟩:(List Zc)×Option Addr×Nat×Int×Mem)=>((q,L):(List Zc)×Int)) (fun ⟨q,n,o,L,B⟩=>[(0,.slice p1p p1.length p1c),(1,.slice q1p q1.length q1c),(6,.slice n q.length o),(7,i' L)]) (fun ⟨q,n,o,L,B⟩=>Mem.le Y B∧sl r' B n o q) (fun ⟨q,n,o,L,B⟩=>St w0 G0 B []) ⟨[],p2,0,0,Y⟩ hr (fc z (fc z (fc z (fc z fn)))) ⟨mr,aA⟩ (wk ln) ?_
  ·intro aP gx hx hr
   obtain⟨q,n,o,L,B⟩:=gx
   obtain⟨m,M⟩:=hx
   refine h'<|sr<|mv z z<|mv z z<|yy (L' R' (I.mono (mt s m)) z) z<|yy (V' z z) z<|nx<|I' hr z (fun aC hr=>?_) (fun aC hr=>?_)
   ·refine o'<|e'<|h'<|B'<|h'<|Y' [false,false,false,false,false,false,false,false,false,false,false,false,false,false,true] mix (by kernel_rfl) fun hb=>cn (fun _ f=>f' z)<|cn (fun _ f=>f' z) ?_
    obtain⟨x1,ai,hr⟩:=hr
    refine cn (fun _ f=>Q' R' bD' ((I.mono (mt s m)).mono f) z z ai)<|cn (fun _ f=>ce' z) ?_
    obtain⟨ad,af,ag,ah,aq,H,J⟩:=dz' (E' (be' (aF' (Z' I ai))) (mt s m))
    refine cn (fun _ f=>aw' _ ci' z z (fun j v hv=>f _ _ _ (aq j v hv)))<|cn (fun _ f=>f' z)<|cn (fun _ f=>f' z) ?_
    obtain⟨x2,ae,hr⟩:=hr
    refine cn (fun _ f=>Q' R' bD' ((I.mono (mt s m)).mono f) z z ae)<|cn (fun _ f=>bm' z)<|cn (fun _ f=>aw' _ bS' z (O' _ _ _) (cW' (E' (E' (aK' (aF' (Z' I ae))) (mt s m)) f)))<|cn (fun _ f=>f' z) ?_
    obtain⟨g,ao,hr⟩:=hr
    refine aD' (post:=fun G v=>∃ i k,v = .tuple #[.slice i g.1.length k,i' g.2]∧sl r' G i k g.1) (fun _=>z) (fun _ _=>s' E92 z) (fv' ao) z (fun P f=>⟨(H.mono f),(J.mono f),((aB.mono (mt s m)).mono f)⟩) (fun v G1 G2 f h=>?_) ?_
    ·obtain⟨i,k,rfl,A⟩:=h
     exact⟨_,_,z,A.mono f⟩
    refine bj' (φ:=fun G v=>∃ t l,v = .tuple #[.slice t g.1.length l,i' g.2]∧sl r' G t l g.1) (fun _=>z) (fun v G1 G2 f h=>?_) (fun u P f W=>?_) ?_
    ·obtain⟨t,l,rfl,F⟩:=h
     exact⟨_,_,z,F.mono f⟩
    ·obtain⟨⟨i,k,aa,A⟩,_⟩:=(show (fun G v=>∃ i k,v = .tuple #[.slice i g.1.length k,i' g.2]∧sl r' G i k g.1) P.m (u 29)∧True from W)
     simp only[undFr,aa]
     exact⟨_,f' z,i,k,z,A⟩
    refine bj' (φ:=fun G v=>∃ K C,v = .slice K g.1.length C∧sl r' G K C g.1) (fun _=>z) (fun v G1 G2 f h=>?_) (fun u P f W=>?_) ?_
    ·obtain⟨K,C,rfl,U⟩:=h
     exact⟨_,_,z,U.mono f⟩
    ·obtain⟨⟨t,l,E,F⟩,_,_⟩:=(show (fun G v=>∃ t l,v = .tuple #[.slice t g.1.length l,i' g.2]∧sl r' G t l g.1) P.m (u 17)∧True∧True from W)
     simp only[undFr,E]
     exact⟨_,K' z z,t,l,z,F⟩
    refine bT' (c:=i' g.2) (fun _=>z) (fun u P f W=>?_) ?_
    ·obtain⟨_,⟨t,l,E,F⟩,_,_⟩:=(show True∧(fun G v=>∃ t l,v = .tuple #[.slice t g.1.length l,i' g.2]∧sl r' G t l g.1) P.m (u 17)∧True∧True from W)
     simp only[undFr,E]
     exact K' z z
    refine Chain.tailU3 (d:=30) (post:=fun G v=>∃ K C,v = .slice K g.1.length C∧sl r' G K C g.1) (d':=17) (post':=fun G v=>∃ t l,v = .tuple #[.slice t g.1.length l,i' g.2]∧sl r' G t l g.1) (d'':=29) (post'':=fun G v=>∃ i k,v = .tuple #[.slice i g.1.length k,i' g.2]∧sl r' G i k g.1) (fun aE aK aM aO O Q S R=>?_)
    obtain⟨K,C,rfl,U⟩:=Q
    obtain⟨t,l,rfl,F⟩:=S
    obtain⟨i,k,rfl,A⟩:=R
    refine sg z z<|sg z z<|u'<|am'<|e'<|h'<|sr<|mv z z<|yy (aR' z z) z<|nx<|I' hr z (fun ay hr=>?_) (fun ay hr=>?_)
    ·exact (show False from hr).elim
    ·refine o'<|e'<|w'<|mv z z<|mv z z ?_
     obtain⟨az,aj,hr⟩:=hr
     refine M' z z (s' E57 z) (eC' aj) z (⟨(M.mono O),U⟩) (fun aG ax ab T=>?_)
     obtain⟨am,an,rfl,ak⟩:=T
     refine sg z z<|u'<|D'<|e'<|w'<|mv z z<|yy (N' z z) z<|sg z z<|u'<|P' ⟨az,am,an,IntKind.i64.wrap (L+1),ax⟩ hr ⟨(mt (mt m O) ab),ak⟩ (fc z (fc z (fc z (fc z fn)))) (wk ln)
   ·refine ad'<|n'<|n'<|J'<|ae' ⟨q,n,o,B⟩ ⟨m,M,hr⟩ (fc z fn) (wk ln)
 ·rintro⟨p,x,y,D⟩ ⟨aD,ac,hr⟩
  refine e'<|sr<|mv z z<|sg z z<|sg z z<|nx<|j' ?_
  obtain rfl:_=r:=hr
  exact aE' z z z ⟨_,_,z,ac⟩
theorem gW'{p1 q1 p1p p1c q1p q1c r}(hr:(Zjp p1 q1).Ret r):Ctr Tryz.prog 31 #[.slice p1p p1.length p1c,.slice q1p q1.length q1c] (fun G=>sl r' G p1p p1c p1∧sl r' G q1p q1c q1) (fun G v=>∃ g i,v = .slice g r.length i∧sl r' G g i r):=by
 refine C' (args:=[_,_]) (N:=14) Tryz.func31 z z z (fun s t q e=>?_)
 obtain⟨l,h⟩:=e
 refine sr<|sg z z<|nr<|mv z z<|mv z z ?_
 obtain⟨o,f,hr⟩:=hr
 refine M' z z (s' E59 z) (gO' f) z (⟨l,h⟩) (fun n p m c=>?_)
 obtain⟨k,j,rfl,d⟩:=c
 refine mv z z<|yy (K' z z) z<|yy (K' z z) z<|sg z z<|sg z z<|nr<|mv z z<|sg z z<|nx<|j' ?_
 obtain rfl:_=r:=hr
 exact k' z z ⟨_,_,z,d⟩
theorem fU'{c1 c1nummagp c1nummagc c1denmagp c1denmagc r}(hr:(ZfU c1).Ret r):Ctr Tryz.prog 61 #[.agg ([.bool c1.num.neg,.slice c1nummagp c1.num.mag.length c1nummagc,.bool c1.den.neg,.slice c1denmagp c1.den.mag.length c1denmagc]).toArray] (fun G=>sl (Rp.int .u32) G c1nummagp c1nummagc c1.num.mag∧sl (Rp.int .u32) G c1denmagp c1denmagc c1.den.mag) (fun G v=>∃ h j,v = .slice h r.length j∧sl r' G h j r):=by
 refine C' (args:=[_]) (N:=9) Tryz.func61 z z z (fun q s i f=>?_)
 obtain⟨d,c⟩:=f
 refine sr<|W' 1 z z z fun p=>sg z z<|nx<|h'<|sr<|yy (t' 1 ci' z z z) z ?_
 obtain⟨n,g,hr⟩:=hr
 refine F' z z (s' E91 z) (ex' g) z (⟨d,c⟩)<|yy (ak' z z) z<|nx<|I' hr z (fun l hr=>?_) (fun l hr=>?_)
 ·exact (show False from hr).elim
 ·refine o'<|e'<|sr<|yy (t' 1 ci' z z z) z<|yy (aq' (vs:=#[(0,.agg ([.bool c1.num.neg,.slice c1nummagp c1.num.mag.length c1nummagc,.bool c1.den.neg,.slice c1denmagp c1.den.mag.length c1denmagc]).toArray)]) (v:=.agg (([.bool c1.num.neg,.slice c1nummagp c1.num.mag.length c1nummagc,.bool c1.den.neg,.slice c1denmagp c1.den.mag.length c1denmagc]:List Value)++(vecG (Value.int .i64) 8 (fun _=>0))).toArray) z z (fun _=>by kernel_rfl)) z<|aU' (e:=101) (r:=r') (vs:=#[(0,.agg (([.bool c1.num.neg,.slice c1nummagp c1.num.mag.length c1nummagc,.bool c1.den.neg,.slice c1denmagp c1.den.mag.length c1denmagc]:List Value)++(vecG (Value.int .i64) 8 (fun _=>0))).toArray)]) (cs:=(([.bool c1.num.neg,.slice c1nummagp c1.num.mag.length c1nummagc,.bool c1.den.neg,.slice c1denmagp c1.den.mag.length c1denmagc]:List Value)++(vecG (Value.int .i64) 8 (fun _=>0)))++([])) ([(Zc.mk c1 (fun _=>0))]:List Zc) z z z z z (by decide) (fun _=>by kernel_rfl) ⟨([.bool c1.num.neg,.slice c1nummagp c1.num.mag.length c1nummagc,.bool c1.den.neg,.slice c1denmagp c1.den.mag.length c1denmagc]:List Value)++(vecG (Value.int .i64) 8 (fun _=>0)),[],z,⟨[.bool c1.num.neg,.slice c1nummagp c1.num.mag.length c1nummagc,.bool c1.den.neg,.slice c1denmagp c1.den.mag.length c1denmagc],vecG (Value.int .i64) 8 (fun _=>0),z,⟨(v58' c1.num c1nummagp c1nummagc),(v58' c1.den c1denmagp c1denmagc),z,⟨[.bool c1.num.neg],[.slice c1nummagp c1.num.mag.length c1nummagc],z,z,⟨_,z,d⟩⟩,⟨[.bool c1.den.neg],[.slice c1denmagp c1.den.mag.length c1denmagc],z,z,⟨_,z,c⟩⟩⟩,z⟩,z⟩ (key:=999) z (by rw[i]; rfl) fun t o m k=>sg z z<|nx<|j' ?_
  obtain rfl:_=r:=hr
  exact k' z z ⟨_,_,z,k⟩
theorem gP'{n1 r}(hr:(Ziq n1).Ret r):Ctr Tryz.prog 33 #[i' n1] (fun G=>True) (fun G v=>∃ n o,v = .slice n r.length o∧sl r' G n o r):=by
 refine C' (args:=[_]) (N:=6) Tryz.func33 z z z fun F H E x=>sr<|sg z z<|nr<|mv z z ?_
 obtain⟨A,m,hr⟩:=hr
 refine M' z z (s' E48 z) (cZ' m) z (trivial) (fun u B q f=>?_)
 obtain⟨j,h,i,g,rfl,c,d⟩:=f
 obtain⟨D,l,hr⟩:=hr
 refine M' z z (s' E61 z) (fU' l) z (⟨c,d⟩) (fun s C p e=>?_)
 obtain⟨y,t,rfl,k⟩:=e
 refine sg z z<|nx<|j' ?_
 obtain rfl:_=r:=hr
 exact k' z z ⟨_,_,z,k⟩
theorem fw'{c1 p1 c1nummagp c1nummagc c1denmagp c1denmagc p1p p1c r}(hr:(Zeh c1 p1).Ret r):Ctr Tryz.prog 58 #[.agg ([.bool c1.num.neg,.slice c1nummagp c1.num.mag.length c1nummagc,.bool c1.den.neg,.slice c1denmagp c1.den.mag.length c1denmagc]).toArray,.slice p1p p1.length p1c] (fun G=>sl (Rp.int .u32) G c1nummagp c1nummagc c1.num.mag∧sl (Rp.int .u32) G c1denmagp c1denmagc c1.den.mag∧sl r' G p1p p1c p1) (fun G v=>∃ i j,v = .slice i r.length j∧sl r' G i j r):=by
 refine C' (args:=[_,_]) (N:=15) Tryz.func58 z z z (fun u x s g=>?_)
 obtain⟨c,d,m⟩:=g
 refine sr<|W' 2 z z z fun t=>sg z z<|nr<|yy (t' 2 ci' z z z) z<|yy (aq' (vs:=#[]) (v:=.agg (vecG (Value.int .i64) 8 (fun _=>0)).toArray) z z (fun _=>by kernel_rfl)) z<|mv z z ?_
 obtain⟨p,h,hr⟩:=hr
 refine M' z z (s' E92 z) (fv' h) z (⟨c,d,m⟩) (fun o q n e=>?_)
 obtain⟨l,k,rfl,f⟩:=e
 refine mv z z<|yy (K' z z) z<|yy (K' z z) z<|sg z z<|sg z z<|nr<|mv z z<|sg z z<|nx<|j' ?_
 obtain rfl:_=r:=hr
 exact k' z z ⟨_,_,z,f⟩
theorem gQ'{p1 q1 p1p p1c q1p q1c r}(hr:(Zis p1 q1).Ret r):Ctr Tryz.prog 30 #[.slice p1p p1.length p1c,.slice q1p q1.length q1c] (fun G=>sl r' G p1p p1c p1∧sl r' G q1p q1c q1) (fun G v=>∃ u y,v = .slice u r.length y∧sl r' G u y r):=by
 refine C' (args:=[_,_]) (N:=10) Tryz.func30 z z z (fun S T P q=>?_)
 obtain⟨A,x⟩:=q
 refine sr<|sg z z<|nr<|mv z z ?_
 obtain⟨K,t,hr⟩:=hr
 refine M' z z (s' E48 z) (cZ' t) z (trivial) (fun F L e g=>?_)
 obtain⟨m,k,l,i,rfl,c,d⟩:=g
 refine mv z z ?_
 obtain⟨O,s,hr⟩:=hr
 refine M' z z (s' E58 z) (fw' s) z (⟨c,d,(x.mono e)⟩) (fun C M j f=>?_)
 obtain⟨J,D,rfl,o⟩:=f
 obtain⟨R,p,hr⟩:=hr
 refine M' z z (s' E57 z) (eC' p) z (⟨(A.mono (mt e j)),o⟩) (fun E Q B h=>?_)
 obtain⟨H,I,rfl,n⟩:=h
 refine sg z z<|nx<|j' ?_
 obtain rfl:_=r:=hr
 exact k' z z ⟨_,_,z,n⟩
theorem fH'{c1 r}(hr:(ZbX c1).Ret r):Ctr Tryz.prog 132 #[.int .i32 c1] (fun G=>True) (fun G v=>v = .bool r):=by
 refine C' (args:=[_]) (N:=13) Tryz.func132 z z z fun g h f e=>sr<|sg z z<|nr<|mv z z<|aj' hr z (bz' z z) z (fun d hr=>?_) (fun d hr=>?_)
 ·refine mv z z<|gy z z (f' z) z<|aj' hr (H' z z) (bz' z z) z (fun c hr=>?_) (fun c hr=>?_)
  ·refine yy (m' z z) z<|mv z z<|sf z z z<|sf z z z<|yy (m' z z) z<|sg z z<|nx<|j' ?_
   obtain rfl:_=r:=hr
   exact k' z z z
  ·refine yy (m' z z) z<|mv z z<|gy z z (f' z) z<|gy z z (ak' z z) z<|yy (l' z z) z<|sg z z<|nx<|j' ?_
   obtain rfl:_=r:=hr
   exact k' z z z
 ·refine mv z z<|sk z z z<|sk z z z<|yy (l' z z) z<|mv z z<|gy z z (f' z) z<|gy z z (ak' z z) z<|yy (l' z z) z<|sg z z<|nx<|j' ?_
  obtain rfl:_=r:=hr
  exact k' z z z
theorem fI'{s1 r}(hr:(ZbW s1).Ret r):Ctr Tryz.prog 87 #[.string s1] (fun G=>True) (fun G v=>v = .bool r):=by
 refine C' (args:=[_]) (N:=45) Tryz.func87 z z z fun p n O K=>sr<|sg z z<|nx<|aV' (fun (f:Mem)=>match f with|g=>[(0,.string s1)]) (fun (f:Mem)=>match f with|g=>Mem.le n g∧(Zeb s1).Ret r) (fun (f:Mem)=>match f with|g=>St p n g []) ?_ ?_
 ·skip
  refine sr<|mv z z<|yy (Y0.lenS aQ' z) z<|aj' hr z (V' z z) z (fun s hr=>?_) (fun s hr=>?_)
  ·refine mv z z<|sf z z z<|sf z z z<|sf z z z<|yy (m' z z) z<|nx<|at' z<|sr<|sg z z<|nx<|j' ?_
   replace hr:_=r:=hr
   refine g' ?_
   subst hr
   exact k' z z z
  ·refine mv z z<|gy z z (f' z) z<|gy z z (Y0.lenS aQ' z) z<|gy z z (br' z z) z<|yy (l' z z) z<|nx<|I' hr z (fun u hr=>?_) (fun u hr=>?_)
   ·refine sr<|sg z z<|nx<|j' ?_
    replace hr:_=r:=hr
    refine g' ?_
    subst hr
    exact k' z z z
   ·refine o'<|ap' n ⟨mr,hr⟩ (fc z fn) (wk ln)
 ·rintro g ⟨F,hr⟩
  refine h'<|sr<|mv z z<|WL.rangeS 4015 z z aQ' z fun l=>nx<|aa' (fun (f:Mem)=>match f with|j=>[]) (fun (f:Mem)=>match f with|j=>Mem.le g j∧(ZaF).Ret r) (fun (f:Mem)=>match f with|j=>St p n j []) ?_ ?_
  ·refine B' ?_
   let k:(Bool⊕Unit)→Prop:=fun I=>((fun L=>match L with | .inl rv1=>Comp.ret rv1 | .inr ()=>ZaF:(Bool⊕Unit)→Comp Bool) I).wp (fun a=>a=r)
   replace hr:(Comp.loop _ _).wp k:=hr
   refine ab' (Φ:=k) (fun (⟨c,d⟩:Nat×Mem)=>(c:Nat)) (fun ⟨c,d⟩=>[(15,.pointer (some ⟨l,0,none⟩))]) (fun ⟨c,d⟩=>Mem.le g d) (fun ⟨c,d⟩=>St p n d [(4015,(some ⟨l,.stringIter s1 c,0⟩))]) ⟨0,g⟩ hr (fc z fn) mr (wk (lc z ln)) ?_
   ·intro D f J hr
    obtain⟨c,d⟩:=f
    have i:=J
    refine sr<|WL.nextS 4015 z z z z (fun o=>?_) (fun o=>?_)
    ·replace hr:=hr.pos o
     refine yy (K' z z) z<|nx<|h'<|at' z<|o'<|e'<|B'<|sr<|yy (K' z z) z<|yy (K' z z) z<|sg z z<|sg z z<|nx<|aV' (fun (⟨e,h⟩:Bool×Mem)=>[(3,i' (c:Int)),(4,.int .i32 ((Utf8.decode s1 c).1:Int)),(5,.bool e),(15,.pointer (some ⟨l,0,none⟩))]) (fun ⟨e,h⟩=>Mem.le d h∧(ZM s1 c e).wp (Out D k)) (fun ⟨e,h⟩=>St p n h [(4015,(some ⟨l,.stringIter s1 (c+(Utf8.decode s1 c).2),0⟩))]) ?_ ?_
     ·skip
      refine w'<|mv z z<|aj' hr z (bz' z z) z (fun C hr=>?_) (fun C hr=>?_)
      ·refine mv z z<|gy z z (f' z) z<|aj' hr (H' z z) (bz' z z) z (fun A hr=>?_) (fun A hr=>?_)
       ·refine yy (m' z z) z<|mv z z<|sf z z z<|sf z z z<|sf z z z<|aB' (af' z z) z<|aB' (af' z z) z<|sf z z z<|yy (m' z z) z<|sg z z<|u'<|ap' ⟨true,d⟩ ⟨mr,hr⟩ (fc z (fc z (fc z (fc z fn)))) (wk (lc z ln))
       ·refine yy (m' z z) z<|mv z z<|gy z z (f' z) z<|aj' hr (H' z z) (bz' z z) z (fun x hr=>?_) (fun x hr=>?_)
        ·refine gy z z (f' z) z<|gy z z (f' z) z<|gy z z (bz' z z) z<|gy z z (m' z z) z<|yy (l' z z) z<|sg z z<|u'<|ap' ⟨decide (((Utf8.decode s1 c).1:Int)≤122),d⟩ ⟨mr,hr⟩ (fc z (fc z (fc z (fc z fn)))) (wk (lc z ln))
        ·refine gy z z (f' z) z<|sk z z z<|sk z z z<|gy z z (l' z z) z<|yy (l' z z) z<|sg z z<|u'<|ap' ⟨false,d⟩ ⟨mr,hr⟩ (fc z (fc z (fc z (fc z fn)))) (wk (lc z ln))
      ·refine mv z z<|sk z z z<|sk z z z<|yy (l' z z) z<|mv z z<|gy z z (f' z) z<|aj' hr (H' z z) (bz' z z) z (fun t hr=>?_) (fun t hr=>?_)
       ·refine gy z z (f' z) z<|gy z z (f' z) z<|gy z z (bz' z z) z<|gy z z (m' z z) z<|yy (l' z z) z<|sg z z<|u'<|ap' ⟨decide (((Utf8.decode s1 c).1:Int)≤122),d⟩ ⟨mr,hr⟩ (fc z (fc z (fc z (fc z fn)))) (wk (lc z ln))
       ·refine gy z z (f' z) z<|sk z z z<|sk z z z<|gy z z (l' z z) z<|yy (l' z z) z<|sg z z<|u'<|ap' ⟨false,d⟩ ⟨mr,hr⟩ (fc z (fc z (fc z (fc z fn)))) (wk (lc z ln))
     ·rintro⟨e,h⟩ ⟨m,hr⟩
      refine sr<|aj' hr z (cI' (f' z) (congrArg Value.bool (bdec _))) z (fun E hr=>?_) (fun E hr=>?_)
      ·refine yy (ao' z) z<|mv z z<|sk z z z<|sk z z z<|sk z z z<|aB' (af' z z) z<|aB' (af' z z) z<|aB' (af' z z) z<|sk z z z<|yy (l' z z) z<|nx<|bg' z<|o'<|D'<|P' ⟨(c+(Utf8.decode s1 c).2),h⟩ hr (mt i m) (fc z fn) (wk (lc z ln))
      ·refine yy (ao' z) z<|mv z z<|gy z z (f' z) z<|aj' hr (H' z z) (ak' z z) z (fun B hr=>?_) (fun B hr=>?_)
       ·refine gy z z (f' z) z<|sf z z z<|sf z z z<|sf z z z<|gy z z (m' z z) z<|yy (m' z z) z<|nx<|at' z<|sr<|sg z z<|nx<|j' ?_
        replace hr:_=r:=hr
        refine x'<|g'<|x'<|aI'<|g' ?_
        subst hr
        exact k' z z z
       ·refine gy z z (f' z) z<|gy z z (f' z) z ?_
        obtain⟨M,q,hr⟩:=hr
        refine F' (H' z z) z (s' E132 z) (fH' q) z (trivial)<|gy z z (ao' z) z<|gy z z (l' z z) z<|yy (m' z z) z<|nx<|aN' hr z (fun y hr=>?_) (fun y hr=>?_)
        ·refine sr<|sg z z<|nx<|j' ?_
         replace hr:_=r:=hr
         refine x'<|g'<|x'<|aI'<|g' ?_
         subst hr
         exact k' z z z
        ·refine o'<|D'<|P' ⟨(c+(Utf8.decode s1 c).2),h⟩ hr (mt i m) (fc z fn) (wk (lc z ln))
    ·replace hr:=hr.neg o
     refine yy (K' z z) z<|nx<|h'<|bg' z<|ad'<|n'<|n'<|J'<|ae' d ⟨i,hr⟩ fn (wk ln)
  ·rintro j ⟨H,hr⟩
   refine e'<|sr<|sg z z<|nx<|j' ?_
   obtain rfl:_=r:=hr
   exact k' z z z
theorem eD'{a1 a1magp a1magc r}(hr:(Zds a1).Ret r):Ctr Tryz.prog 188 #[.agg ((v58' a1 a1magp a1magc)).toArray] (fun G=>sl (Rp.int .u32) G a1magp a1magc a1.mag) (fun G v=>v = .bool r):=by
 refine C' (args:=[_]) (N:=19) Tryz.func188 z z z (fun j k g e=>?_)
 have c:=e
 refine sr<|W' 1 z z z fun h=>sg z z<|nr<|yy (aO' z) z<|yy (b' 1 bG' z z z) z<|yy (L' y' c z) z<|sg z z<|nx<|h'<|sr<|mv z z<|yy (ak' z z) z<|nx<|I' hr z (fun f hr=>?_) (fun f hr=>?_)
 ·exact (show False from hr).elim
 ·refine o'<|e'<|sr<|yy (aO' z) z<|yy (b' 1 bG' z z z) z<|mv z z<|yy (bd' z z) z ?_
  obtain⟨i,d,hr⟩:=hr
  refine yy (Q' y' bh' c z z d) z<|yy (U' bC' z (aC' (Z' c d))) z<|yy (aR' z z) z<|sg z z<|nx<|j' ?_
  obtain rfl:_=r:=hr
  exact k' z z z
theorem dA'{a1 a1magp a1magc r}(hr:(Zbx a1).Ret r):Ctr Tryz.prog 189 #[.agg ((v58' a1 a1magp a1magc)).toArray] (fun G=>sl (Rp.int .u32) G a1magp a1magc a1.mag) (fun G v=>v=i' r):=by
 refine C' (args:=[_]) (N:=9) Tryz.func189 z z z (fun i j g d=>?_)
 have c:=d
 refine sr<|W' 1 z z z fun h=>sg z z<|nx<|h'<|sr<|yy (aO' z) z<|yy (b' 1 bG' z z z) z<|yy (L' y' c z) z<|yy (ak' z z) z<|nx<|I' hr z (fun f hr=>?_) (fun f hr=>?_)
 ·exact (show False from hr).elim
 ·refine o'<|e'<|h'<|sr<|yy (bl' z) z<|yy (b' 1 sc4 z z z) z<|nx<|aN' hr z (fun e hr=>?_) (fun e hr=>?_)
  ·refine sr<|sg z z<|nx<|j' ?_
   replace hr:_=r:=hr
   refine g' ?_
   subst hr
   exact k' z z z
  ·refine o'<|e'<|sr<|sg z z<|nx<|j' ?_
   obtain rfl:_=r:=hr
   exact k' z z z
theorem dk'{a1 a1magp a1magc r}(hr:(Za1 a1).Ret r):Ctr Tryz.prog 190 #[.agg ((v58' a1 a1magp a1magc)).toArray] (fun G=>sl (Rp.int .u32) G a1magp a1magc a1.mag) (fun G v=>v = .bool r):=by
 refine C' (args:=[_]) (N:=19) Tryz.func190 z z z (fun k l h e=>?_)
 have c:=e
 refine sr<|W' 1 z z z fun i=>sg z z<|nr<|yy (bl' z) z<|aj' hr z (cI' (b' 1 sc4 z z z) (congrArg Value.bool (bdec _))) z (fun g hr=>?_) (fun g hr=>?_)
 ·refine yy (ao' z) z<|mv z z<|sk z z z<|sk z z z<|sk z z z<|sk z z z<|yy (l' z z) z<|mv z z<|sk z z z<|sk z z z<|sk z z z<|sk z z z<|sk z z z<|yy (l' z z) z<|sg z z<|nx<|j' ?_
  obtain rfl:_=r:=hr
  exact k' z z z
 ·refine yy (ao' z) z<|mv z z<|gy z z (aO' z) z<|gy z z (b' 1 bG' z z z) z<|gy z z (L' y' c z) z<|aj' hr (H' z z) (ak' z z) z (fun f hr=>?_) (fun f hr=>?_)
  ·refine yy (m' z z) z<|mv z z<|gy z z (aO' z) z<|gy z z (b' 1 bG' z z z) z ?_
   obtain⟨j,d,hr⟩:=hr
   refine gy z z (Q' y' bh' c z z d) z<|gy z z (U' bC' z (aC' (Z' c d))) z<|gy z z (ak' z z) z<|yy (m' z z) z<|sg z z<|nx<|j' ?_
   obtain rfl:_=r:=hr
   exact k' z z z
  ·refine yy (m' z z) z<|mv z z<|sk z z z<|sk z z z<|sk z z z<|sk z z z<|sk z z z<|yy (l' z z) z<|sg z z<|nx<|j' ?_
   obtain rfl:_=r:=hr
   exact k' z z z
theorem cP'{a1 a1p a1c r}(hr:(Zbz a1).Ret r):Ctr Tryz.prog 203 #[.slice a1p a1.length a1c] (fun G=>sl (Rp.int .u32) G a1p a1c a1) (fun G v=>∃ o q,v = .slice o r.length q∧sl (Rp.int .u32) G o q r):=by
 refine C' (args:=[_]) (N:=21) Tryz.func203 z z z (fun p j D m=>?_)
 have h:=m
 refine sr<|sg z z<|nr<|mv z z<|yy (L' y' h z) z<|sg z z<|nx<|h'<|aa' (fun (⟨g,f⟩:Int×Mem)=>[(0,.slice a1p a1.length a1c),(3,i' g)]) (fun ⟨g,f⟩=>Mem.le j f∧(Zcv a1 g).Ret r) (fun ⟨g,f⟩=>St p j f []) ?_ ?_
 ·refine B' ?_
  let i:Int→Prop:=fun y=>((fun B=>match B with|g=>Zcv a1 g:Int→Comp (List Int)) y).wp (fun a=>a=r)
  replace hr:(Comp.loop _ _).wp i:=hr
  refine ab' (Φ:=i) (fun (⟨e,c⟩:Int×Mem)=>(e:Int)) (fun ⟨e,c⟩=>[(0,.slice a1p a1.length a1c),(3,i' e)]) (fun ⟨e,c⟩=>Mem.le j c) (fun ⟨e,c⟩=>St p j c []) ⟨(a1.length:Int),j⟩ hr (fc z (fc z fn)) mr (wk ln) ?_
  ·intro E x A hr
   obtain⟨e,c⟩:=x
   have d:=A
   refine h'<|sr<|mv z z<|aj' hr z (br' z z) z (fun u hr=>?_) (fun u hr=>?_)
   ·refine mv z z<|gy z z (f' z) z<|gy z z (f' z) z<|gy z z (bd' z z) z ?_
    obtain⟨H,l,hr⟩:=hr
    refine gy z z (Q' y' bh' (h.mono d) z z l) z<|gy z z (U' bC' z (aC' (E' (Z' h l) d))) z<|gy z z (ak' z z) z<|yy (m' z z) z<|nx<|I' hr z (fun s hr=>?_) (fun s hr=>?_)
    ·refine o'<|e'<|B'<|w'<|mv z z<|yy (bd' z z) z<|sg z z<|u'<|D'<|P' ⟨IntKind.i64.wrap (e-1),c⟩ hr d (fc z (fc z fn)) (wk ln)
    ·refine ad'<|n'<|n'<|J'<|ae' ⟨e,c⟩ ⟨d,hr⟩ (fc z (fc z fn)) (wk ln)
   ·refine mv z z<|sk z z z<|sk z z z<|sk z z z<|sk z z z<|sk z z z<|sk z z z<|yy (l' z z) z<|nx<|bg' z<|ad'<|n'<|n'<|J'<|ae' ⟨e,c⟩ ⟨d,hr⟩ (fc z (fc z fn)) (wk ln)
 ·rintro⟨g,f⟩ ⟨k,hr⟩
  refine e'<|sr<|mv z z<|mv z z ?_
  obtain⟨n,hr⟩:=hr
  refine WL.sliceRH (r:=(Rp.int .u32)) z z y' bh' z (h.mono k) z z n fun F C t=>sg z z<|nx<|j' ?_
  obtain rfl:_=r:=hr
  exact k' z z ⟨_,_,z,t⟩
theorem eE'{a1 a1p a1c r}(hr:(Zdt a1).Ret r):Ctr Tryz.prog 202 #[.slice a1p a1.length a1c] (fun G=>sl (Rp.int .u32) G a1p a1c a1) (fun G v=>∃ e h,v = .slice e r.length h∧sl (Rp.int .u32) G e h r):=by
 refine C' (args:=[_]) (N:=5) Tryz.func202 z z z (fun o p g d=>?_)
 have f:=d
 refine sr<|sg z z<|nr<|mv z z ?_
 obtain⟨c,hr⟩:=hr
 refine cA' (r:=(Rp.int .u32)) 2004 z z y' el156 z (by decide) z z (ah' (Rp.int .u32) _) z (by rw[g]; rfl) ec' f c fun q n k m j i l=>sg z z<|nx<|j' ?_
 obtain rfl:_=r:=hr
 exact k' z z ⟨_,_,z,i⟩
theorem fJ'{m1 r}(hr:(ZfJ m1).Ret r):Ctr Tryz.prog 206 #[.int .u64 m1] (fun G=>True) (fun G v=>∃ g h,v = .slice g r.length h∧sl (Rp.int .u32) G g h r):=by
 refine C' (args:=[_]) (N:=10) Tryz.func206 z z z fun x y i o=>sr<|sg z z<|nr<|mv z z<|yy (aH' al' an' z) z<|mv z z<|yy (Y0.shr z z (by decide)) z<|yy (aH' al' an' z) z<|aU' (e:=156) (r:=(Rp.int .u32)) (vs:=#[(0,.int .u32 (IntKind.u32.wrap m1)),(1,.int .u32 (IntKind.u32.wrap (Int.fdiv m1 (2 ^ (min (32:Int).toNat IntKind.u64.bits)))))]) (cs:=[.int .u32 (IntKind.u32.wrap m1)]++([.int .u32 (IntKind.u32.wrap (Int.fdiv m1 (2 ^ (min (32:Int).toNat IntKind.u64.bits))))]++([]))) ([IntKind.u32.wrap m1,IntKind.u32.wrap (Int.fdiv m1 (2 ^ (min (32:Int).toNat IntKind.u64.bits)))]:List Int) z z z z z (by decide) (fun _=>by kernel_rfl) ⟨[.int .u32 (IntKind.u32.wrap m1)],[.int .u32 (IntKind.u32.wrap (Int.fdiv m1 (2 ^ (min (32:Int).toNat IntKind.u64.bits))))]++([]),z,z,⟨[.int .u32 (IntKind.u32.wrap (Int.fdiv m1 (2 ^ (min (32:Int).toNat IntKind.u64.bits))))],[],z,z,z⟩⟩ (key:=999) z (by rw[i]; rfl) (fun u s l j=>?_)
 obtain⟨q,f,hr⟩:=hr
 refine M' z z (s' E203 z) (cP' f) z (j) (fun m t k c=>?_)
 obtain⟨n,p,rfl,d⟩:=c
 refine sg z z<|nx<|j' ?_
 obtain rfl:_=r:=hr
 exact k' z z ⟨_,_,z,d⟩
theorem dO'{neg1 mag1 mag1p mag1c r}(hr:(ZcU neg1 mag1).Ret r):Ctr Tryz.prog 205 #[.bool neg1,.slice mag1p mag1.length mag1c] (fun G=>sl (Rp.int .u32) G mag1p mag1c mag1) (fun G v=>∃ d c,v = .agg ((v58' r d c)).toArray∧sl (Rp.int .u32) G d c r.mag):=by
 refine C' (args:=[_,_]) (N:=14) Tryz.func205 z z z (fun u x s l=>?_)
 have j:=l
 refine sr<|T' 4 z z58 z fun t=>nr<|mv z z ?_
 obtain⟨k,m,hr⟩:=hr
 refine M' z z (s' E203 z) (cP' m) z (j) (fun p q o e=>?_)
 obtain⟨f,h,rfl,g⟩:=e
 refine sg z z<|nx<|h'<|sr<|mv z z<|yy (L' y' g z) z<|yy (ak' z z) z<|nx<|I' hr z (fun n hr=>?_) (fun n hr=>?_)
 ·exact (show False from hr).elim
 ·refine o'<|e'<|sr<|mv z z<|mv z z<|yy (aq' (vs:=#[(0,.bool neg1),(1,.slice f k.length h)]) (v:=.agg ([.bool neg1,.slice f k.length h]).toArray) z z (fun _=>by kernel_rfl)) z<|v' 4 z sz58 z z z z z (List.all_eq_true.1 z)<|nx<|j' ?_
  obtain rfl:_=r:=hr
  exact k' z (ac' (i:=4) bk' z z z) ⟨_,_,z,g⟩
theorem et'{a1 b1 a1p a1c b1p b1c r}(hr:(Zcu a1 b1).Ret r):Ctr Tryz.prog 192 #[.slice a1p a1.length a1c,.slice b1p b1.length b1c] (fun G=>sl (Rp.int .u32) G a1p a1c a1∧sl (Rp.int .u32) G b1p b1c b1) (fun G v=>v=i' r):=by
 refine C' (args:=[_,_]) (N:=41) Tryz.func192 z z z (fun x l F s=>?_)
 obtain⟨f,g⟩:=s
 refine sr<|sg z z<|nx<|h'<|sr<|mv z z<|yy (L' y' f z) z<|mv z z<|yy (L' y' g z) z<|yy (aR' z z) z<|nx<|I' hr z (fun A hr=>?_) (fun A hr=>?_)
 ·exact (show False from hr).elim
 ·refine o'<|e'<|h'<|sr<|mv z z<|yy (L' y' f z) z<|yy (bd' z z) z<|sg z z<|nx<|aa' (fun (j:Mem)=>match j with|h=>[]) (fun (j:Mem)=>match j with|h=>Mem.le l h∧(Zby).Ret r) (fun (j:Mem)=>match j with|h=>St x l h []) ?_ ?_
  ·refine B' ?_
   let k:(Int⊕Unit)→Prop:=fun C=>((fun E=>match E with | .inl rv1=>Comp.ret rv1 | .inr ()=>Zby:(Int⊕Unit)→Comp Int) C).wp (fun a=>a=r)
   replace hr:(Comp.loop _ _).wp k:=hr
   refine ab' (Φ:=k) (fun (⟨i,e⟩:Int×Mem)=>(i:Int)) (fun ⟨i,e⟩=>[(0,.slice a1p a1.length a1c),(1,.slice b1p b1.length b1c),(5,i' i)]) (fun ⟨i,e⟩=>Mem.le l e) (fun ⟨i,e⟩=>St x l e []) ⟨IntKind.i64.wrap ((a1.length:Int)-1),l⟩ hr (fc z (fc z (fc z fn))) mr (wk ln) ?_
   ·intro H j D hr
    obtain⟨i,e⟩:=j
    have d:=D
    refine h'<|sr<|mv z z<|yy (bc' z z) z<|nx<|I' hr z (fun u hr=>?_) (fun u hr=>?_)
    ·refine o'<|e'<|h'<|B'<|h'<|Y' [false,false,false,false,false,false,false,false] mix (by kernel_rfl) fun q=>cn (fun _ c=>f' z)<|cn (fun _ c=>f' z) ?_
     obtain⟨J,p,hr⟩:=hr
     refine cn (fun _ c=>Q' y' bh' ((f.mono d).mono c) z z p)<|cn (fun _ c=>U' bC' z (aC' (E' (E' (Z' f p) d) c)))<|cn (fun _ c=>f' z)<|cn (fun _ c=>f' z) ?_
     obtain⟨I,o,hr⟩:=hr
     refine cn (fun _ c=>Q' y' bh' ((g.mono d).mono c) z z o)<|cn (fun _ c=>U' bC' z (aC' (E' (E' (Z' g o) d) c)))<|X' q<|yy (aR' z z) z<|u'<|am'<|e'<|I' hr z (fun t hr=>?_) (fun t hr=>?_)
     ·refine h'<|h'<|Y' [false,false,false,false,false,false,false,false] mix (by kernel_rfl) fun q=>cn (fun _ c=>f' z)<|cn (fun _ c=>f' z) ?_
      obtain⟨K,n,hr⟩:=hr
      refine cn (fun _ c=>Q' y' bh' ((f.mono d).mono c) z z n)<|cn (fun _ c=>U' bC' z (aC' (E' (E' (Z' f n) d) c)))<|cn (fun _ c=>f' z)<|cn (fun _ c=>f' z) ?_
      obtain⟨L,m,hr⟩:=hr
      refine cn (fun _ c=>Q' y' bh' ((g.mono d).mono c) z z m)<|cn (fun _ c=>U' bC' z (aC' (E' (E' (Z' g m) d) c)))<|X' q<|yy (V' z z) z<|u'<|am'<|e'<|I' hr z (fun y hr=>?_) (fun y hr=>?_)
      ·refine sr<|sg z z<|nx<|j' ?_
       replace hr:_=r:=hr
       refine g'<|x'<|g'<|g'<|x'<|aI'<|g' ?_
       subst hr
       exact k' z z z
      ·refine o'<|e'<|sr<|sg z z<|nx<|j' ?_
       replace hr:_=r:=hr
       refine x'<|g'<|g'<|x'<|aI'<|g' ?_
       subst hr
       exact k' z z z
     ·refine o'<|D'<|e'<|w'<|mv z z<|yy (bd' z z) z<|sg z z<|u'<|P' ⟨IntKind.i64.wrap (i-1),e⟩ hr d (fc z (fc z (fc z fn))) (wk ln)
    ·refine ad'<|n'<|n'<|J'<|ae' e ⟨d,hr⟩ fn (wk ln)
  ·rintro h ⟨B,hr⟩
   refine e'<|sr<|sg z z<|nx<|j' ?_
   obtain rfl:_=r:=hr
   exact k' z z z
theorem gg'{a1 b1 a1magp a1magc b1magp b1magc r}(hr:(Zg5 a1 b1).Ret r):Ctr Tryz.prog 191 #[.agg ((v58' a1 a1magp a1magc)).toArray,.agg ((v58' b1 b1magp b1magc)).toArray] (fun G=>sl (Rp.int .u32) G a1magp a1magc a1.mag∧sl (Rp.int .u32) G b1magp b1magc b1.mag) (fun G v=>∃ O M,v = .agg ((v58' r O M)).toArray∧sl (Rp.int .u32) G O M r.mag):=by
 refine C' (args:=[_,_]) (N:=53) Tryz.func191 z z z (fun w0 G0 aU al=>?_)
 obtain⟨Z,X⟩:=al
 refine sr<|W' 2 z z z fun b2=>W' 3 z z z fun b3=>T' 4 z z58 z fun b4=>nx<|h'<|Y' [false,false,false,false,false,false] mix (by kernel_rfl) fun hb=>cn (fun _ o=>aO' z)<|cn (fun _ o=>b' 2 bG' z z z) ?_
 obtain⟨D,aq,hr⟩:=hr
 refine aD' (post:=fun G v=>∃ g j,v = .slice g D.length j∧sl (Rp.int .u32) G g j D) (fun _=>z) (fun _ _=>s' E203 z) (cP' aq) z (fun G' o=>(Z.mono o)) (fun v G1 G2 o h=>?_) ?_
 ·obtain⟨g,j,rfl,E⟩:=h
  exact⟨_,_,z,E.mono o⟩
 obtain⟨J,an,hr⟩:=hr
 refine cR' (f:=202) (φ:=fun G v=>∃ n m,v = .slice n J.length m∧sl (Rp.int .u32) G n m J) (fun _=>z) (fun v G1 G2 o h=>?_) (fun u G' o hu=>?_) ?_
 ·obtain⟨n,m,rfl,L⟩:=h
  exact⟨_,_,z,L.mono o⟩
 ·obtain⟨⟨g,j,aa,E⟩,_⟩:=(show (fun G v=>∃ g j,v = .slice g D.length j∧sl (Rp.int .u32) G g j D) G'.m (u 13)∧True from hu)
  exact⟨_,_,_,fun _=>s' E202 z,eE' an,(by simp only[aa] <;> rfl),E⟩
 refine cu (fun _ _ o=>aO' z)<|cu (fun _ _ o=>b' 3 bG' z z z)<|db' (d:=14) (post:=fun G v=>∃ n m,v = .slice n J.length m∧sl (Rp.int .u32) G n m J) (d':=13) (post':=fun G v=>∃ g j,v = .slice g D.length j∧sl (Rp.int .u32) G g j D) (fun aO aQ aZ ad U R=>?_)
 obtain⟨n,m,rfl,L⟩:=U
 obtain⟨g,j,rfl,E⟩:=R
 obtain⟨aX,am,hr⟩:=hr
 refine M' z z (s' E203 z) (cP' am) z ((X.mono ad)) (fun aF aT ae Q=>?_)
 obtain⟨aL,aS,rfl,aj⟩:=Q
 obtain⟨aB,ag,hr⟩:=hr
 refine M' z z (s' E202 z) (eE' ag) z (aj) (fun aH W ab V=>?_)
 obtain⟨ao,ap,rfl,ai⟩:=V
 refine sg z z<|sg z z<|u'<|am'<|e'<|h'<|aa' (fun (⟨K,H,I,C,k,l,x⟩:(List Int)×Option Addr×Nat×Zf×Option Addr×Nat×Mem)=>[(4,.pointer (some ⟨b4,0,none⟩)),(5,.slice H K.length I)]) (fun ⟨K,H,I,C,k,l,x⟩=>Mem.le W x∧sl (Rp.int .u32) x H I K∧sl (Rp.int .u32) x k l C.mag∧(ZcT K).Ret r) (fun ⟨K,H,I,C,k,l,x⟩=>St w0 G0 x [(4,some ⟨b4,.cells ((v58' C k l)).toArray 58 (0,0),0⟩)]) ?_ ?_
 ·refine B' ?_
  let Y:(Zf⊕((List Int)×Zf))→Prop:=fun oo=>((fun ov=>match ov with | .inl rv1=>Comp.ret rv1 | .inr (K,C)=>ZcT K:(Zf⊕((List Int)×Zf))→Comp Zf) oo).wp (fun a=>a=r)
  replace hr:(Comp.loop _ _).wp Y:=hr
  refine ab' (Φ:=Y) (fun (⟨F,B,A,y,q,s,t,e,c,p⟩:(List Int)×Option Addr×Nat×(List Int)×Option Addr×Nat×Zf×Option Addr×Nat×Mem)=>((F,y,t):(List Int)×(List Int)×Zf)) (fun ⟨F,B,A,y,q,s,t,e,c,p⟩=>[(4,.pointer (some ⟨b4,0,none⟩)),(5,.slice B F.length A),(6,.slice q y.length s)]) (fun ⟨F,B,A,y,q,s,t,e,c,p⟩=>Mem.le W p∧sl (Rp.int .u32) p B A F∧sl (Rp.int .u32) p q s y∧sl (Rp.int .u32) p e c t.mag) (fun ⟨F,B,A,y,q,s,t,e,c,p⟩=>St w0 G0 p [(4,some ⟨b4,.cells ((v58' t e c)).toArray 58 (0,0),0⟩)]) ⟨J,n,m,aB,ao,ap,(Zf.mk false []),none,0,W⟩ hr (fc z (fc z (fc z fn))) ⟨mr,(L.mono (mt ae ab)),ai,(ah' _ _)⟩ (wk (lc z ln)) ?_
  ·intro aY gx hx hr
   obtain⟨F,B,A,y,q,s,t,e,c,p⟩:=gx
   obtain⟨ac,ax,ah,S⟩:=hx
   refine h'<|sr<|mv z z<|yy (L' y' ah z) z<|yy (br' z z) z<|nx<|I' hr z (fun aC hr=>?_) (fun aC hr=>?_)
   ·exact (show False from hr).elim
   ·refine ad'<|n'<|n'<|J'<|ae' ⟨F,B,A,t,e,c,p⟩ ⟨ac,ax,S,hr⟩ (fc z (fc z fn)) (wk (lc z ln))
 ·rintro⟨K,H,I,C,k,l,x⟩ ⟨aE,aA,au,hr⟩
  refine e'<|sr<|mv z z ?_
  obtain⟨aV,ak,hr⟩:=hr
  refine M' z z (s' E205 z) (dO' ak) z (aA) (fun aM aW aD P=>?_)
  obtain⟨av,ar,rfl,T⟩:=P
  refine v' 4 z sz58 z z z z z (List.all_eq_true.1 z)<|nx<|j' ?_
  obtain rfl:_=r:=hr
  exact k' z (ac' (i:=4) bk' z z z) ⟨_,_,z,T⟩
theorem fD'{a1 a1nummagp a1nummagc a1denmagp a1denmagc r}(hr:(ZbN a1).Ret r):Ctr Tryz.prog 169 #[.agg ([.bool a1.num.neg,.slice a1nummagp a1.num.mag.length a1nummagc,.bool a1.den.neg,.slice a1denmagp a1.den.mag.length a1denmagc]).toArray] (fun G=>sl (Rp.int .u32) G a1nummagp a1nummagc a1.num.mag∧sl (Rp.int .u32) G a1denmagp a1denmagc a1.den.mag) (fun G v=>v = .bool r):=by
 refine C' (args:=[_]) (N:=30) Tryz.func169 z z z (fun E o J m=>?_)
 obtain⟨d,c⟩:=m
 refine sr<|W' 1 z z z fun y=>sg z z<|nx<|aV' (fun (i:Mem)=>match i with|f=>[(1,.pointer (some ⟨y,0,none⟩))]) (fun (i:Mem)=>match i with|f=>Mem.le o f∧(Zdv a1).Ret r) (fun (i:Mem)=>match i with|f=>St E o f [(1,some ⟨y,.cells ([.bool a1.num.neg,.slice a1nummagp a1.num.mag.length a1nummagc,.bool a1.den.neg,.slice a1denmagp a1.den.mag.length a1denmagc]).toArray 60 (0,0),0⟩)]) ?_ ?_
 ·skip
  refine sr<|yy (cn' z) z<|yy (av' ((v58' a1.num a1nummagp a1nummagc)).toArray 1 bk' z z z (aM' ([]) ((v58' a1.num a1nummagp a1nummagc)) ((v58' a1.den a1denmagp a1denmagc)))) z ?_
  obtain⟨x,k,hr⟩:=hr
  refine F' z z (s' E188 z) (eD' k) z (d) ?_
  cases x
  ·skip
   refine yy (ao' z) z<|mv z z<|sf z z z<|sf z z z<|sf z z z<|sf z z z<|yy (m' z z) z<|mv z z<|sf z z z<|sf z z z<|sf z z z<|sf z z z<|yy (m' z z) z<|nx<|at' z<|sr<|sg z z<|nx<|j' ?_
   replace hr:_=r:=hr
   refine g' ?_
   subst hr
   exact k' z z z
  ·skip
   refine yy (ao' z) z<|mv z z<|gy z z (bW' z) z<|gy z z (av' ((v58' a1.den a1denmagp a1denmagc)).toArray 1 bk' z z z (aM' ((v58' a1.num a1nummagp a1nummagc)) ((v58' a1.den a1denmagp a1denmagc)) ([]))) z ?_
   obtain⟨B,l,hr⟩:=hr
   refine F' (H' z z) z (s' E188 z) (eD' l) z (c) ?_
   cases B
   ·skip
    refine gy z z (ao' z) z<|yy (l' z z) z<|mv z z<|sf z z z<|sf z z z<|sf z z z<|sf z z z<|yy (m' z z) z<|nx<|at' z<|sr<|sg z z<|nx<|j' ?_
    replace hr:_=r:=hr
    refine g' ?_
    subst hr
    exact k' z z z
   ·skip
    refine gy z z (ao' z) z<|yy (l' z z) z<|mv z z<|gy z z (bW' z) z<|gy z z (av' ((v58' a1.den a1denmagp a1denmagc)).toArray 1 bk' z z z (aM' ((v58' a1.num a1nummagp a1nummagc)) ((v58' a1.den a1denmagp a1denmagc)) ([]))) z ?_
    obtain⟨F,j,hr⟩:=hr
    refine F' (H' z z) z (s' E189 z) (dA' j) z (c)<|gy z z (bz' z z) z<|yy (l' z z) z<|nx<|I' hr z (fun A hr=>?_) (fun A hr=>?_)
    ·exact (show False from hr).elim
    ·refine o'<|ap' o ⟨mr,hr⟩ (fc z fn) (wk (lc z ln))
 ·rintro f ⟨e,hr⟩
  refine sr<|yy (bW' z) z<|yy (av' ((v58' a1.den a1denmagp a1denmagc)).toArray 1 bk' z z z (aM' ((v58' a1.num a1nummagp a1nummagc)) ((v58' a1.den a1denmagp a1denmagc)) ([]))) z ?_
  obtain⟨u,q,hr⟩:=hr
  refine F' z z (s' E190 z) (dk' q) z ((c.mono e)) ?_
  cases u
  ·skip
   refine mv z z<|gy z z (cn' z) z<|gy z z (av' ((v58' a1.num a1nummagp a1nummagc)).toArray 1 bk' z z z (aM' ([]) ((v58' a1.num a1nummagp a1nummagc)) ((v58' a1.den a1denmagp a1denmagc)))) z<|gy z z (bW' z) z<|gy z z (av' ((v58' a1.den a1denmagp a1denmagc)).toArray 1 bk' z z z (aM' ((v58' a1.num a1nummagp a1nummagc)) ((v58' a1.den a1denmagp a1denmagc)) ([]))) z ?_
   obtain⟨I,p,hr⟩:=hr
   refine M' (H' z z) z (s' E191 z) (gg' p) z (⟨(d.mono e),(c.mono e)⟩) (fun D H C g=>?_)
   obtain⟨t,s,rfl,h⟩:=g
   obtain⟨K,n,hr⟩:=hr
   refine F' (H' z z) z (s' E190 z) (dk' n) z (h)<|yy (l' z z) z<|sg z z<|nx<|j' ?_
   obtain rfl:_=r:=hr
   exact k' z z z
  ·skip
   refine mv z z<|sf z z z<|sf z z z<|sf z z z<|sf z z z<|sf z z z<|sf z z z<|yy (m' z z) z<|sg z z<|nx<|j' ?_
   obtain rfl:_=r:=hr
   exact k' z z z
theorem dr'{a1 a1nummagp a1nummagc a1denmagp a1denmagc r}(hr:(Zaq a1).Ret r):Ctr Tryz.prog 170 #[.agg ([.bool a1.num.neg,.slice a1nummagp a1.num.mag.length a1nummagc,.bool a1.den.neg,.slice a1denmagp a1.den.mag.length a1denmagc]).toArray] (fun G=>sl (Rp.int .u32) G a1nummagp a1nummagc a1.num.mag∧sl (Rp.int .u32) G a1denmagp a1denmagc a1.den.mag) (fun G v=>v=i' r):=by
 refine C' (args:=[_]) (N:=6) Tryz.func170 z z z (fun j k h e=>?_)
 obtain⟨c,d⟩:=e
 refine sr<|W' 1 z z z fun i=>sg z z<|nr<|yy (cn' z) z<|yy (av' ((v58' a1.num a1nummagp a1nummagc)).toArray 1 bk' z z z (aM' ([]) ((v58' a1.num a1nummagp a1nummagc)) ((v58' a1.den a1denmagp a1denmagc)))) z ?_
 obtain⟨g,f,hr⟩:=hr
 refine F' z z (s' E189 z) (dA' f) z (c)<|sg z z<|nx<|j' ?_
 obtain rfl:_=r:=hr
 exact k' z z z
theorem fE'{m1 r}(hr:(ZcV m1).Ret r):Ctr Tryz.prog 171 #[.agg (vecG (Value.int .i64) 8 m1).toArray] (fun G=>True) (fun G v=>v = .bool r):=by
 refine C' (args:=[_]) (N:=16) Tryz.func171 z z z fun l i u s=>sr<|W' 1 z z z fun y=>sg z z<|nx<|h'<|sr<|yy (t' 1 bS' z z (O' _ _ _)) z<|mv z z<|nx<|aa' (fun (f:Mem)=>match f with|e=>[]) (fun (f:Mem)=>match f with|e=>Mem.le i e∧(ZbP).Ret r) (fun (f:Mem)=>match f with|e=>St l i e []) ?_ ?_
 ·refine B' ?_
  let h:(Bool⊕Unit)→Prop:=fun p=>((fun t=>match t with | .inl rv1=>Comp.ret rv1 | .inr ()=>ZbP:(Bool⊕Unit)→Comp Bool) p).wp (fun a=>a=r)
  replace hr:(Comp.loop _ _).wp h:=hr
  refine ab' (Φ:=h) (fun (⟨c,d⟩:Int×Mem)=>(c:Int)) (fun ⟨c,d⟩=>[(5,.agg (vecG (Value.int .i64) 8 m1).toArray),(6,i' c)]) (fun ⟨c,d⟩=>Mem.le i d) (fun ⟨c,d⟩=>St l i d []) ⟨0,i⟩ hr (fc z (fc z fn)) mr (wk ln) ?_
  ·intro x f q hr
   obtain⟨c,d⟩:=f
   have g:=q
   refine sr<|yy (V' z z) z<|nx<|h'<|I' hr z (fun m hr=>?_) (fun m hr=>?_)
   ·refine o'<|e'<|h'<|B'<|sr ?_
    obtain⟨j,hr⟩:=hr
    refine yy (Y0.index aG' sc3 sz3 z z j (by' _ _ _ j)) z<|sg z z<|nr<|mv z z<|aj' hr z (V' z z) z (fun n hr=>?_) (fun n hr=>?_)
    ·refine mv z z<|sf z z z<|sf z z z<|yy (m' z z) z<|nx<|at' z<|sr<|sg z z<|nx<|j' ?_
     replace hr:_=r:=hr
     refine x'<|g'<|g'<|x'<|aI'<|g' ?_
     subst hr
     exact k' z z z
    ·refine mv z z<|gy z z (f' z) z<|gy z z (br' z z) z<|yy (l' z z) z<|nx<|I' hr z (fun k hr=>?_) (fun k hr=>?_)
     ·exact (show False from hr).elim
     ·refine o'<|D'<|e'<|w'<|yy (N' z z) z<|mv z z<|u'<|P' ⟨IntKind.i64.wrap (c+1),d⟩ hr g (fc z (fc z fn)) (wk ln)
   ·refine ad'<|n'<|n'<|J'<|ae' d ⟨g,hr⟩ fn (wk ln)
 ·rintro e ⟨o,hr⟩
  refine e'<|sr<|sg z z<|nx<|j' ?_
  obtain rfl:_=r:=hr
  exact k' z z z
theorem dv'{p1 p1p p1c r}(hr:(Zbe p1).Ret r):Ctr Tryz.prog 133 #[.slice p1p p1.length p1c] (fun G=>sl r' G p1p p1c p1) (fun G v=>v = .bool r):=by
 refine C' (args:=[_]) (N:=43) Tryz.func133 z z z (fun D y ab E=>?_)
 have s:=E
 refine sr<|sg z z<|nx<|h'<|sr<|mv z z<|yy (L' R' s z) z<|mv z z<|nx<|aa' (fun (n:Mem)=>match n with|q=>[]) (fun (n:Mem)=>match n with|q=>Mem.le y q∧(Zbn).Ret r) (fun (n:Mem)=>match n with|q=>St D y q []) ?_ ?_
 ·refine B' ?_
  let t:(Bool⊕Unit)→Prop:=fun W=>((fun Y=>match Y with | .inl rv1=>Comp.ret rv1 | .inr ()=>Zbn:(Bool⊕Unit)→Comp Bool) W).wp (fun a=>a=r)
  replace hr:(Comp.loop _ _).wp t:=hr
  refine ab' (Φ:=t) (fun (⟨h,m⟩:Int×Mem)=>(h:Int)) (fun ⟨h,m⟩=>[(0,.slice p1p p1.length p1c),(5,.slice p1p p1.length p1c),(6,i' (p1.length:Int)),(7,i' h)]) (fun ⟨h,m⟩=>Mem.le y m) (fun ⟨h,m⟩=>St D y m []) ⟨0,y⟩ hr (fc z (fc z (fc z (fc z fn)))) mr (wk ln) ?_
  ·intro S n X hr
   obtain⟨h,m⟩:=n
   have l:=X
   refine sr<|yy (V' z z) z<|nx<|h'<|I' hr z (fun Q hr=>?_) (fun Q hr=>?_)
   ·refine o'<|e'<|h'<|B'<|sr<|mv z z ?_
    obtain⟨g,B,hr⟩:=hr
    refine yy (Q' R' bD' (s.mono l) z z B) z ?_
    obtain⟨c,d,f,e,O,j,k⟩:=cB' (E' (Z' s B) l)
    refine yy (aw' _ ag101 z z O) z<|T' 4 z z101 z fun L=>sg z z<|v' 4 z bD' z z z z z (fun u T=>Rp.one r' (G:=m) (x:=g) (cs:=([.bool g.c.num.neg,.slice c g.c.num.mag.length d,.bool g.c.den.neg,.slice f g.c.den.mag.length e]:List Value)++(vecG (Value.int .i64) 8 g.m)) ⟨[.bool g.c.num.neg,.slice c g.c.num.mag.length d,.bool g.c.den.neg,.slice f g.c.den.mag.length e],vecG (Value.int .i64) 8 g.m,z,⟨(v58' g.c.num c d),(v58' g.c.den f e),z,⟨[.bool g.c.num.neg],[.slice c g.c.num.mag.length d],z,z,⟨_,z,j⟩⟩,⟨[.bool g.c.den.neg],[.slice f g.c.den.mag.length e],z,z,⟨_,z,k⟩⟩⟩,z⟩ u (by first|simpa using T|simpa [Value.cells] using T))<|nx<|aV' (fun (n:Mem)=>match n with|p=>[(0,.slice p1p p1.length p1c),(3,i' h),(4,.pointer (some ⟨L,0,none⟩)),(5,.slice p1p p1.length p1c),(6,i' (p1.length:Int)),(7,i' h)]) (fun (n:Mem)=>match n with|p=>Mem.le m p∧(ZaG p1 h g).wp (Out S t)) (fun (n:Mem)=>match n with|p=>St D y p [(4,some ⟨L,.cells (([.bool g.c.num.neg,.slice c g.c.num.mag.length d,.bool g.c.den.neg,.slice f g.c.den.mag.length e]:List Value)++(vecG (Value.int .i64) 8 g.m)).toArray 101 (0,0),0⟩)]) ?_ ?_
    ·skip
     refine sr<|yy (ce' z) z<|yy (av' ([.bool g.c.num.neg,.slice c g.c.num.mag.length d,.bool g.c.den.neg,.slice f g.c.den.mag.length e]).toArray 4 ci' z z z (aM' ([]) ([.bool g.c.num.neg,.slice c g.c.num.mag.length d,.bool g.c.den.neg,.slice f g.c.den.mag.length e]) ((vecG (Value.int .i64) 8 g.m)))) z ?_
     obtain⟨P,H,hr⟩:=hr
     refine F' z z (s' E169 z) (fD' H) z (⟨j,k⟩) ?_
     cases P
     ·skip
      refine yy (ao' z) z<|mv z z<|sf z z z<|sf z z z<|sf z z z<|sf z z z<|yy (m' z z) z<|mv z z<|sf z z z<|sf z z z<|sf z z z<|sf z z z<|yy (m' z z) z<|nx<|at' z<|sr<|sg z z<|nx<|j' ?_
      replace hr:_=r:=hr
      refine g'<|x'<|g'<|g'<|x'<|aI'<|g' ?_
      subst hr
      exact k' z z z
     ·skip
      refine yy (ao' z) z<|mv z z<|gy z z (ce' z) z<|gy z z (av' ([.bool g.c.num.neg,.slice c g.c.num.mag.length d,.bool g.c.den.neg,.slice f g.c.den.mag.length e]).toArray 4 ci' z z z (aM' ([]) ([.bool g.c.num.neg,.slice c g.c.num.mag.length d,.bool g.c.den.neg,.slice f g.c.den.mag.length e]) ((vecG (Value.int .i64) 8 g.m)))) z ?_
      obtain⟨ac,F,hr⟩:=hr
      refine F' (H' z z) z (s' E170 z) (dr' F) z (⟨j,k⟩)<|aj' hr (H' z z) (ak' z z) z (fun R hr=>?_) (fun R hr=>?_)
      ·refine yy (l' z z) z<|mv z z<|sf z z z<|sf z z z<|sf z z z<|sf z z z<|yy (m' z z) z<|nx<|at' z<|sr<|sg z z<|nx<|j' ?_
       replace hr:_=r:=hr
       refine g'<|x'<|g'<|g'<|x'<|aI'<|g' ?_
       subst hr
       exact k' z z z
      ·refine yy (l' z z) z<|mv z z<|gy z z (bm' z) z<|gy z z (av' (vecG (Value.int .i64) 8 g.m).toArray 4 bS' z z (O' _ _ _) (aM' ([.bool g.c.num.neg,.slice c g.c.num.mag.length d,.bool g.c.den.neg,.slice f g.c.den.mag.length e]) (vecG (Value.int .i64) 8 g.m) ([]))) z ?_
       obtain⟨aa,C,hr⟩:=hr
       refine F' (H' z z) z (s' E171 z) (fE' C) z (trivial)<|gy z z (ao' z) z<|yy (l' z z) z<|nx<|aN' hr z (fun J hr=>?_) (fun J hr=>?_)
       ·exact (show False from hr).elim
       ·refine o'<|ap' m ⟨mr,hr⟩ (fc z (fc z (fc z (fc z (fc z (fc z fn)))))) (wk (lc z ln))
    ·rintro p ⟨o,hr⟩
     refine h'<|Y' [false,false,false,false,false,false,false,false,false,false,false] mix (by kernel_rfl) fun M=>cn (fun _ i=>f' z)<|bY' hr z (fun _ i=>br' z z) (fun U hr=>?_) (fun U hr=>?_)
     ·refine cn (fun _ i=>f' z)<|cy z z (fun _ i=>f' z)<|cy z z (fun _ i=>f' z)<|cy z z (fun _ i=>bd' z z) ?_
      obtain⟨x2,A,hr⟩:=hr
      refine cy z z (fun _ i=>Q' R' bD' ((s.mono (mt l o)).mono i) z z A)<|cy z z (fun _ i=>bm' z)<|cy z z (fun _ i=>aw' _ bS' z (O' _ _ _) (cW' (E' (E' (aK' (aF' (Z' s A))) (mt l o)) i)))<|cy z z (fun _ i=>bm' z)<|cy z z (fun _ i=>av' (vecG (Value.int .i64) 8 g.m).toArray 4 bS' z z (O' _ _ _) (aM' ([.bool g.c.num.neg,.slice c g.c.num.mag.length d,.bool g.c.den.neg,.slice f g.c.den.mag.length e]) (vecG (Value.int .i64) 8 g.m) ([])))<|X' M ?_
      obtain⟨Z,I,hr⟩:=hr
      refine F' (H' z z) z (s' E172 z) (eI' I) z (trivial)<|gy z z (bz' z z) z<|yy (m' z z) z<|u'<|am'<|e'<|I' hr z (fun K hr=>?_) (fun K hr=>?_)
      ·exact (show False from hr).elim
      ·refine o'<|D'<|e'<|w'<|yy (N' z z) z<|mv z z<|u'<|P' ⟨IntKind.i64.wrap (h+1),p⟩ hr (mt l o) (fc z (fc z (fc z (fc z fn)))) (wk ln)
     ·refine cn (fun _ i=>f' z)<|ct z z<|ct z z<|ct z z<|ct z z<|ct z z<|ct z z<|ct z z<|ct z z<|X' M<|sk z z z<|sk z z z<|yy (l' z z) z<|u'<|am'<|e'<|bg' z<|o'<|D'<|e'<|w'<|yy (N' z z) z<|mv z z<|u'<|P' ⟨IntKind.i64.wrap (h+1),p⟩ hr (mt l o) (fc z (fc z (fc z (fc z fn)))) (wk ln)
   ·refine ad'<|n'<|n'<|J'<|ae' m ⟨l,hr⟩ fn (wk ln)
 ·rintro q ⟨V,hr⟩
  refine e'<|sr<|sg z z<|nx<|j' ?_
  obtain rfl:_=r:=hr
  exact k' z z z
theorem fc'{m1 r}(hr:(Zb1 m1).Ret r):Ctr Tryz.prog 146 #[.agg (vecG (Value.int .i64) 8 m1).toArray] (fun G=>True) (fun G v=>v = .int .u8 r):=by
 refine C' (args:=[_]) (N:=19) Tryz.func146 z z z fun m j y u=>sr<|W' 1 z z z fun B=>sg z z<|nr<|sg z z<|nx<|h'<|sr<|yy (t' 1 bS' z z (O' _ _ _)) z<|mv z z<|nx<|aa' (fun (⟨h,g⟩:Int×Mem)=>[(3,.int .u8 h)]) (fun ⟨h,g⟩=>Mem.le j g∧(Zbm h).Ret r) (fun ⟨h,g⟩=>St m j g []) ?_ ?_
 ·refine B' ?_
  let i:Int→Prop:=fun s=>((fun x=>match x with|h=>Zbm h:Int→Comp Int) s).wp (fun a=>a=r)
  replace hr:(Comp.loop _ _).wp i:=hr
  refine ab' (Φ:=i) (fun (⟨e,c,d⟩:Int×Int×Mem)=>((e,c):Int×Int)) (fun ⟨e,c,d⟩=>[(3,.int .u8 e),(6,.agg (vecG (Value.int .i64) 8 m1).toArray),(7,i' c)]) (fun ⟨e,c,d⟩=>Mem.le j d) (fun ⟨e,c,d⟩=>St m j d []) ⟨0,0,j⟩ hr (fc z (fc z (fc z fn))) mr (wk ln) ?_
  ·intro A q t hr
   obtain⟨e,c,d⟩:=q
   have f:=t
   refine sr<|yy (V' z z) z<|nx<|h'<|I' hr z (fun n hr=>?_) (fun n hr=>?_)
   ·refine o'<|e'<|h'<|B'<|sr<|mv z z ?_
    obtain⟨k,hr⟩:=hr
    refine yy (Y0.index aG' sc3 sz3 z z k (by' _ _ _ k)) z<|sg z z<|sg z z<|nr<|mv z z<|yy (br' z z) z<|nx<|I' hr z (fun l hr=>?_) (fun l hr=>?_)
    ·refine w'<|mv z z<|mv z z ?_
     obtain⟨o,hr⟩:=hr
     refine yy (Y0.shl z z o) z<|yy (Y0.or z z) z<|sg z z<|u'<|D'<|e'<|w'<|yy (N' z z) z<|mv z z<|u'<|P' ⟨IntKind.u8.wrap (BitVec.ofInt IntKind.u8.bits e ||| BitVec.ofInt IntKind.u8.bits (IntKind.u8.wrap (1*2 ^ (min (c).toNat IntKind.u8.bits)))).toNat,IntKind.i64.wrap (c+1),d⟩ hr f (fc z (fc z (fc z fn))) (wk ln)
    ·refine o'<|D'<|e'<|w'<|yy (N' z z) z<|mv z z<|u'<|P' ⟨e,IntKind.i64.wrap (c+1),d⟩ hr f (fc z (fc z (fc z fn))) (wk ln)
   ·refine ad'<|n'<|n'<|J'<|ae' ⟨e,d⟩ ⟨f,hr⟩ (fc z fn) (wk ln)
 ·rintro⟨h,g⟩ ⟨p,hr⟩
  refine e'<|sr<|mv z z<|sg z z<|nx<|j' ?_
  obtain rfl:_=r:=hr
  exact k' z z z
theorem cG'{p1 p1p p1c r}(hr:(ZaO p1).Ret r):Ctr Tryz.prog 106 #[.slice p1p p1.length p1c] (fun G=>sl r' G p1p p1c p1) (fun G v=>v = .int .u8 r):=by
 refine C' (args:=[_]) (N:=19) Tryz.func106 z z z (fun D q M y=>?_)
 have s:=y
 refine sr<|sg z z<|nr<|sg z z<|nx<|h'<|sr<|mv z z<|yy (L' R' s z) z<|mv z z<|nx<|aa' (fun (⟨o,m⟩:Int×Mem)=>[(3,.int .u8 o)]) (fun ⟨o,m⟩=>Mem.le q m∧(ZbD o).Ret r) (fun ⟨o,m⟩=>St D q m []) ?_ ?_
 ·refine B' ?_
  let p:Int→Prop:=fun J=>((fun K=>match K with|o=>ZbD o:Int→Comp Int) J).wp (fun a=>a=r)
  replace hr:(Comp.loop _ _).wp p:=hr
  refine ab' (Φ:=p) (fun (⟨n,h,i⟩:Int×Int×Mem)=>((n,h):Int×Int)) (fun ⟨n,h,i⟩=>[(3,.int .u8 n),(6,.slice p1p p1.length p1c),(7,i' (p1.length:Int)),(8,i' h)]) (fun ⟨n,h,i⟩=>Mem.le q i) (fun ⟨n,h,i⟩=>St D q i []) ⟨0,0,q⟩ hr (fc z (fc z (fc z (fc z fn)))) mr (wk ln) ?_
  ·intro O I L hr
   obtain⟨n,h,i⟩:=I
   have j:=L
   refine sr<|yy (V' z z) z<|nx<|h'<|I' hr z (fun E hr=>?_) (fun E hr=>?_)
   ·refine o'<|e'<|h'<|B'<|sr ?_
    obtain⟨g,t,hr⟩:=hr
    refine yy (Q' R' bD' (s.mono j) z z t) z ?_
    obtain⟨c,d,f,e,C,k,l⟩:=cB' (E' (Z' s t) j)
    refine yy (aw' _ ag101 z z C) z<|T' 5 z z101 z fun P=>v' 5 z bD' z z z z z (fun u F=>Rp.one r' (G:=i) (x:=g) (cs:=([.bool g.c.num.neg,.slice c g.c.num.mag.length d,.bool g.c.den.neg,.slice f g.c.den.mag.length e]:List Value)++(vecG (Value.int .i64) 8 g.m)) ⟨[.bool g.c.num.neg,.slice c g.c.num.mag.length d,.bool g.c.den.neg,.slice f g.c.den.mag.length e],vecG (Value.int .i64) 8 g.m,z,⟨(v58' g.c.num c d),(v58' g.c.den f e),z,⟨[.bool g.c.num.neg],[.slice c g.c.num.mag.length d],z,z,⟨_,z,k⟩⟩,⟨[.bool g.c.den.neg],[.slice f g.c.den.mag.length e],z,z,⟨_,z,l⟩⟩⟩,z⟩ u (by first|simpa using F|simpa [Value.cells] using F))<|nx<|w'<|mv z z<|yy (bm' z) z<|yy (av' (vecG (Value.int .i64) 8 g.m).toArray 5 bS' z z (O' _ _ _) (aM' ([.bool g.c.num.neg,.slice c g.c.num.mag.length d,.bool g.c.den.neg,.slice f g.c.den.mag.length e]) (vecG (Value.int .i64) 8 g.m) ([]))) z ?_
    obtain⟨B,A,hr⟩:=hr
    refine F' z z (s' E146 z) (fc' A) z (trivial)<|yy (Y0.or z z) z<|sg z z<|u'<|D'<|e'<|w'<|yy (N' z z) z<|mv z z<|u'<|P' ⟨IntKind.u8.wrap (BitVec.ofInt IntKind.u8.bits n ||| BitVec.ofInt IntKind.u8.bits B).toNat,IntKind.i64.wrap (h+1),i⟩ hr j (fc z (fc z (fc z (fc z fn)))) (wk ln)
   ·refine ad'<|n'<|n'<|J'<|ae' ⟨n,i⟩ ⟨j,hr⟩ (fc z fn) (wk ln)
 ·rintro⟨o,m⟩ ⟨H,hr⟩
  refine e'<|sr<|mv z z<|sg z z<|nx<|j' ?_
  obtain rfl:_=r:=hr
  exact k' z z z
theorem fm'{m1 r}(hr:(Zcy m1).Ret r):Ctr Tryz.prog 173 #[.agg (vecG (Value.int .i64) 8 m1).toArray] (fun G=>True) (fun G v=>v=i' r):=by
 refine C' (args:=[_]) (N:=15) Tryz.func173 z z z fun l j u s=>sr<|W' 1 z z z fun y=>sg z z<|nr<|sg z z<|nx<|h'<|sr<|yy (t' 1 bS' z z (O' _ _ _)) z<|mv z z<|nx<|aa' (fun (⟨g,e⟩:Int×Mem)=>[(3,i' g)]) (fun ⟨g,e⟩=>Mem.le j e∧(ZbB g).Ret r) (fun ⟨g,e⟩=>St l j e []) ?_ ?_
 ·refine B' ?_
  let i:Int→Prop:=fun p=>((fun t=>match t with|g=>ZbB g:Int→Comp Int) p).wp (fun a=>a=r)
  replace hr:(Comp.loop _ _).wp i:=hr
  refine ab' (Φ:=i) (fun (⟨f,c,d⟩:Int×Int×Mem)=>((f,c):Int×Int)) (fun ⟨f,c,d⟩=>[(3,i' f),(6,.agg (vecG (Value.int .i64) 8 m1).toArray),(7,i' c)]) (fun ⟨f,c,d⟩=>Mem.le j d) (fun ⟨f,c,d⟩=>St l j d []) ⟨0,0,j⟩ hr (fc z (fc z (fc z fn))) mr (wk ln) ?_
  ·intro x o q hr
   obtain⟨f,c,d⟩:=o
   have h:=q
   refine sr<|yy (V' z z) z<|nx<|h'<|I' hr z (fun m hr=>?_) (fun m hr=>?_)
   ·refine o'<|e'<|h'<|B'<|sr ?_
    obtain⟨k,hr⟩:=hr
    refine yy (Y0.index aG' sc3 sz3 z z k (by' _ _ _ k)) z<|sg z z<|nx<|w'<|mv z z<|mv z z<|yy (N' z z) z<|sg z z<|u'<|D'<|e'<|w'<|yy (N' z z) z<|mv z z<|u'<|P' ⟨IntKind.i64.wrap (f+(getF m1 c)),IntKind.i64.wrap (c+1),d⟩ hr h (fc z (fc z (fc z fn))) (wk ln)
   ·refine ad'<|n'<|n'<|J'<|ae' ⟨f,d⟩ ⟨h,hr⟩ (fc z fn) (wk ln)
 ·rintro⟨g,e⟩ ⟨n,hr⟩
  refine e'<|sr<|mv z z<|sg z z<|nx<|j' ?_
  obtain rfl:_=r:=hr
  exact k' z z z
theorem dq'{p1 p1p p1c r}(hr:(ZaV p1).Ret r):Ctr Tryz.prog 134 #[.slice p1p p1.length p1c] (fun G=>sl r' G p1p p1c p1) (fun G v=>v=i' r):=by
 refine C' (args:=[_]) (N:=19) Tryz.func134 z z z (fun D q M A=>?_)
 have s:=A
 refine sr<|sg z z<|nr<|sg z z<|nx<|h'<|sr<|mv z z<|yy (L' R' s z) z<|mv z z<|nx<|aa' (fun (⟨o,n⟩:Int×Mem)=>[(3,i' o)]) (fun ⟨o,n⟩=>Mem.le q n∧(Zbd o).Ret r) (fun ⟨o,n⟩=>St D q n []) ?_ ?_
 ·refine B' ?_
  let p:Int→Prop:=fun J=>((fun K=>match K with|o=>Zbd o:Int→Comp Int) J).wp (fun a=>a=r)
  replace hr:(Comp.loop _ _).wp p:=hr
  refine ab' (Φ:=p) (fun (⟨l,h,i⟩:Int×Int×Mem)=>((l,h):Int×Int)) (fun ⟨l,h,i⟩=>[(3,i' l),(6,.slice p1p p1.length p1c),(7,i' (p1.length:Int)),(8,i' h)]) (fun ⟨l,h,i⟩=>Mem.le q i) (fun ⟨l,h,i⟩=>St D q i []) ⟨(-1),0,q⟩ hr (fc z (fc z (fc z (fc z fn)))) mr (wk ln) ?_
  ·intro O I L hr
   obtain⟨l,h,i⟩:=I
   have j:=L
   refine sr<|yy (V' z z) z<|nx<|h'<|I' hr z (fun E hr=>?_) (fun E hr=>?_)
   ·refine o'<|e'<|h'<|B'<|sr ?_
    obtain⟨g,y,hr⟩:=hr
    refine yy (Q' R' bD' (s.mono j) z z y) z ?_
    obtain⟨c,d,f,e,C,k,m⟩:=cB' (E' (Z' s y) j)
    refine yy (aw' _ ag101 z z C) z<|T' 5 z z101 z fun P=>v' 5 z bD' z z z z z (fun u F=>Rp.one r' (G:=i) (x:=g) (cs:=([.bool g.c.num.neg,.slice c g.c.num.mag.length d,.bool g.c.den.neg,.slice f g.c.den.mag.length e]:List Value)++(vecG (Value.int .i64) 8 g.m)) ⟨[.bool g.c.num.neg,.slice c g.c.num.mag.length d,.bool g.c.den.neg,.slice f g.c.den.mag.length e],vecG (Value.int .i64) 8 g.m,z,⟨(v58' g.c.num c d),(v58' g.c.den f e),z,⟨[.bool g.c.num.neg],[.slice c g.c.num.mag.length d],z,z,⟨_,z,k⟩⟩,⟨[.bool g.c.den.neg],[.slice f g.c.den.mag.length e],z,z,⟨_,z,m⟩⟩⟩,z⟩ u (by first|simpa using F|simpa [Value.cells] using F))<|nx<|w'<|mv z z<|yy (bm' z) z<|yy (av' (vecG (Value.int .i64) 8 g.m).toArray 5 bS' z z (O' _ _ _) (aM' ([.bool g.c.num.neg,.slice c g.c.num.mag.length d,.bool g.c.den.neg,.slice f g.c.den.mag.length e]) (vecG (Value.int .i64) 8 g.m) ([]))) z ?_
    obtain⟨t,B,hr⟩:=hr
    refine F' z z (s' E173 z) (fm' B) z (trivial)<|yy (Y0.max2 z z) z<|sg z z<|u'<|D'<|e'<|w'<|yy (N' z z) z<|mv z z<|u'<|P' ⟨if l<t then t else l,IntKind.i64.wrap (h+1),i⟩ hr j (fc z (fc z (fc z (fc z fn)))) (wk ln)
   ·refine ad'<|n'<|n'<|J'<|ae' ⟨l,i⟩ ⟨j,hr⟩ (fc z fn) (wk ln)
 ·rintro⟨o,n⟩ ⟨H,hr⟩
  refine e'<|sr<|mv z z<|sg z z<|nx<|j' ?_
  obtain rfl:_=r:=hr
  exact k' z z z
theorem gh'{p1 n1 p1p p1c r}(hr:(ZeX p1 n1).Ret r):Ctr Tryz.prog 88 #[.slice p1p p1.length p1c,i' n1] (fun G=>sl r' G p1p p1c p1) (fun G v=>v = .bool r):=by
 refine C' (args:=[_,_]) (N:=20) Tryz.func88 z z z (fun n o m d=>?_)
 have c:=d
 refine sr<|sg z z<|nr<|mv z z ?_
 obtain⟨h,g,hr⟩:=hr
 refine F' z z (s' E133 z) (dv' g) z (c) ?_
 cases h
 ·skip
  refine mv z z<|sk z z z<|sk z z z<|sk z z z<|sk z z z<|sk z z z<|sk z z z<|yy (l' z z) z<|mv z z<|sk z z z<|sk z z z<|sk z z z<|yy (l' z z) z<|sg z z<|nx<|j' ?_
  obtain rfl:_=r:=hr
  exact k' z z z
 ·skip
  refine mv z z<|gy z z (f' z) z ?_
  obtain⟨l,f,hr⟩:=hr
  refine F' (H' z z) z (s' E106 z) (cG' f) z (c)<|gy z z (aH' bi' az' z) z<|gy z z (f' z) z ?_
  obtain⟨j,hr⟩:=hr
  refine gy z z (Y0.shr z z j) z<|aj' hr (H' z z) (ak' z z) z (fun i hr=>?_) (fun i hr=>?_)
  ·refine yy (m' z z) z<|mv z z<|gy z z (f' z) z ?_
   obtain⟨k,e,hr⟩:=hr
   refine F' (H' z z) z (s' E134 z) (dq' e) z (c)<|gy z z (bz' z z) z<|yy (m' z z) z<|sg z z<|nx<|j' ?_
   obtain rfl:_=r:=hr
   exact k' z z z
  ·refine yy (m' z z) z<|mv z z<|sk z z z<|sk z z z<|sk z z z<|yy (l' z z) z<|sg z z<|nx<|j' ?_
   obtain rfl:_=r:=hr
   exact k' z z z
theorem ed'{a0_1 a0_1varsp a0_1varsc a0_1eqsp a0_1eqsc a0_1neqsp a0_1neqsc r}(hr:(Zak a0_1).Ret r):Ctr Tryz.prog 52 #[.agg ((v33' a0_1 a0_1varsp a0_1varsc a0_1eqsp a0_1eqsc a0_1neqsp a0_1neqsc)).toArray] (fun G=>sl Rp.str G a0_1varsp a0_1varsc a0_1.vars∧sl a' G a0_1eqsp a0_1eqsc a0_1.eqs∧sl a' G a0_1neqsp a0_1neqsc a0_1.neqs) (fun G v=>v = .bool r):=by
 refine C' (args:=[_]) (N:=108) Tryz.func52 z z z (fun S L aO ax=>?_)
 obtain⟨g,V,R⟩:=ax
 refine sr<|W' 1 z z z fun B=>sg z z<|nx<|aV' (fun (f:Mem)=>match f with|x=>[(1,.pointer (some ⟨B,0,none⟩))]) (fun (f:Mem)=>match f with|x=>Mem.le L x∧(Zew a0_1).Ret r) (fun (f:Mem)=>match f with|x=>St S L x [(1,some ⟨B,.cells ((v33' a0_1 a0_1varsp a0_1varsc a0_1eqsp a0_1eqsc a0_1neqsp a0_1neqsc)).toArray 33 (0,0),0⟩)]) ?_ ?_
 ·skip
  refine sr<|yy (ar' z) z<|yy (b' 1 bn' z z z) z<|yy (L' A' g z) z<|aj' hr z (br' z z) z (fun aM hr=>?_) (fun aM hr=>?_)
  ·refine mv z z<|sf z z z<|sf z z z<|sf z z z<|yy (m' z z) z<|mv z z<|sf z z z<|sf z z z<|sf z z z<|yy (m' z z) z<|nx<|at' z<|sr<|sg z z<|nx<|j' ?_
   replace hr:_=r:=hr
   refine g' ?_
   subst hr
   exact k' z z z
  ·refine mv z z<|gy z z (bf' z) z<|gy z z (b' 1 sc3 z z z) z<|aj' hr (H' z z) (V' z z) z (fun aX hr=>?_) (fun aX hr=>?_)
   ·refine yy (l' z z) z<|mv z z<|sf z z z<|sf z z z<|sf z z z<|yy (m' z z) z<|nx<|at' z<|sr<|sg z z<|nx<|j' ?_
    replace hr:_=r:=hr
    refine g' ?_
    subst hr
    exact k' z z z
   ·refine yy (l' z z) z<|mv z z<|gy z z (bf' z) z<|gy z z (b' 1 sc3 z z z) z<|gy z z (br' z z) z<|yy (l' z z) z<|nx<|I' hr z (fun aR hr=>?_) (fun aR hr=>?_)
    ·refine sr<|sg z z<|nx<|j' ?_
     replace hr:_=r:=hr
     refine g' ?_
     subst hr
     exact k' z z z
    ·refine o'<|ap' L ⟨mr,hr⟩ (fc z fn) (wk (lc z ln))
 ·rintro x ⟨q,hr⟩
  refine sr<|WL.makeMap (ky:=ky9) (Rv:=RvS Rp.bool x) 4025 z z fun au aj az=>sg z z<|nx<|h'<|sr<|yy (ar' z) z<|yy (b' 1 bn' z z z) z<|yy (L' A' (g.mono q) z) z<|mv z z<|nx<|aa' (fun (f:Mem)=>match f with|O=>[(1,.pointer (some ⟨B,0,none⟩))]) (fun (f:Mem)=>match f with|O=>Mem.le x O∧(Zbr a0_1).Ret r) (fun (f:Mem)=>match f with|O=>St S L O [(1,some ⟨B,.cells ((v33' a0_1 a0_1varsp a0_1varsc a0_1eqsp a0_1eqsc a0_1neqsp a0_1neqsc)).toArray 33 (0,0),0⟩)]) ?_ ?_
  ·refine B' ?_
   let ac:(Bool⊕Unit)→Prop:=fun oo=>((fun ov=>match ov with | .inl rv3=>Comp.ret rv3 | .inr ()=>Zbr a0_1:(Bool⊕Unit)→Comp Bool) oo).wp (fun a=>a=r)
   replace hr:(Comp.loop _ _).wp ac:=hr
   refine ab' (Φ:=ac) (fun (⟨m,J,s,u⟩:Int×(List (ByteArray×Bool))×Option Ow×Mem)=>((m,J):Int×(List (ByteArray×Bool)))) (fun ⟨m,J,s,u⟩=>[(1,.pointer (some ⟨B,0,none⟩)),(27,.slice a0_1varsp a0_1.vars.length a0_1varsc),(28,i' (a0_1.vars.length:Int)),(29,i' m),(3,.map (some au))]) (fun ⟨m,J,s,u⟩=>Mem.le x u∧MapR ky9 (RvS Rp.bool u) (.map (some au)) J s) (fun ⟨m,J,s,u⟩=>St S L u [(1,some ⟨B,.cells ((v33' a0_1 a0_1varsp a0_1varsc a0_1eqsp a0_1eqsc a0_1neqsp a0_1neqsc)).toArray 33 (0,0),0⟩),(4025,s)]) ⟨0,[],aj,x⟩ hr (fc z (fc z (fc z (fc z (fc z fn))))) ⟨mr,az⟩ (wk (lc z (lc z ln))) ?_
   ·intro bd f hx hr
    obtain⟨m,J,s,u⟩:=f
    obtain⟨D,ag⟩:=hx
    refine sr<|yy (V' z z) z<|nx<|h'<|I' hr z (fun aZ hr=>?_) (fun aZ hr=>?_)
    ·refine o'<|e'<|h'<|B'<|sr ?_
     obtain⟨x4,ao,hr⟩:=hr
     refine yy (Q' A' sz9 (g.mono (mt q D)) z z ao) z<|yy (U' sc9 z (bF' (E' (Z' g ao) (mt q D)))) z<|sg z z<|nx<|h'<|sr<|mv z z ?_
     obtain⟨a7,ay,hr⟩:=hr
     refine F' z z (s' E87 z) (fI' ay) z (trivial) ?_
     cases a7
     ·skip
      refine yy (ao' z) z<|mv z z<|sf z z z<|sf z z z<|sf z z z<|yy (m' z z) z<|nx<|at' z<|sr<|sg z z<|nx<|j' ?_
      replace hr:_=r:=hr
      refine g'<|x'<|g'<|g'<|x'<|aI'<|g' ?_
      subst hr
      exact k' z z z
     ·skip
      refine yy (ao' z) z<|mv z z<|gy z z (f' z) z<|gy z z (f' z) z ?_
      obtain⟨aL,hr⟩:=hr
      refine gy z z (Y0.mapGet1 (mk:=Value.bool) (k:=x4) 4025 false (fun h=>ZjT h) Tryz.underlying124 zv4 ag z z z aL) z<|yy (l' z z) z<|nx<|aN' hr z (fun a4 hr=>?_) (fun a4 hr=>?_)
      ·refine sr<|sg z z<|nx<|j' ?_
       replace hr:_=r:=hr
       refine g'<|x'<|g'<|g'<|x'<|aI'<|g' ?_
       subst hr
       exact k' z z z
      ·refine o'<|e'<|w'<|mv z z<|mv z z ?_
       obtain⟨⟨aU,aC⟩,hr⟩:=hr
       refine WL.mapPut (Rv':=RvS Rp.bool u) (k:=x4) (z:=true) 4025 z Tryz.underlying124 ag z z z z aU z (fun _ _ _ _ h=>h) aC fun ba aw=>u'<|D'<|e'<|w'<|yy (N' z z) z<|mv z z<|u'<|P' ⟨IntKind.i64.wrap (m+1),(mput J x4 true),ba,u⟩ hr ⟨D,aw⟩ (fc z (fc z (fc z (fc z (fc z fn))))) (wk (lc z (lc z ln)))
    ·refine ad'<|n'<|n'<|J'<|ae' u ⟨D,hr⟩ (fc z fn) (wk (lc z ln))
  ·rintro O ⟨P,hr⟩
   refine e'<|sr<|WL.makeMap (ky:=ky3) (Rv:=RvS Rp.bool O) 4044 z z fun F am aI=>sg z z<|nx<|h'<|sr<|yy (ax' z) z<|yy (b' 1 aS' z z z) z<|yy (aL' z) z<|yy (b' 1 aS' z z z) z<|aU' (e:=31) (r:=(Rp.sl a')) (vs:=#[(0,.slice a0_1eqsp a0_1.eqs.length a0_1eqsc),(1,.slice a0_1neqsp a0_1.neqs.length a0_1neqsc)]) (cs:=[.slice a0_1eqsp a0_1.eqs.length a0_1eqsc]++([.slice a0_1neqsp a0_1.neqs.length a0_1neqsc]++([]))) ([a0_1.eqs,a0_1.neqs]:List (List Za)) z z z z z (by decide) (fun _=>by kernel_rfl) ⟨[.slice a0_1eqsp a0_1.eqs.length a0_1eqsc],[.slice a0_1neqsp a0_1.neqs.length a0_1neqsc]++([]),z,⟨_,z,(V.mono (mt q P))⟩,⟨[.slice a0_1neqsp a0_1.neqs.length a0_1neqsc],[],z,⟨_,z,(R.mono (mt q P))⟩,z⟩⟩ (key:=999) z (by rw[aO]; rfl) fun p1 af X ai=>yy (L' bv' ai z) z<|mv z z<|nx<|aa' (fun (f:Mem)=>match f with|T=>[]) (fun (f:Mem)=>match f with|T=>Mem.le af T∧(ZcC).Ret r) (fun (f:Mem)=>match f with|T=>St S L T []) ?_ ?_
   ·refine B' ?_
    let Q:(Bool⊕Unit)→Prop:=fun oo=>((fun ov=>match ov with | .inl rv1=>Comp.ret rv1 | .inr ()=>ZcC:(Bool⊕Unit)→Comp Bool) oo).wp (fun a=>a=r)
    replace hr:(Comp.loop _ _).wp Q:=hr
    refine ab' (Φ:=Q) (fun (⟨d,I,l,p⟩:Int×(List (Int×Bool))×Option Ow×Mem)=>((d,I):Int×(List (Int×Bool)))) (fun ⟨d,I,l,p⟩=>[(1,.pointer (some ⟨B,0,none⟩)),(49,.slice p1 2 2),(50,i' ([a0_1.eqs,a0_1.neqs].length:Int)),(51,i' d),(6,.map (some F))]) (fun ⟨d,I,l,p⟩=>Mem.le af p∧MapR ky3 (RvS Rp.bool p) (.map (some F)) I l) (fun ⟨d,I,l,p⟩=>St S L p [(1,some ⟨B,.cells ((v33' a0_1 a0_1varsp a0_1varsc a0_1eqsp a0_1eqsc a0_1neqsp a0_1neqsc)).toArray 33 (0,0),0⟩),(4044,l)]) ⟨0,[],am,af⟩ hr (fc z (fc z (fc z (fc z (fc z fn))))) ⟨mr,(MapR.mono aI X)⟩ (wk (lc z (lc z ln))) ?_
    ·intro ar f hx hr
     obtain⟨d,I,l,p⟩:=f
     obtain⟨y,aH⟩:=hx
     refine sr<|yy (V' z z) z<|nx<|h'<|I' hr z (fun a9 hr=>?_) (fun a9 hr=>?_)
     ·refine o'<|e'<|h'<|B'<|sr ?_
      obtain⟨x1,av,hr⟩:=hr
      refine yy (Q' bv' cr' (ai.mono y) z z av) z ?_
      obtain⟨p2,Y,aQ,M⟩:=ca' (E' (Z' ai av) y)
      refine yy (U' aS' z (aQ)) z<|sg z z<|nx<|h'<|sr<|mv z z<|yy (L' q' M z) z<|yy (br' z z) z<|nx<|I' hr z (fun aY hr=>?_) (fun aY hr=>?_)
      ·exact (show False from hr).elim
      ·refine o'<|e'<|sr<|mv z z<|yy (L' q' M z) z<|mv z z<|nx<|aa' (fun (⟨C,t,H⟩:(List (Int×Bool))×Option Ow×Mem)=>[(1,.pointer (some ⟨B,0,none⟩)),(49,.slice p1 2 2),(50,i' ([a0_1.eqs,a0_1.neqs].length:Int)),(51,i' d),(6,.map (some F))]) (fun ⟨C,t,H⟩=>Mem.le p H∧MapR ky3 (RvS Rp.bool H) (.map (some F)) C t∧(ZcD d C).wp (Out ar Q)) (fun ⟨C,t,H⟩=>St S L H [(1,some ⟨B,.cells ((v33' a0_1 a0_1varsp a0_1varsc a0_1eqsp a0_1eqsc a0_1neqsp a0_1neqsc)).toArray 33 (0,0),0⟩),(4044,t)]) ?_ ?_
       ·refine B' ?_
        let W:(Bool⊕((List (Int×Bool))))→Prop:=fun oo=>((fun ov=>match ov with | .inl rv2=>Comp.ret (.inr (.inl rv2)) | .inr C=>ZcD d C:(Bool⊕((List (Int×Bool))))→Comp ((Int×(List (Int×Bool)))⊕(Bool⊕Unit))) oo).wp (Out ar Q)
        replace hr:(Comp.loop _ _).wp W:=hr
        refine ab' (Φ:=W) (fun (⟨i,A,j,o⟩:Int×(List (Int×Bool))×Option Ow×Mem)=>((i,A):Int×(List (Int×Bool)))) (fun ⟨i,A,j,o⟩=>[(1,.pointer (some ⟨B,0,none⟩)),(8,.slice p2 x1.length Y),(49,.slice p1 2 2),(50,i' ([a0_1.eqs,a0_1.neqs].length:Int)),(51,i' d),(58,.slice p2 x1.length Y),(59,i' (x1.length:Int)),(60,i' i),(6,.map (some F))]) (fun ⟨i,A,j,o⟩=>Mem.le p o∧MapR ky3 (RvS Rp.bool o) (.map (some F)) A j) (fun ⟨i,A,j,o⟩=>St S L o [(1,some ⟨B,.cells ((v33' a0_1 a0_1varsp a0_1varsc a0_1eqsp a0_1eqsc a0_1neqsp a0_1neqsc)).toArray 33 (0,0),0⟩),(4044,j)]) ⟨0,I,l,p⟩ hr (fc z (fc z (fc z (fc z (fc z (fc z (fc z (fc z (fc z fn))))))))) ⟨mr,aH⟩ (wk (lc z (lc z ln))) ?_
        ·intro a2 f hx hr
         obtain⟨i,A,j,o⟩:=f
         obtain⟨n,U⟩:=hx
         refine sr<|yy (V' z z) z<|nx<|h'<|I' hr z (fun a6 hr=>?_) (fun a6 hr=>?_)
         ·refine o'<|e'<|h'<|B'<|sr<|mv z z ?_
          obtain⟨Z,ap,hr⟩:=hr
          refine yy (Q' q' aP' (M.mono n) z z ap) z ?_
          obtain⟨aE,aF,aS,aG⟩:=ba' (E' (Z' M ap) n)
          refine yy (aw' _ bI' z z aS) z<|T' 10 z z68 z fun b2=>sg z z<|v' 10 z aP' z z z z z (List.all_eq_true.1 z)<|nx<|aV' (fun (f:Mem)=>match f with|K=>[(1,.pointer (some ⟨B,0,none⟩)),(8,.slice p2 x1.length Y),(10,.pointer (some ⟨b2,0,none⟩)),(49,.slice p1 2 2),(50,i' ([a0_1.eqs,a0_1.neqs].length:Int)),(51,i' d),(58,.slice p2 x1.length Y),(59,i' (x1.length:Int)),(60,i' i),(6,.map (some F))]) (fun (f:Mem)=>match f with|K=>Mem.le o K∧(Zbq a0_1 i A Z).wp (Out a2 W)) (fun (f:Mem)=>match f with|K=>St S L K [(1,some ⟨B,.cells ((v33' a0_1 a0_1varsp a0_1varsc a0_1eqsp a0_1eqsc a0_1neqsp a0_1neqsc)).toArray 33 (0,0),0⟩),(10,some ⟨b2,.cells ((v68' Z.id aE Z.p aF)).toArray 68 (0,0),0⟩),(4044,j)]) ?_ ?_
          ·skip
           refine h'<|Y' [false,false,false,false,false,false,false,false,false,false,false,false,false,false,false,false,false,false,false,false,false,false,false,false,false,false,false,false] mix (by kernel_rfl) fun hb=>cn (fun _ c=>bb' z)<|cn (fun _ c=>b' 10 sc3 z z z)<|bY' hr z (fun _ c=>V' z z) (fun aV hr=>?_) (fun aV hr=>?_)
           ·refine cn (fun _ c=>f' z)<|cf z z<|cf z z<|cf z z<|cf z z<|cf z z<|cn (fun _ c=>m' z z)<|cn (fun _ c=>f' z)<|cf z z<|cf z z<|cf z z<|cf z z<|cn (fun _ c=>m' z z)<|cn (fun _ c=>f' z)<|cf z z<|cf z z<|cf z z<|cs z z<|cs z z<|cs z z<|cs z z<|cs z z<|cs z z<|cs z z<|cs z z<|X' hb<|aB' (af' z z) z<|sf z z z<|yy (m' z z) z<|u'<|am'<|e'<|at' z<|sr<|sg z z<|nx<|j' ?_
            replace hr:_=r:=hr
            refine g'<|x'<|g'<|g'<|x'<|aI'<|x'<|g'<|g'<|x'<|aI'<|g' ?_
            subst hr
            exact k' z z z
           ·refine cn (fun _ c=>f' z)<|cy z z (fun _ c=>bb' z)<|cy z z (fun _ c=>b' 10 sc3 z z z)<|cy z z (fun _ c=>bf' z)<|cy z z (fun _ c=>b' 1 sc3 z z z)<|bY' hr (H' z z) (fun _ c=>bc' z z) (fun aN hr=>?_) (fun aN hr=>?_)
            ·refine cn (fun _ c=>l' z z)<|cn (fun _ c=>f' z)<|cf z z<|cf z z<|cf z z<|cf z z<|cn (fun _ c=>m' z z)<|cn (fun _ c=>f' z)<|cf z z<|cf z z<|cf z z<|cs z z<|cs z z<|cs z z<|cs z z<|cs z z<|cs z z<|cs z z<|cs z z<|X' hb<|aB' (af' z z) z<|sf z z z<|yy (m' z z) z<|u'<|am'<|e'<|at' z<|sr<|sg z z<|nx<|j' ?_
             replace hr:_=r:=hr
             refine g'<|x'<|g'<|g'<|x'<|aI'<|x'<|g'<|g'<|x'<|aI'<|g' ?_
             subst hr
             exact k' z z z
            ·refine cn (fun _ c=>l' z z)<|cn (fun _ c=>f' z)<|cy z z (fun _ c=>f' z)<|cy z z (fun _ c=>bb' z)<|cy z z (fun _ c=>b' 10 sc3 z z z) ?_
             obtain⟨a5,hr⟩:=hr
             refine bY' hr (H' z z) (fun _ c=>cI' (Y0.mapGet1 (mk:=Value.bool) (k:=Z.id) 4044 false (fun h=>ZjT h) Tryz.underlying125 zv4 (MapR.mono U c) z z z a5) (congrArg Value.bool (bdec _))) (fun aT hr=>?_) (fun aT hr=>?_)
             ·refine cn (fun _ c=>l' z z)<|cn (fun _ c=>f' z)<|cf z z<|cf z z<|cf z z<|cs z z<|cs z z<|cs z z<|cs z z<|cs z z<|cs z z<|cs z z<|cs z z<|X' hb<|aB' (af' z z) z<|sf z z z<|yy (m' z z) z<|u'<|am'<|e'<|at' z<|sr<|sg z z<|nx<|j' ?_
              replace hr:_=r:=hr
              refine g'<|x'<|g'<|g'<|x'<|aI'<|x'<|g'<|g'<|x'<|aI'<|g' ?_
              subst hr
              exact k' z z z
             ·refine cn (fun _ c=>l' z z)<|cn (fun _ c=>f' z)<|cy z z (fun _ c=>f' z)<|bY' hr (H' z z) (fun _ c=>br' z z) (fun a0 hr=>?_) (fun a0 hr=>?_)
              ·refine cy z z (fun _ c=>f' z)<|cy z z (fun _ c=>bb' z)<|cy z z (fun _ c=>b' 10 sc3 z z z)<|cy z z (fun _ c=>f' z)<|cy z z (fun _ c=>f' z)<|cy z z (fun _ c=>bd' z z) ?_
               obtain⟨x3,aq,hr⟩:=hr
               refine cy z z (fun _ c=>Q' q' aP' ((M.mono n).mono c) z z aq)<|cy z z (fun _ c=>bb' z)<|cy z z (fun _ c=>U' sc3 z (aC' (E' (E' (be' (aF' (Z' M aq))) n) c)))<|X' hb<|gy z z (bz' z z) z<|gy z z (m' z z) z<|yy (l' z z) z<|u'<|am'<|e'<|I' hr z (fun a3 hr=>?_) (fun a3 hr=>?_)
               ·exact (show False from hr).elim
               ·refine o'<|ap' o ⟨mr,hr⟩ (fc z (fc z (fc z (fc z (fc z (fc z (fc z (fc z (fc z (fc z fn)))))))))) (wk (lc z (lc z (lc z ln))))
              ·refine cy z z (fun _ c=>f' z)<|ct z z<|ct z z<|ct z z<|ct z z<|ct z z<|ct z z<|ct z z<|ct z z<|X' hb<|sk z z z<|gy z z (l' z z) z<|yy (l' z z) z<|u'<|am'<|e'<|bg' z<|o'<|ap' o ⟨mr,hr⟩ (fc z (fc z (fc z (fc z (fc z (fc z (fc z (fc z (fc z (fc z fn)))))))))) (wk (lc z (lc z (lc z ln))))
          ·rintro K ⟨E,hr⟩
           refine sr<|mv z z<|yy (bb' z) z<|yy (b' 10 sc3 z z z) z ?_
           obtain⟨⟨aW,aK⟩,hr⟩:=hr
           refine WL.mapPut (Rv':=RvS Rp.bool K) (k:=Z.id) (z:=true) 4044 z Tryz.underlying125 (MapR.mono U E) z z z z aW z (fun _ _ _ _ h=>h) aK fun a1 aA=>nr<|yy (bs' z) z<|yy (b' 10 bQ' z z z) z<|yy (ar' z) z<|yy (b' 1 bn' z z z) z<|yy (L' A' (g.mono (mt (mt (mt (mt (mt q P) X) y) n) E)) z) z ?_
           obtain⟨bc,aJ,hr⟩:=hr
           refine F' z z (s' E88 z) (gh' aJ) z ((aG.mono E))<|yy (ao' z) z<|nx<|aN' hr z (fun a8 hr=>?_) (fun a8 hr=>?_)
           ·exact (show False from hr).elim
           ·refine o'<|D'<|e'<|w'<|yy (N' z z) z<|mv z z<|u'<|P' ⟨IntKind.i64.wrap (i+1),(mput A Z.id true),a1,K⟩ hr ⟨(mt n E),aA⟩ (fc z (fc z (fc z (fc z (fc z (fc z (fc z (fc z (fc z fn))))))))) (wk (lc z (lc z ln)))
         ·refine ad'<|n'<|n'<|J'<|ae' ⟨A,j,o⟩ ⟨n,U,hr⟩ (fc z (fc z (fc z (fc z (fc z fn))))) (wk (lc z (lc z ln)))
       ·rintro⟨C,t,H⟩ ⟨an,aB,hr⟩
        refine D'<|e'<|w'<|yy (N' z z) z<|mv z z<|u'<|P' ⟨IntKind.i64.wrap (d+1),C,t,H⟩ hr ⟨(mt y an),aB⟩ (fc z (fc z (fc z (fc z (fc z fn))))) (wk (lc z (lc z ln)))
     ·refine ad'<|n'<|n'<|J'<|ae' p ⟨y,hr⟩ fn (wk ln)
   ·rintro T ⟨bb,hr⟩
    refine e'<|sr<|sg z z<|nx<|j' ?_
    obtain rfl:_=r:=hr
    exact k' z z z
theorem dJ'{name1 r}(hr:(Zc5 name1).Ret r):Ctr Tryz.prog 98 #[.string name1] (fun G=>True) (fun G v=>v = .bool r):=by
 refine C' (args:=[_]) (N:=7) Tryz.func98 z z z fun l m d i=>sr<|sg z z<|nr<|mv z z<|aU' (e:=9) (r:=Rp.str) (vs:=#[(0,.string name1)]) (cs:=[.string name1]++([])) ([name1]:List ByteArray) z z z z z (by decide) (fun _=>by kernel_rfl) ⟨[.string name1],[],z,z,z⟩ (key:=999) z (by rw[d]; rfl) fun g k h f=>yy (aq' (vs:=#[(0,.slice g 1 1),(3,i' 1)]) (v:=.agg ([.slice g 1 1,.slice none 0 0,.slice none 0 0,i' 1]).toArray) z z (fun _=>by kernel_rfl)) z ?_
 obtain⟨j,c,hr⟩:=hr
 refine F' z z (s' E52 z) (ed' c) z (⟨f,(ah' a' _),(ah' a' _)⟩)<|sg z z<|nx<|j' ?_
 obtain rfl:_=r:=hr
 exact k' z z z
theorem cx'{s1 v1 s1p s1c r}(hr:(Z2 s1 v1).Ret r):Ctr Tryz.prog 110 #[.slice s1p s1.length s1c,.string v1] (fun G=>sl Rp.str G s1p s1c s1) (fun G v=>v=i' r):=by
 refine C' (args:=[_,_]) (N:=19) Tryz.func110 z z z (fun n j u l=>?_)
 have h:=l
 refine sr<|sg z z<|nx<|h'<|sr<|mv z z<|yy (L' A' h z) z<|mv z z<|nx<|aa' (fun (g:Mem)=>match g with|f=>[]) (fun (g:Mem)=>match g with|f=>Mem.le j f∧(Zab).Ret r) (fun (g:Mem)=>match g with|f=>St n j f []) ?_ ?_
 ·refine B' ?_
  let i:(Int⊕Unit)→Prop:=fun q=>((fun t=>match t with | .inl rv1=>Comp.ret rv1 | .inr ()=>Zab:(Int⊕Unit)→Comp Int) q).wp (fun a=>a=r)
  replace hr:(Comp.loop _ _).wp i:=hr
  refine ab' (Φ:=i) (fun (⟨c,d⟩:Int×Mem)=>(c:Int)) (fun ⟨c,d⟩=>[(0,.slice s1p s1.length s1c),(1,.string v1),(7,i' (s1.length:Int)),(8,i' c)]) (fun ⟨c,d⟩=>Mem.le j d) (fun ⟨c,d⟩=>St n j d []) ⟨0,j⟩ hr (fc z (fc z (fc z (fc z fn)))) mr (wk ln) ?_
  ·intro x g s hr
   obtain⟨c,d⟩:=g
   have e:=s
   refine sr<|yy (V' z z) z<|nx<|h'<|I' hr z (fun o hr=>?_) (fun o hr=>?_)
   ·refine o'<|e'<|h'<|B'<|sr<|mv z z<|sg z z<|nr<|mv z z<|mv z z<|mv z z ?_
    obtain⟨y,k,hr⟩:=hr
    refine yy (Q' A' sz9 (h.mono e) z z k) z<|yy (U' sc9 z (bF' (E' (Z' h k) e))) z<|yy (Y0.eqlS aQ' z z) z<|nx<|I' hr z (fun m hr=>?_) (fun m hr=>?_)
    ·refine sr<|mv z z<|sg z z<|nx<|j' ?_
     replace hr:_=r:=hr
     refine x'<|g'<|g'<|x'<|aI'<|g' ?_
     subst hr
     exact k' z z z
    ·refine o'<|D'<|e'<|w'<|yy (N' z z) z<|mv z z<|u'<|P' ⟨IntKind.i64.wrap (c+1),d⟩ hr e (fc z (fc z (fc z (fc z fn)))) (wk ln)
   ·refine ad'<|n'<|n'<|J'<|ae' d ⟨e,hr⟩ fn (wk ln)
 ·rintro f ⟨p,hr⟩
  refine e'<|sr<|sg z z<|nx<|j' ?_
  obtain rfl:_=r:=hr
  exact k' z z z
theorem cU'{s1 v1 s1p s1c r}(hr:(Z9 s1 v1).Ret r):Ctr Tryz.prog 99 #[.slice s1p s1.length s1c,.string v1] (fun G=>sl Rp.str G s1p s1c s1) (fun G v=>v = .bool r):=by
 refine C' (args:=[_,_]) (N:=9) Tryz.func99 z z z (fun h i g c=>?_)
 have e:=c
 refine sr<|sg z z<|nr<|mv z z<|mv z z ?_
 obtain⟨f,d,hr⟩:=hr
 refine F' z z (s' E110 z) (cx' d) z (e)<|yy (bc' z z) z<|sg z z<|nx<|j' ?_
 obtain rfl:_=r:=hr
 exact k' z z z
theorem cC'{l1 l1p l1c r}(hr:(Zw l1).Ret r):Ctr Tryz.prog 93 #[.slice l1p l1.length l1c] (fun G=>sl (Rp.fn Tryz.prog fa0 foI) G l1p l1c l1) (fun G v=>v=i' r):=by
 refine C' (args:=[_]) (N:=18) Tryz.func93 z z z (fun t k F n=>?_)
 have i:=n
 refine sr<|sg z z<|nx<|h'<|sr<|mv z z<|yy (L' Tryz.underlying165 i z) z<|mv z z<|nx<|aa' (fun (g:Mem)=>match g with|f=>[]) (fun (g:Mem)=>match g with|f=>Mem.le k f∧(Zdq).Ret r) (fun (g:Mem)=>match g with|f=>St t k f []) ?_ ?_
 ·refine B' ?_
  let j:(Int⊕Unit)→Prop:=fun B=>((fun D=>match D with | .inl rv1=>Comp.ret rv1 | .inr ()=>Zdq:(Int⊕Unit)→Comp Int) B).wp (fun a=>a=r)
  replace hr:(Comp.loop _ _).wp j:=hr
  refine ab' (Φ:=j) (fun (⟨c,e⟩:Int×Mem)=>(c:Int)) (fun ⟨c,e⟩=>[(6,.slice l1p l1.length l1c),(7,i' (l1.length:Int)),(8,i' c)]) (fun ⟨c,e⟩=>Mem.le k e) (fun ⟨c,e⟩=>St t k e []) ⟨0,k⟩ hr (fc z (fc z (fc z fn))) mr (wk ln) ?_
  ·intro H g C hr
   obtain⟨c,e⟩:=g
   have d:=C
   refine sr<|yy (V' z z) z<|nx<|h'<|I' hr z (fun u hr=>?_) (fun u hr=>?_)
   ·refine o'<|e'<|h'<|B'<|sr ?_
    obtain⟨I,m,hr⟩:=hr
    refine yy (Q' Tryz.underlying165 sz131 (i.mono d) z z m) z ?_
    obtain⟨J,q,x⟩:=AtK.fnv (E' (Z' i m) d)
    refine yy (U' sc131 z (q)) z<|sg z z<|nr<|mv z z ?_
    obtain⟨E,o,hr⟩:=hr
    refine WL.callFn (vs:=[]) (a:=()) z z x z z z o (fun A s l h=>?_)
    subst h
    refine sg z z<|nr<|mv z z<|yy (aR' z z) z<|nx<|I' hr z (fun p hr=>?_) (fun p hr=>?_)
    ·refine sr<|mv z z<|sg z z<|nx<|j' ?_
     replace hr:_=r:=hr
     refine x'<|g'<|g'<|x'<|aI'<|g' ?_
     subst hr
     exact k' z z z
    ·refine o'<|D'<|e'<|w'<|yy (N' z z) z<|mv z z<|u'<|P' ⟨IntKind.i64.wrap (c+1),s⟩ hr (mt d l) (fc z (fc z (fc z fn))) (wk ln)
   ·refine ad'<|n'<|n'<|J'<|ae' e ⟨d,hr⟩ fn (wk ln)
 ·rintro f ⟨y,hr⟩
  refine e'<|sr<|sg z z<|nx<|j' ?_
  obtain rfl:_=r:=hr
  exact k' z z z
theorem dT'{r}(hr:(Zbj).Ret r):Ctr Tryz.prog 100 #[] (fun G=>True) (fun G v=>v = .agg (vecG (Value.int .i64) 8 r).toArray):=by
 refine C' (args:=[]) (N:=10) Tryz.func100 z z z fun m k C A=>sr<|T' 0 z z83 z fun l=>nx<|h'<|sr<|mv z z<|nx<|aa' (fun (⟨e,g⟩:(Fin 8→Int)×Mem)=>[(0,.pointer (some ⟨l,0,none⟩))]) (fun ⟨e,g⟩=>Mem.le k g∧(Zb0 e).Ret r) (fun ⟨e,g⟩=>St m k g [(0,some ⟨l,.cells (vecG (Value.int .i64) 8 e).toArray 83 (0,0),0⟩)]) ?_ ?_
 ·refine B' ?_
  let j:(Fin 8→Int)→Prop:=fun t=>((fun B=>match B with|e=>Zb0 e:(Fin 8→Int)→Comp (Fin 8→Int)) t).wp (fun a=>a=r)
  replace hr:(Comp.loop _ _).wp j:=hr
  refine ab' (Φ:=j) (fun (⟨c,d,f⟩:Int×(Fin 8→Int)×Mem)=>((c,d):Int×(Fin 8→Int))) (fun ⟨c,d,f⟩=>[(0,.pointer (some ⟨l,0,none⟩)),(2,i' c)]) (fun ⟨c,d,f⟩=>Mem.le k f) (fun ⟨c,d,f⟩=>St m k f [(0,some ⟨l,.cells (vecG (Value.int .i64) 8 d).toArray 83 (0,0),0⟩)]) ⟨0,(fun _=>0),k⟩ hr (fc z (fc z fn)) mr (wk (lc z ln)) ?_
  ·intro D s y hr
   obtain⟨c,d,f⟩:=s
   have h:=y
   refine sr<|yy (V' z z) z<|nx<|h'<|I' hr z (fun n hr=>?_) (fun n hr=>?_)
   ·refine o'<|e'<|h'<|B'<|sr<|mv z z<|sg z z<|nx<|w'<|mv z z<|mv z z ?_
    obtain⟨p,hr⟩:=hr
    refine yy (aW' aY' sz3 z z p) z<|au' 0 (vecG (Value.int .i64) 8 (setF d c.toNat c)).toArray z sz3 z z z (by first|(rw[O']; omega)|(show _<(vecG _ _ _).toArray.size; rw[O']; omega)) z (bP' _ _ _ _ _)<|u'<|D'<|e'<|w'<|yy (N' z z) z<|mv z z<|u'<|P' ⟨IntKind.i64.wrap (c+1),setF d c.toNat c,f⟩ hr h (fc z (fc z fn)) (wk (lc z ln))
   ·refine ad'<|n'<|n'<|J'<|ae' ⟨d,f⟩ ⟨h,hr⟩ (fc z fn) (wk (lc z ln))
 ·rintro⟨e,g⟩ ⟨q,hr⟩
  refine e'<|sr<|yy (t' 0 ag83 z z (O' _ _ _)) z<|v' 0 z sz83 z z z (O' _ _ _) (O' _ _ _) (fun u o=>Rp.one (cv' .i64 8) (G:=g) (x:=e) (cs:=vecG (Value.int .i64) 8 e) z u (by first|simpa using o|simpa [Value.cells] using o))<|nx<|j' ?_
  obtain rfl:_=r:=hr
  exact k' z (ac' (i:=0) ag83 z z (O' _ _ _)) z
theorem fn'{x1 r}(hr:(Zer x1).Ret r):Ctr Tryz.prog 230 #[.int .u64 x1] (fun G=>True) (fun G v=>v=i' r):=by
 refine C' (args:=[_]) (N:=25) Tryz.func230 z z z fun m k A y=>sr<|sg z z<|nx<|aV' (fun (⟨f,g,c⟩:Int×Int×Mem)=>[(0,.int .u64 f),(2,i' g)]) (fun ⟨f,g,c⟩=>Mem.le k c∧(Zdd f g).Ret r) (fun ⟨f,g,c⟩=>St m k c []) ?_ ?_
 ·skip
  refine sr<|mv z z<|yy (bc' z z) z<|nx<|I' hr z (fun n hr=>?_) (fun n hr=>?_)
  ·exact (show False from hr).elim
  ·refine o'<|ap' ⟨x1,0,k⟩ ⟨mr,hr⟩ (fc z (fc z fn)) (wk ln)
 ·rintro⟨f,g,c⟩ ⟨u,hr⟩
  refine aV' (fun (⟨i,h,d⟩:Int×Int×Mem)=>[(0,.int .u64 i),(2,i' h)]) (fun ⟨i,h,d⟩=>Mem.le c d∧(Zdc i h).Ret r) (fun ⟨i,h,d⟩=>St m k d []) ?_ ?_
  ·skip
   refine sr<|mv z z<|yy (bc' z z) z<|nx<|I' hr z (fun o hr=>?_) (fun o hr=>?_)
   ·exact (show False from hr).elim
   ·refine o'<|ap' ⟨f,g,c⟩ ⟨mr,hr⟩ (fc z (fc z fn)) (wk ln)
  ·rintro⟨i,h,d⟩ ⟨x,hr⟩
   refine aV' (fun (⟨l,j,e⟩:Int×Int×Mem)=>[(0,.int .u64 l),(2,i' j)]) (fun ⟨l,j,e⟩=>Mem.le d e∧(Zdb l j).Ret r) (fun ⟨l,j,e⟩=>St m k e []) ?_ ?_
   ·skip
    refine sr<|mv z z<|yy (bc' z z) z<|nx<|I' hr z (fun p hr=>?_) (fun p hr=>?_)
    ·exact (show False from hr).elim
    ·refine o'<|ap' ⟨i,h,d⟩ ⟨mr,hr⟩ (fc z (fc z fn)) (wk ln)
   ·rintro⟨l,j,e⟩ ⟨t,hr⟩
    refine sr<|mv z z<|mv z z<|yy (aH' al' bi' z) z ?_
    obtain⟨q,hr⟩:=hr
    refine yy (dg' (s:=Zea) aQ' z z q) z<|yy (aH' bi' az' z) z<|yy (N' z z) z<|sg z z<|nx<|j' ?_
    obtain rfl:_=r:=hr
    exact k' z z z
theorem fK'{x1 r}(hr:(ZbV x1).Ret r):Ctr Tryz.prog 210 #[.int .u64 x1] (fun G=>True) (fun G v=>v=i' r):=by
 refine C' (args:=[_]) (N:=8) Tryz.func210 z z z fun g h f d=>sr<|sg z z<|nx<|h'<|bg' z<|o'<|e'<|sr<|mv z z ?_
 obtain⟨e,c,hr⟩:=hr
 refine F' z z (s' E230 z) (fn' c) z (trivial)<|sg z z<|nx<|j' ?_
 obtain rfl:_=r:=hr
 exact k' z z z
theorem cy'{x1 x1p x1c x1n x1tk r}(hr:(ZA x1).Ret r):CtrL Tryz.prog 195 #[.slice x1p x1n x1c,.func (.func 196) #[] #[]] [(5000,x1tk)] (fun G=>RowR r' 101 G (.slice x1p x1n x1c) x1 x1tk) (fun G L v=>∃ g,L=[(5000,g)]∧v = .tuple #[]∧RowR r' 101 G (.slice x1p x1n x1c) r g):=by
 refine aT' (args:=[_,_]) (N:=14) Tryz.func195 z z z (fun l t m h=>?_)
 have f:=h
 have hz:l.L.zero:=by
  rw[m]; intro p n x s
  simp only[List.mem_cons,List.not_mem_nil,or_false] at n
  subst n; exact RowR.zero f s
 refine sr<|mv z z<|yy (dQ' R' f z) z<|sg z z<|nx<|w'<|mv z z<|mv z z<|mv z z<|yy (aH' az' dw' z) z ?_
 obtain⟨y,j,hr⟩:=hr
 refine F' z z (s' E210 z) (fK' j) z (trivial)<|mv z z ?_
 obtain⟨A,i,hr⟩:=hr
 refine cc' z z (s' E209 z) (cE' i) z (f) (lc z ln) hz (fun q k u o c=>?_)
 obtain⟨e,rfl,rfl,d⟩:=c
 refine u'<|WE.retN ?_
 obtain rfl:_=r:=hr
 refine aA' (S':=St l t k [(5000,e)]) (wk (lc z ln))<|WE.ret0 z  ⟨_,z,z,d⟩
theorem eV'{terms1 terms1b terms1tk r}(hr:(ZbQ terms1).Ret r):CtrL Tryz.prog 176 #[.map (some terms1b)] [(5500,terms1tk)] (fun G=>MapR ky99 (RvA dU' G) (.map (some terms1b)) terms1 terms1tk) (fun G L v=>L=[(5500,terms1tk)]∧(∃ zp zc,v = .slice zp r.length zc∧sl r' G zp zc r)):=by
 refine aT' (args:=[_]) (N:=28) Tryz.func176 z z z (fun X Q F ad=>?_)
 have A:=ad
 have hz:X.L.zero:=by
  rw[F]; intro p hp x hx
  simp only[List.mem_cons,List.not_mem_nil,or_false] at hp
  subst hp; exact MapR.zero A hx
 refine sr<|sg z z<|nr<|mv z z<|yy (Y0.lenM 5500 el' A z z) z ?_
 obtain⟨am,hr⟩:=hr
 refine WL.makeC (r:=r') (e:=101) (n:=(terms1.length:Int)) 4008 z z R' el101 z (by decide) z z am fun p1 av aa aB=>sg z z<|nx<|h'<|sr<|mv z z<|WL.rangeM 5500 4010 z z el' A z z fun Z Y ah=>nx<|aa' (fun (⟨s,D,E,t,H⟩:(List Zc)×Option Addr×Nat×Option Ow×Mem)=>[(3,.slice D s.length E),(0,.map (some terms1b))]) (fun ⟨s,D,E,t,H⟩=>Mem.le Q H∧RowR r' 101 H (.slice D s.length E) s t∧(Zbf s).Ret r) (fun ⟨s,D,E,t,H⟩=>St X Q H [(4003,t),(5500,terms1tk)]) ?_ ?_
 ·refine B' ?_
  let U:(List Zc)→Prop:=fun oo=>((fun ov=>match ov with|s=>Zbf s:(List Zc)→Comp (List Zc)) oo).wp (fun a=>a=r)
  replace hr:(Comp.loop _ _).wp U:=hr
  refine ab' (Φ:=U) (fun (⟨l,m,q,k,R,y,o⟩:(List Zc)×Option Addr×Nat×Option Ow×List ((Fin 8→Int)×Zg)×Option Ow×Mem)=>((l,R):(List Zc)×List ((Fin 8→Int)×Zg))) (fun ⟨l,m,q,k,R,y,o⟩=>[(3,.slice m l.length q),(0,.map (some terms1b)),(10,Z)]) (fun ⟨l,m,q,k,R,y,o⟩=>Mem.le Q o∧RowR r' 101 o (.slice m l.length q) l k∧IterR ky99 (RvA dU' o) terms1tk Z R none y) (fun ⟨l,m,q,k,R,y,o⟩=>St X Q o [(4003,k),(5500,terms1tk),(4010,y)]) ⟨([]:List Zc),p1,av,aa,terms1,Y,Q⟩ hr (fc z (fc z (fc z fn))) ⟨mr,aB,(IterR.forget ah)⟩ ?_ ?_
  ·intro w K
   have K:=K.rekey (i:=4008) (j:=4003) z (by rw[F]; rfl)
   exact K.weaken (lc z (lc z (lc z ln)))
  ·intro aU gx hx hr
   obtain⟨l,m,q,k,R,y,o⟩:=gx
   obtain⟨J,M,au⟩:=hx
   refine sr<|WL.nextM 5500 4010 z z au z z z (fun Ra c Rb S T O aQ aL=>?_) (fun T=>?_)
   ·replace hr:=hr.2 _ _ _ T
    generalize Ra++Rb=R2 at hr O
    refine yy (K' z z) z<|nx<|h'<|at' z<|o'<|e'<|B'<|sr<|WL.entryM 5500 4010 z z O z z z (fun u1 aw aV=>?_)
    obtain⟨aS,rfl,an⟩:=aw
    obtain⟨g,d,f,h,rfl,C,B⟩:=Zlc an
    refine yy (K' z z) z<|yy (K' z z) z<|T' 4 z z99 z fun b1=>T' 5 z z60 z fun b2=>v' 4 z sz99 z z z (O' _ _ _) (O' _ _ _) (fun u hu=>Rp.one (cv' .i64 8) (G:=o) (x:=c.1) (cs:=vecG (Value.int .i64) 8 c.1) z u (by first|simpa using hu|simpa [Value.cells] using hu))<|v' 5 z sz60 z z z z z (List.all_eq_true.1 z)<|nr<|yy (t' 5 ci' z z z) z ?_
    obtain⟨aX,ae,hr⟩:=hr
    refine F' z z (s' E170 z) (dr' ae) z (⟨C,B⟩)<|yy (aR' z z) z<|nx<|I' hr z (fun ay hr=>?_) (fun ay hr=>?_)
    ·refine w'<|mv z z<|yy (t' 5 ci' z z z) z<|yy (t' 4 bS' z z (O' _ _ _)) z<|yy (aq' (vs:=#[(0,.agg ([.bool c.2.num.neg,.slice g c.2.num.mag.length d,.bool c.2.den.neg,.slice f c.2.den.mag.length h]).toArray),(1,.agg (vecG (Value.int .i64) 8 c.1).toArray)]) (v:=.agg (([.bool c.2.num.neg,.slice g c.2.num.mag.length d,.bool c.2.den.neg,.slice f c.2.den.mag.length h]:List Value)++(vecG (Value.int .i64) 8 c.1)).toArray) z z (fun _=>by kernel_rfl)) z<|aU' (e:=101) (r:=r') (vs:=#[(0,.agg (([.bool c.2.num.neg,.slice g c.2.num.mag.length d,.bool c.2.den.neg,.slice f c.2.den.mag.length h]:List Value)++(vecG (Value.int .i64) 8 c.1)).toArray)]) (cs:=(([.bool c.2.num.neg,.slice g c.2.num.mag.length d,.bool c.2.den.neg,.slice f c.2.den.mag.length h]:List Value)++(vecG (Value.int .i64) 8 c.1))++([])) ([(Zc.mk c.2 c.1)]:List Zc) z z z z z (by decide) (fun _=>by kernel_rfl) ⟨([.bool c.2.num.neg,.slice g c.2.num.mag.length d,.bool c.2.den.neg,.slice f c.2.den.mag.length h]:List Value)++(vecG (Value.int .i64) 8 c.1),[],z,⟨[.bool c.2.num.neg,.slice g c.2.num.mag.length d,.bool c.2.den.neg,.slice f c.2.den.mag.length h],vecG (Value.int .i64) 8 c.1,z,⟨(v58' c.2.num g d),(v58' c.2.den f h),z,⟨[.bool c.2.num.neg],[.slice g c.2.num.mag.length d],z,z,⟨_,z,C⟩⟩,⟨[.bool c.2.den.neg],[.slice f c.2.den.mag.length h],z,z,⟨_,z,B⟩⟩⟩,z⟩,z⟩ (key:=999) z (by rw[F]; rfl) (fun p2 al I ar=>?_)
     obtain⟨ag,hr⟩:=hr
     refine bO' (r:=r') (e:=101) 4003 z z R' el101 z (by decide) z z (M.mono I) z ar ag fun p3 aj ab ao=>sg z z<|u'<|D'<|P' ⟨(l++[(Zc.mk c.2 c.1)]),p3,aj,ab,R2,S,al⟩ hr ⟨(mt J I),ao,(IterR.forget (IterR.monoA O I))⟩ (fc z (fc z (fc z fn))) (wk (lc z (lc z (lc z ln))))
    ·refine o'<|D'<|P' ⟨l,m,q,k,R2,S,o⟩ hr ⟨J,M,(IterR.forget O)⟩ (fc z (fc z (fc z fn))) (wk (lc z (lc z (lc z ln))))
   ·replace hr:=hr.1 T
    refine yy (K' z z) z<|nx<|h'<|bg' z<|ad'<|n'<|n'<|J'<|ae' ⟨l,m,q,k,o⟩ ⟨J,M,hr⟩ (fc z (fc z fn)) (wk (lc z (lc z ln)))
 ·rintro⟨s,D,E,t,H⟩ ⟨aC,af,hr⟩
  refine e'<|sr<|mv z z ?_
  obtain⟨aR,ai,hr⟩:=hr
  refine bt' (fun w K=>K.rekey (i:=4003) (j:=5000) z (by rw[F]; rfl))<|cc' z z (s' E195 z) (cy' ai) z (af) (lc z ln) hz (fun aO aW aK aD P=>?_)
  obtain⟨az,rfl,rfl,W⟩:=P
  refine bt' (fun w K=>K.rekey (i:=5000) (j:=4003) z (by rw[F]; rfl))<|nr<|mv z z<|sg z z<|nx<|j' ?_
  obtain rfl:_=r:=hr
  refine dB' (r:=r') (e:=101) 4003 W z (by rw[F]; rfl) fun aT ak aE V aF=>aA' (S':=St X Q ak [(5500,terms1tk)]) (wk (lc z ln))<|k' z z ⟨z,⟨_,_,(cV' V),(cN' V)⟩⟩
theorem eO'{p1 perm1 p1p p1c r}(hr:(ZbC p1 perm1).Ret r):Ctr Tryz.prog 142 #[.slice p1p p1.length p1c,.agg (vecG (Value.int .i64) 8 perm1).toArray] (fun G=>sl r' G p1p p1c p1) (fun G v=>∃ ad ae,v = .tuple #[.slice ad r.1.length ae,i' r.2]∧sl r' G ad ae r.1):=by
 refine C' (args:=[_,_]) (N:=59) Tryz.func142 z z z (fun U S Y au=>?_)
 have ag:=au
 have hz:U.L.zero:=by rw[Y]; intro p hp; simp at hp
 refine sr<|W' 3 z z z fun O=>sg z z<|sg z z<|nr<|T' 6 z z176 z fun b2=>nx<|h'<|sr<|yy (t' 3 ag83 z z (O' _ _ _)) z<|mv z z<|nx<|aa' (fun (n:Mem)=>match n with|B=>[(0,.slice p1p p1.length p1c),(3,.pointer (some ⟨O,0,none⟩))]) (fun (n:Mem)=>match n with|B=>Mem.le S B∧(Zal p1 perm1).Ret r) (fun (n:Mem)=>match n with|B=>St U S B [(3,some ⟨O,.cells (vecG (Value.int .i64) 8 perm1).toArray 83 (0,0),0⟩)]) ?_ ?_
 ·refine B' ?_
  let aa:(((List Zc)×Int)⊕Unit)→Prop:=fun oo=>((fun Z=>match Z with | .inl rv1=>Comp.ret rv1 | .inr ()=>Zal p1 perm1:(((List Zc)×Int)⊕Unit)→Comp ((List Zc)×Int)) oo).wp (fun a=>a=r)
  replace hr:(Comp.loop _ _).wp aa:=hr
  refine ab' (Φ:=aa) (fun (⟨q,I,H⟩:Int×(Fin 8→Bool)×Mem)=>((q,I):Int×(Fin 8→Bool))) (fun ⟨q,I,H⟩=>[(0,.slice p1p p1.length p1c),(3,.pointer (some ⟨O,0,none⟩)),(6,.pointer (some ⟨b2,0,none⟩)),(15,.agg (vecG (Value.int .i64) 8 perm1).toArray),(16,i' q)]) (fun ⟨q,I,H⟩=>Mem.le S H) (fun ⟨q,I,H⟩=>St U S H [(3,some ⟨O,.cells (vecG (Value.int .i64) 8 perm1).toArray 83 (0,0),0⟩),(6,some ⟨b2,.cells (vecG Value.bool 8 I).toArray 176 (0,0),0⟩)]) ⟨0,(fun _=>false),S⟩ hr (fc z (fc z (fc z (fc z (fc z fn))))) mr (wk (lc z (lc z ln))) ?_
  ·intro aY n hx hr
   obtain⟨q,I,H⟩:=n
   have V:=hx
   refine sr<|yy (V' z z) z<|nx<|h'<|I' hr z (fun aM hr=>?_) (fun aM hr=>?_)
   ·refine o'<|e'<|h'<|B'<|sr ?_
    obtain⟨an,hr⟩:=hr
    refine yy (Y0.index aY' sc3 sz3 z z an (by' _ _ _ an)) z<|sg z z<|nx<|h'<|sr<|mv z z<|aj' hr z (V' z z) z (fun aG hr=>?_) (fun aG hr=>?_)
    ·refine mv z z<|sf z z z<|sf z z z<|yy (m' z z) z<|mv z z<|sf z z z<|sf z z z<|sf z z z<|yy (m' z z) z<|nx<|at' z<|sr<|sg z z<|sg z z<|nx<|j' ?_
     replace hr:_=r:=hr
     refine g'<|x'<|g'<|g'<|x'<|aI'<|g' ?_
     subst hr
     exact aE' z z z ⟨_,_,z,(ah' r' _)⟩
    ·refine mv z z<|gy z z (f' z) z<|aj' hr (H' z z) (bc' z z) z (fun aB hr=>?_) (fun aB hr=>?_)
     ·refine yy (l' z z) z<|mv z z<|sf z z z<|sf z z z<|sf z z z<|yy (m' z z) z<|nx<|at' z<|sr<|sg z z<|sg z z<|nx<|j' ?_
      replace hr:_=r:=hr
      refine g'<|x'<|g'<|g'<|x'<|aI'<|g' ?_
      subst hr
      exact aE' z z z ⟨_,_,z,(ah' r' _)⟩
     ·refine yy (l' z z) z<|mv z z<|gy z z (f' z) z ?_
      obtain⟨ap,hr⟩:=hr
      refine gy z z (aW' dx' sz4 z z ap) z<|gy z z (b' 6 sc4 z z (by' _ _ _ ap)) z<|yy (l' z z) z<|nx<|aN' hr z (fun aN hr=>?_) (fun aN hr=>?_)
      ·exact (show False from hr).elim
      ·refine o'<|e'<|w'<|mv z z ?_
       obtain⟨aF,hr⟩:=hr
       refine yy (aW' dx' sz4 z z aF) z<|au' 6 (vecG Value.bool 8 (setF I ((getF perm1 q).toNat) true)).toArray z sz4 z z z (by first|(rw[O']; omega)|(show _<(vecG _ _ _).toArray.size; rw[O']; omega)) z (bP' _ _ _ _ _)<|u'<|D'<|e'<|w'<|yy (N' z z) z<|mv z z<|u'<|P' ⟨IntKind.i64.wrap (q+1),setF I ((getF perm1 q).toNat) true,H⟩ hr V (fc z (fc z (fc z (fc z (fc z fn))))) (wk (lc z (lc z ln)))
   ·refine ad'<|n'<|n'<|J'<|ae' H ⟨V,hr⟩ (fc z (fc z fn)) (wk (lc z ln))
 ·rintro B ⟨R,hr⟩
  refine e'<|sr<|WL.makeMap (ky:=ky99) (Rv:=RvA dU' B) 4033 z z fun P ai av=>sg z z<|nx<|h'<|sr<|mv z z<|yy (L' R' (ag.mono R) z) z<|mv z z<|nx<|aa' (fun (n:(List ((Fin 8→Int)×Zg))×Option Ow×Mem)=>match n with|⟨L,C,Q⟩=>[(9,.map (some P))]) (fun (n:(List ((Fin 8→Int)×Zg))×Option Ow×Mem)=>match n with|⟨L,C,Q⟩=>Mem.le B Q∧MapR ky99 (RvA dU' Q) (.map (some P)) L C∧(ZaZ L).Ret r) (fun (n:(List ((Fin 8→Int)×Zg))×Option Ow×Mem)=>match n with|⟨L,C,Q⟩=>St U S Q [(4033,C)]) ?_ ?_
  ·refine B' ?_
   let T:(((List ((Fin 8→Int)×Zg))))→Prop:=fun oo=>((fun Z=>match Z with|L=>ZaZ L:(((List ((Fin 8→Int)×Zg))))→Comp ((List Zc)×Int)) oo).wp (fun a=>a=r)
   replace hr:(Comp.loop _ _).wp T:=hr
   refine ab' (Φ:=T) (fun (n:Int×(List ((Fin 8→Int)×Zg))×Option Ow×Mem)=>match n with|⟨m,t,o,s⟩=>((m,t):Int×(List ((Fin 8→Int)×Zg)))) (fun (n:Int×(List ((Fin 8→Int)×Zg))×Option Ow×Mem)=>match n with|⟨m,t,o,s⟩=>[(3,.pointer (some ⟨O,0,none⟩)),(34,.slice p1p p1.length p1c),(35,i' (p1.length:Int)),(36,i' m),(9,.map (some P))]) (fun (n:Int×(List ((Fin 8→Int)×Zg))×Option Ow×Mem)=>match n with|⟨m,t,o,s⟩=>Mem.le B s∧MapR ky99 (RvA dU' s) (.map (some P)) t o) (fun (n:Int×(List ((Fin 8→Int)×Zg))×Option Ow×Mem)=>match n with|⟨m,t,o,s⟩=>St U S s [(3,some ⟨O,.cells (vecG (Value.int .i64) 8 perm1).toArray 83 (0,0),0⟩),(4033,o)]) ⟨0,[],ai,B⟩ hr (fc z (fc z (fc z (fc z (fc z fn))))) ⟨mr,av⟩ (wk (lc z (lc z ln))) ?_
   ·intro ao n hx hr
    obtain⟨m,t,o,s⟩:=n
    obtain⟨J,ac⟩:=hx
    refine sr<|yy (V' z z) z<|nx<|h'<|I' hr z (fun aO hr=>?_) (fun aO hr=>?_)
    ·refine o'<|e'<|h'<|B'<|sr ?_
     obtain⟨g,aq,hr⟩:=hr
     refine yy (Q' R' bD' (ag.mono (mt R J)) z z aq) z ?_
     obtain⟨e,d,c,f,aD,E,D⟩:=cB' (E' (Z' ag aq) (mt R J))
     refine yy (aw' _ ag101 z z aD) z<|T' 11 z z101 z fun b3=>v' 11 z bD' z z z z z (fun u hu=>Rp.one r' (G:=s) (x:=g) (cs:=([.bool g.c.num.neg,.slice e g.c.num.mag.length d,.bool g.c.den.neg,.slice c g.c.den.mag.length f]:List Value)++(vecG (Value.int .i64) 8 g.m)) ⟨[.bool g.c.num.neg,.slice e g.c.num.mag.length d,.bool g.c.den.neg,.slice c g.c.den.mag.length f],vecG (Value.int .i64) 8 g.m,z,⟨(v58' g.c.num e d),(v58' g.c.den c f),z,⟨[.bool g.c.num.neg],[.slice e g.c.num.mag.length d],z,z,⟨_,z,E⟩⟩,⟨[.bool g.c.den.neg],[.slice c g.c.den.mag.length f],z,z,⟨_,z,D⟩⟩⟩,z⟩ u (by first|simpa using hu|simpa [Value.cells] using hu))<|nr<|T' 12 z z99 z fun b4=>nx<|h'<|sr<|yy (bm' z) z<|yy (av' (vecG (Value.int .i64) 8 g.m).toArray 11 bS' z z (O' _ _ _) (aM' ([.bool g.c.num.neg,.slice e g.c.num.mag.length d,.bool g.c.den.neg,.slice c g.c.den.mag.length f]) (vecG (Value.int .i64) 8 g.m) ([]))) z<|mv z z<|nx<|aa' (fun (⟨A,M⟩:(Fin 8→Int)×Mem)=>[(3,.pointer (some ⟨O,0,none⟩)),(11,.pointer (some ⟨b3,0,none⟩)),(12,.pointer (some ⟨b4,0,none⟩)),(34,.slice p1p p1.length p1c),(35,i' (p1.length:Int)),(36,i' m),(9,.map (some P))]) (fun ⟨A,M⟩=>Mem.le s M∧(Za0 m t g A).wp (Out ao T)) (fun ⟨A,M⟩=>St U S M [(3,some ⟨O,.cells (vecG (Value.int .i64) 8 perm1).toArray 83 (0,0),0⟩),(11,some ⟨b3,.cells (([.bool g.c.num.neg,.slice e g.c.num.mag.length d,.bool g.c.den.neg,.slice c g.c.den.mag.length f]:List Value)++(vecG (Value.int .i64) 8 g.m)).toArray 101 (0,0),0⟩),(12,some ⟨b4,.cells (vecG (Value.int .i64) 8 A).toArray 99 (0,0),0⟩),(4033,o)]) ?_ ?_
     ·refine B' ?_
      let ah:(Fin 8→Int)→Prop:=fun oo=>((fun Z=>match Z with|A=>Za0 m t g A:(Fin 8→Int)→Comp ((Int×(List ((Fin 8→Int)×Zg)))⊕(((List ((Fin 8→Int)×Zg)))))) oo).wp (Out ao T)
      replace hr:(Comp.loop _ _).wp ah:=hr
      refine ab' (Φ:=ah) (fun (⟨l,y,F⟩:Int×(Fin 8→Int)×Mem)=>((l,y):Int×(Fin 8→Int))) (fun ⟨l,y,F⟩=>[(3,.pointer (some ⟨O,0,none⟩)),(11,.pointer (some ⟨b3,0,none⟩)),(12,.pointer (some ⟨b4,0,none⟩)),(34,.slice p1p p1.length p1c),(35,i' (p1.length:Int)),(36,i' m),(41,.agg (vecG (Value.int .i64) 8 g.m).toArray),(42,i' l),(9,.map (some P))]) (fun ⟨l,y,F⟩=>Mem.le s F) (fun ⟨l,y,F⟩=>St U S F [(3,some ⟨O,.cells (vecG (Value.int .i64) 8 perm1).toArray 83 (0,0),0⟩),(11,some ⟨b3,.cells (([.bool g.c.num.neg,.slice e g.c.num.mag.length d,.bool g.c.den.neg,.slice c g.c.den.mag.length f]:List Value)++(vecG (Value.int .i64) 8 g.m)).toArray 101 (0,0),0⟩),(12,some ⟨b4,.cells (vecG (Value.int .i64) 8 y).toArray 99 (0,0),0⟩),(4033,o)]) ⟨0,(fun _=>0),s⟩ hr (fc z (fc z (fc z (fc z (fc z (fc z (fc z (fc z (fc z fn))))))))) mr (wk (lc z (lc z (lc z (lc z ln))))) ?_
      ·intro aW n hx hr
       obtain⟨l,y,F⟩:=n
       have W:=hx
       refine sr<|yy (V' z z) z<|nx<|h'<|I' hr z (fun aI hr=>?_) (fun aI hr=>?_)
       ·refine o'<|e'<|h'<|B'<|sr<|mv z z ?_
        obtain⟨am,hr⟩:=hr
        refine yy (Y0.index aG' sc3 sz3 z z am (by' _ _ _ am)) z<|sg z z<|sg z z<|nx<|w'<|mv z z ?_
        obtain⟨al,hr⟩:=hr
        refine yy (aW' aY' sz3 z z al) z<|yy (b' 3 sc3 z z (by' _ _ _ al)) z<|mv z z ?_
        obtain⟨aL,hr⟩:=hr
        refine yy (aW' aG' sz3 z z aL) z<|au' 12 (vecG (Value.int .i64) 8 (setF y ((getF perm1 l).toNat) (getF g.m l))).toArray z sz3 z z z (by first|(rw[O']; omega)|(show _<(vecG _ _ _).toArray.size; rw[O']; omega)) z (bP' _ _ _ _ _)<|u'<|D'<|e'<|w'<|yy (N' z z) z<|mv z z<|u'<|P' ⟨IntKind.i64.wrap (l+1),setF y ((getF perm1 l).toNat) (getF g.m l),F⟩ hr W (fc z (fc z (fc z (fc z (fc z (fc z (fc z (fc z (fc z fn))))))))) (wk (lc z (lc z (lc z (lc z ln)))))
       ·refine ad'<|n'<|n'<|J'<|ae' ⟨y,F⟩ ⟨W,hr⟩ (fc z (fc z (fc z (fc z (fc z (fc z (fc z fn))))))) (wk (lc z (lc z (lc z (lc z ln)))))
     ·rintro⟨A,M⟩ ⟨K,hr⟩
      refine e'<|w'<|mv z z<|yy (t' 12 bS' z z (O' _ _ _)) z<|yy (ce' z) z<|yy (av' ([.bool g.c.num.neg,.slice e g.c.num.mag.length d,.bool g.c.den.neg,.slice c g.c.den.mag.length f]).toArray 11 ci' z z z (aM' ([]) ([.bool g.c.num.neg,.slice e g.c.num.mag.length d,.bool g.c.den.neg,.slice c g.c.den.mag.length f]) ((vecG (Value.int .i64) 8 g.m)))) z ?_
      obtain⟨⟨aH,ax⟩,hr⟩:=hr
      refine WL.mapPut (Rv':=RvA dU' M) (k:=A) (z:=g.c) 4033 z el' (MapR.monoA ac K) z z z z aH ⟨[.bool g.c.num.neg,.slice e g.c.num.mag.length d,.bool g.c.den.neg,.slice c g.c.den.mag.length f],z,⟨(v58' g.c.num e d),(v58' g.c.den c f),z,⟨[.bool g.c.num.neg],[.slice e g.c.num.mag.length d],z,z,⟨_,z,(E.mono K)⟩⟩,⟨[.bool g.c.den.neg],[.slice c g.c.den.mag.length f],z,z,⟨_,z,(D.mono K)⟩⟩⟩⟩ (fun _ _ _ _ h=>h) ax fun aJ aw=>u'<|D'<|e'<|w'<|yy (N' z z) z<|mv z z<|u'<|P' ⟨IntKind.i64.wrap (m+1),(mput t A g.c),aJ,M⟩ hr ⟨(mt J K),aw⟩ (fc z (fc z (fc z (fc z (fc z fn))))) (wk (lc z (lc z ln)))
    ·refine ad'<|n'<|n'<|J'<|ae' ⟨t,o,s⟩ ⟨J,ac,hr⟩ (fc z fn) (wk (lc z ln))
  ·rintro⟨L,C,Q⟩ ⟨aP,ay,hr⟩
   refine e'<|sr<|mv z z ?_
   obtain⟨aV,aA,hr⟩:=hr
   refine bt' (fun w hs=>hs.rekey (i:=4033) (j:=5500) z (by rw[Y]; rfl))<|WL.callRO z z (s' E176 z) (eV' aA) z (ay) (lc z ln) (fun i hi=>by simp only[List.map_cons,List.map_nil,List.mem_cons,List.not_mem_nil,or_false] at hi; subst hi; exact z) hz (fun aS aX aQ X=>?_)
   obtain⟨aR,aU,rfl,az⟩:=X
   refine bt' (fun w hs=>hs.rekey (i:=5500) (j:=4033) z (by rw[Y]; rfl))<|sg z z<|sg z z<|nx<|j' ?_
   obtain rfl:_=r:=hr
   exact aE' z z z ⟨_,_,z,az⟩
theorem fo'{q1 cap1 q1pp q1pc b1 r}(hr:(Zeo q1 cap1).Ret r):CtrL Tryz.prog 141 #[.agg ((v68' q1.id q1pp q1.p q1pc)).toArray,.pointer (some ⟨b1,0,none⟩)] [(120203,some ⟨b1,.cells (vecG (Value.int .i64) 8 cap1).toArray 83 (0,0),0⟩)] (fun G=>sl r' G q1pp q1pc q1.p) (fun G L v=>L=[(120203,some ⟨b1,.cells (vecG (Value.int .i64) 8 cap1).toArray 83 (0,0),0⟩)]∧(∃ h g,v = .agg ((v68' r.id h r.p g)).toArray∧sl r' G h g r.p)):=by
 refine aT' (args:=[_,_]) (N:=13) Tryz.func141 z z z (fun t u q k=>?_)
 have j:=k
 refine sr<|W' 2 z z z fun x=>T' 3 z z68 z fun s=>nr<|yy (bs' z) z<|yy (b' 2 bQ' z z z) z<|yy (t' 120203 ag83 z z (O' _ _ _)) z ?_
 obtain⟨m,l,hr⟩:=hr
 refine M' z z (s' E142 z) (eO' l) z (j) (fun o p n c=>?_)
 obtain⟨e,d,rfl,f⟩:=c
 refine mv z z<|yy (K' z z) z<|yy (K' z z) z<|yy (bs' z) z<|au' 2 ([i' q1.id,.slice e m.1.length d]).toArray z sz38 z z z (show 1<2 by decide) z z<|nr<|yy (t' 2 bI' z z z) z<|v' 3 z aP' z z z z z (List.all_eq_true.1 z)<|nx<|j' ?_
 obtain rfl:_=r:=hr
 exact WE.retW1 z (ac' (i:=3) bI' z z z) (lc z ln) ⟨z,⟨_,_,z,f⟩⟩
theorem co'{l1 cap1 l1p l1c b1 r}(hr:(ZE l1 cap1).Ret r):CtrL Tryz.prog 119 #[.slice l1p l1.length l1c,.func (.func 141) #[] #[.pointer (some ⟨b1,0,none⟩)]] [(120203,some ⟨b1,.cells (vecG (Value.int .i64) 8 cap1).toArray 83 (0,0),0⟩)] (fun G=>sl a' G l1p l1c l1) (fun G L v=>L=[(120203,some ⟨b1,.cells (vecG (Value.int .i64) 8 cap1).toArray 83 (0,0),0⟩)]∧(∃ U X,v = .slice U r.length X∧sl a' G U X r)):=by
 refine aT' (args:=[_,_]) (N:=26) Tryz.func119 z z z (fun F A I P=>?_)
 have t:=P
 have hz:F.L.zero:=by
  rw[I]; intro p hp x O
  simp only[List.mem_cons,List.not_mem_nil,or_false] at hp
  subst hp; cases O; rfl
 refine sr<|sg z z<|nr<|mv z z<|yy (L' q' t z) z ?_
 obtain⟨Z,hr⟩:=hr
 refine dM' (r:=a') (e:=68) (n:=(l1.length:Int)) (zx:=(Za.mk 0 [])) 4010 z z q' el68 z (by decide) (by decide) ⟨[i' 0],[.slice none 0 0],z,z,⟨_,z,(ah' _ _)⟩⟩ z z Z fun E Q ac=>sg z z<|nx<|h'<|sr<|mv z z<|yy (L' q' t z) z<|mv z z<|nx<|aa' (fun (⟨k,f,m⟩:(List Za)×Option Ow×Mem)=>[(5,.slice E (l1.length:Int).toNat ((l1.length:Int).toNat))]) (fun ⟨k,f,m⟩=>Mem.le A m∧RowR a' 68 m (.slice E (l1.length:Int).toNat ((l1.length:Int).toNat)) k f∧(ZJ k).Ret r) (fun ⟨k,f,m⟩=>St F A m [(120203,some ⟨b1,.cells (vecG (Value.int .i64) 8 cap1).toArray 83 (0,0),0⟩),(4010,f)]) ?_ ?_
 ·refine B' ?_
  let B:(List Za)→Prop:=fun oo=>((fun ov=>match ov with|k=>ZJ k:(List Za)→Comp (List Za)) oo).wp (fun a=>a=r)
  replace hr:(Comp.loop _ _).wp B:=hr
  refine ab' (Φ:=B) (fun (⟨g,d,c,h⟩:(List Za)×Option Ow×Int×Mem)=>((g,c):(List Za)×Int)) (fun ⟨g,d,c,h⟩=>[(1,.func (.func 141) #[] #[.pointer (some ⟨b1,0,none⟩)]),(5,.slice E (l1.length:Int).toNat ((l1.length:Int).toNat)),(11,.slice l1p l1.length l1c),(12,i' (l1.length:Int)),(13,i' c)]) (fun ⟨g,d,c,h⟩=>Mem.le A h∧RowR a' 68 h (.slice E (l1.length:Int).toNat ((l1.length:Int).toNat)) g d) (fun ⟨g,d,c,h⟩=>St F A h [(120203,some ⟨b1,.cells (vecG (Value.int .i64) 8 cap1).toArray 83 (0,0),0⟩),(4010,d)]) ⟨(List.replicate (l1.length:Int).toNat (Za.mk 0 [])),Q,0,A⟩ hr (fc z (fc z (fc z (fc z (fc z fn))))) ⟨mr,ac⟩ (wk (lc z (lc z ln))) ?_
  ·intro ao gx O hr
   obtain⟨g,d,c,h⟩:=gx
   obtain⟨j,q⟩:=O
   refine sr<|yy (V' z z) z<|nx<|h'<|I' hr z (fun Y hr=>?_) (fun Y hr=>?_)
   ·refine o'<|e'<|h'<|B'<|sr<|mv z z ?_
    obtain⟨x1,J,hr⟩:=hr
    refine yy (Q' q' aP' (t.mono j) z z J) z ?_
    obtain⟨ah,ai,V,K⟩:=ba' (E' (Z' t J) j)
    refine yy (aw' _ bI' z z V) z<|T' 7 z z68 z fun b2=>sg z z<|v' 7 z aP' z z z z z (List.all_eq_true.1 z)<|nx<|w'<|mv z z<|mv z z<|mv z z<|yy (t' 7 bI' z z z) z ?_
    obtain⟨l,S,hr⟩:=hr
    refine WL.callRO z z (cH' E141 z z) (fo' S) z (K) (lc z ln) (fun i hi=>by simp only[List.map_cons,List.map_nil,List.mem_cons,List.not_mem_nil,or_false] at hi; subst hi; exact z) hz (fun ak W o y=>?_)
    obtain⟨u,s,rfl,D⟩:=y
    obtain⟨x2,H,hr⟩:=hr
    refine yy (aX' q' aP' (q.mono o) z z H) z<|bx' (r:=a') (e:=68) (cs':=(v68' l.id u l.p s)) (i:=c) (z':=l) 4010 z aP' z (q.mono o) z z z z ⟨[i' l.id],[.slice u l.p.length s],z,z,⟨_,z,D⟩⟩ H fun ad M=>u'<|D'<|e'<|w'<|yy (N' z z) z<|mv z z<|u'<|P' ⟨(g.set c.toNat l),ad,IntKind.i64.wrap (c+1),W⟩ hr ⟨(mt j o),M⟩ (fc z (fc z (fc z (fc z (fc z fn))))) (wk (lc z (lc z ln)))
   ·refine ad'<|n'<|n'<|J'<|ae' ⟨g,d,h⟩ ⟨j,q,hr⟩ (fc z fn) (wk (lc z (lc z ln)))
 ·rintro⟨k,f,m⟩ ⟨ag,R,hr⟩
  refine e'<|sr<|mv z z<|sg z z<|nx<|j' ?_
  obtain rfl:_=r:=hr
  refine dB' (r:=a') (e:=68) 4010 R z (by rw[I]; rfl) fun an T af C ae=>aA' (S':=St F A T [(120203,some ⟨b1,.cells (vecG (Value.int .i64) 8 cap1).toArray 83 (0,0),0⟩)]) (wk (lc z ln))<|k' z z ⟨z,⟨_,_,(cV' C),(cN' C)⟩⟩
theorem ee'{s1 perm1 s1varsp s1varsc s1eqsp s1eqsc s1neqsp s1neqsc r}(hr:(Zbw s1 perm1).Ret r):Ctr Tryz.prog 101 #[.agg ((v33' s1 s1varsp s1varsc s1eqsp s1eqsc s1neqsp s1neqsc)).toArray,.agg (vecG (Value.int .i64) 8 perm1).toArray] (fun G=>sl Rp.str G s1varsp s1varsc s1.vars∧sl a' G s1eqsp s1eqsc s1.eqs∧sl a' G s1neqsp s1neqsc s1.neqs) (fun G v=>∃ o s y A n q,v = .agg ((v33' r o s y A n q)).toArray∧sl Rp.str G o s r.vars∧sl a' G y A r.eqs∧sl a' G n q r.neqs):=by
 refine C' (args:=[_,_]) (N:=18) Tryz.func101 z z z (fun T G0 M J=>?_)
 obtain⟨D,F,C⟩:=J
 have hz:T.L.zero:=by rw[M]; intro p W; simp at W
 refine sr<|W' 2 z z z fun Y=>W' 120203 z z z fun O=>T' 4 z z33 z fun b3=>nr<|yy (bK' z z) z<|sg z z<|nx<|h'<|Y' [false,false,false,false,false,false,false,false,false] mix (by kernel_rfl) fun Z=>cn (fun _ c=>ax' z)<|cn (fun _ c=>b' 2 aS' z z z)<|cn (fun _ c=>f' z) ?_
 obtain⟨l,L,hr⟩:=hr
 refine eq' (f:=119) (φ:=fun G v=>∃ e g,v = .slice e l.length g∧sl a' G e g l) (L1:=[(120203,some ⟨O,.cells (vecG (Value.int .i64) 8 perm1).toArray 83 (0,0),0⟩)]) (fun _=>z) (fun v U Q c h=>?_) (lc z ln) (fun i H=>by simp only[List.map_cons,List.map_nil,List.mem_cons,List.not_mem_nil,or_false] at H; subst H; exact z) hz (fun u R c P=>?_) ?_
 ·obtain⟨e,g,rfl,x⟩:=h
  exact⟨_,_,z,x.mono c⟩
 ·skip
  exact⟨_,_,_,fun _=>s' E119 z,co' L,z,(F.mono c)⟩
 refine cu (fun _ _ c=>aL' z)<|cu (fun _ _ c=>b' 2 aS' z z z)<|cu (fun _ _ c=>f' z) ?_
 obtain⟨m,K,hr⟩:=hr
 refine eq' (f:=119) (φ:=fun G v=>∃ k j,v = .slice k m.length j∧sl a' G k j m) (L1:=[(120203,some ⟨O,.cells (vecG (Value.int .i64) 8 perm1).toArray 83 (0,0),0⟩)]) (fun _=>z) (fun v U Q c h=>?_) (lc z ln) (fun i H=>by simp only[List.map_cons,List.map_nil,List.mem_cons,List.not_mem_nil,or_false] at H; subst H; exact z) hz (fun u R c P=>?_) ?_
 ·obtain⟨k,j,rfl,t⟩:=h
  exact⟨_,_,z,t.mono c⟩
 ·obtain⟨_,_⟩:=(show True∧True from P)
  exact⟨_,_,_,fun _=>s' E119 z,co' K,z,(C.mono c)⟩
 refine cu (fun _ _ c=>ax' z)<|db' (d:=14) (post:=fun G v=>∃ k j,v = .slice k m.length j∧sl a' G k j m) (d':=10) (post':=fun G v=>∃ e g,v = .slice e l.length g∧sl a' G e g l) (fun S V X I B E=>?_)
 obtain⟨k,j,rfl,t⟩:=B
 obtain⟨e,g,rfl,x⟩:=E
 refine au' 2 ([.slice s1varsp s1.vars.length s1varsc,.slice e l.length g,.slice s1neqsp s1.neqs.length s1neqsc,i' s1.next]).toArray z cr' z z z (show 1<4 by decide) z z<|yy (aL' z) z<|au' 2 ([.slice s1varsp s1.vars.length s1varsc,.slice e l.length g,.slice k m.length j,i' s1.next]).toArray z cr' z z z (show 2<4 by decide) z z<|u'<|am'<|e'<|sr<|yy (t' 2 ai' z z z) z<|v' 4 z aZ' z z z z z (List.all_eq_true.1 z)<|nx<|j' ?_
 obtain rfl:_=r:=hr
 exact k' z (ac' (i:=4) ai' z z z) ⟨_,_,_,_,_,_,z,(D.mono I),x,t⟩
theorem cf'{s1 s1p s1c r}(hr:(ZG s1).Ret r):CtrL Tryz.prog 103 #[.slice s1p s1.length s1c] [] (fun G=>sl Rp.str G s1p s1c s1) (fun G L v=>∃ n q g,L=[(7000,g)]∧v = .slice n r.length q∧RowR Rp.str 9 G (.slice n r.length q) r g):=by
 refine aT' (args:=[_]) (N:=8) Tryz.func103 z z z (fun o c t m=>?_)
 have d:=m
 refine sr<|sg z z<|nx<|h'<|sr<|mv z z<|yy (Y0.eqlNil A' z z) z<|nx<|dK' (p:=s1p=none) z (fun f=>?_) (fun f=>?_)
 ·replace hr:=hr.1 (SlR.Zl1 d f)
  refine sr<|sg z z<|nx<|j' ?_
  replace hr:_=r:=hr
  refine g' ?_
  subst hr
  refine aA' (S':=St o c c [(7000,none)]) (wk (lw ln))<|k' z z ⟨_,_,_,z,z,(ea' (r:=Rp.str) (e:=9))⟩
 ·replace hr:=hr.2
  refine o'<|e'<|sr<|WL.litT (e:=9) (r:=Rp.str) (vs:=#[]) (cs:=[]) ([]:List ByteArray) 4005 z z z z z (by decide) (fun _=>by kernel_rfl) (z) fun B x u=>mv z z ?_
  obtain⟨k,hr⟩:=hr
  refine bO' (r:=Rp.str) (e:=9) 4005 z z A' el9 z (by decide) z z u z d k fun A y h s=>sg z z<|nx<|j' ?_
  obtain rfl:_=r:=hr
  refine aA' (S':=St o c c [(7000,h)]) ?_ ?_
  ·intro w l
   have l:=l.rekey (i:=4005) (j:=7000) z (by rw[t]; rfl)
   exact l.weaken (lc z ln)
  exact k' z z ⟨_,_,_,z,z,s⟩
theorem fd'(c:Int)(f:Nat)(r:Bool)(hr:(ZaA c).Ret r):Ctr Tryz.prog 95 #[.pointer (some ⟨f,0,none⟩)] (fun G=>At (Rp.int .i64) G f 0 c) (fun G v=>v = .bool r):=by
 refine C' (args:=[_]) (N:=4) Tryz.func95 z z z (fun h i g e=>?_)
 have d:=e
 refine sr<|sg z z<|nr<|yy (U' sc3 z (aC' d)) z<|yy (V' z z) z<|sg z z<|nx<|j' ?_
 obtain rfl:_=r:=hr
 exact k' z z z
theorem fe'(e:(Unit→Comp Bool))(d:Int)(l:Nat)(n:Nat)(r:Int)(hr:(Zk e d).Ret r):Ctr Tryz.prog 140 #[.pointer (some ⟨l,0,none⟩),.pointer (some ⟨n,0,none⟩)] (fun G=>At (Rp.fn Tryz.prog fa0 foB) G l 0 e∧At (Rp.int .i64) G n 0 d) (fun G v=>v=i' r):=by
 refine C' (args:=[_,_]) (N:=6) Tryz.func140 z z z (fun u x t i=>?_)
 obtain⟨h,g⟩:=i
 refine sr<|sg z z<|nx<|h'<|sr ?_
 obtain⟨y,k,o⟩:=AtK.fnv h
 refine yy (U' sc29 z (k)) z ?_
 obtain⟨q,j,hr⟩:=hr
 refine WL.callFn (vs:=[]) (a:=()) z z o z z z j (fun p s f c=>?_)
 subst c
 refine nx<|aN' hr z (fun m hr=>?_) (fun m hr=>?_)
 ·refine sr<|sg z z<|nx<|j' ?_
  replace hr:_=r:=hr
  refine g' ?_
  subst hr
  exact k' z z z
 ·refine o'<|e'<|sr<|yy (U' sc42 z (aC' (E' g f))) z<|sg z z<|nx<|j' ?_
  obtain rfl:_=r:=hr
  exact k' z z z
theorem bo'{ev1 holds1 holds1f holds1u r}(hr:(ZD ev1 holds1).Ret r):Ctr Tryz.prog 94 #[i' ev1,holds1f] (fun G=>FnRd Tryz.prog fa0 foB G holds1f holds1u holds1) (fun G v=>∃ l p,v=l∧FnRd Tryz.prog fa0 foI G l p r):=by
 refine C' (args:=[_,_]) (N:=6) Tryz.func94 z z z (fun y A g i=>?_)
 have c:=i
 refine sr<|W' 118802 z z z fun m=>WL.boxF 118803 (FnR.one c) z z z fun q=>sg z z<|nx<|h'<|bA' 118803 z (by rw[g]; rfl) fun t e h s=>bA' 118802 z (by rw[g]; rfl) fun k d j n=>w'<|yy (bK' z z) z<|sg z z<|nx<|j' ?_
 obtain rfl:_=r:=hr
 exact k' z z ⟨_,_,z,(show FnRd Tryz.prog fa0 foI k (.func (.func 140) #[] #[.pointer (some ⟨q,0,none⟩),.pointer (some ⟨m,0,none⟩)]) () (fun _=>Zk holds1 ev1) from (dc' E140 (fun x o=>dd' (fe' _ _ _ _ x o) (fun u f=>⟨(E' (ch' (r:=(Rp.fn Tryz.prog fa0 foB)) (cs:=[holds1f]) h z ⟨_,z,(c.mono e)⟩) (mt d f)),(E' (ch' (r:=(Rp.int .i64)) (cs:=[i' ev1]) j z z) f)⟩))))⟩
theorem ff'(e:Zd)(d:Int)(h:Nat)(j:Nat)(r:Bool)(hr:(Zac e d).Ret r):Ctr Tryz.prog 96 #[.pointer (some ⟨h,0,none⟩),.pointer (some ⟨j,0,none⟩)] (fun G=>At ag' G h 0 e∧At (Rp.int .i64) G j 0 d) (fun G v=>v = .bool r):=by
 refine C' (args:=[_,_]) (N:=12) Tryz.func96 z z z (fun l m k g=>?_)
 obtain⟨c,f⟩:=g
 refine sr<|sg z z<|nr<|yy (ay' z) z<|yy (U' sc3 z (aC' (be' (aK' (aK' (aF' c)))))) z<|aj' hr z (bz' z z) z (fun i hr=>?_) (fun i hr=>?_)
 ·refine mv z z<|gy z z (ay' z) z<|gy z z (U' sc3 z (aC' (be' (aK' (aK' (aF' c)))))) z<|gy z z (U' sc3 z (aC' f)) z<|gy z z (bz' z z) z<|yy (m' z z) z<|sg z z<|nx<|j' ?_
  obtain rfl:_=r:=hr
  exact k' z z z
 ·refine mv z z<|sk z z z<|sk z z z<|sk z z z<|sk z z z<|yy (l' z z) z<|sg z z<|nx<|j' ?_
  obtain rfl:_=r:=hr
  exact k' z z z
theorem fg'(e:Zd)(d:Zb)(k:Nat)(m:Nat)(r:Bool)(hr:(ZaB e d).Ret r):Ctr Tryz.prog 97 #[.pointer (some ⟨k,0,none⟩),.pointer (some ⟨m,0,none⟩)] (fun G=>At ag' G k 0 e∧At bp' G m 0 d) (fun G v=>v = .bool r):=by
 refine C' (args:=[_,_]) (N:=14) Tryz.func97 z z z (fun t u q g=>?_)
 obtain⟨c,f⟩:=g
 refine sr<|sg z z<|nr<|yy (bM' z) z<|yy (U' sc9 z (bF' (be' (aK' (aF' c))))) z ?_
 obtain⟨j,i,hr⟩:=hr
 refine F' z z (s' E98 z) (dJ' i) z (trivial) ?_
 cases j
 ·skip
  refine mv z z<|sk z z z<|sk z z z<|sk z z z<|sk z z z<|sk z z z<|sk z z z<|yy (l' z z) z<|sg z z<|nx<|j' ?_
  obtain rfl:_=r:=hr
  exact k' z z z
 ·skip
  refine mv z z<|gy z z (ar' z) z ?_
  obtain⟨s,p,n,l⟩:=ca' (be' (aF' f))
  refine gy z z (U' bn' z (n)) z<|gy z z (bM' z) z<|gy z z (U' sc9 z (bF' (be' (aK' (aF' c))))) z ?_
  obtain⟨o,h,hr⟩:=hr
  refine F' (H' z z) z (s' E99 z) (cU' h) z (l)<|gy z z (ao' z) z<|yy (m' z z) z<|sg z z<|nx<|j' ?_
  obtain rfl:_=r:=hr
  exact k' z z z
theorem gi'{s1 ev1 s1varsp s1varsc s1eqsp s1eqsc s1neqsp s1neqsc ev1pp ev1pc r}(hr:(ZeQ s1 ev1).Ret r):Ctr Tryz.prog 64 #[.agg ((v33' s1 s1varsp s1varsc s1eqsp s1eqsc s1neqsp s1neqsc)).toArray,.agg ([i' ev1.kind,.string ev1.name,i' ev1.at',i' ev1.to',i' ev1.id,.slice ev1pp ev1.p.length ev1pc,.bool ev1.neq]).toArray] (fun G=>sl Rp.str G s1varsp s1varsc s1.vars∧sl a' G s1eqsp s1eqsc s1.eqs∧sl a' G s1neqsp s1neqsc s1.neqs∧sl r' G ev1pp ev1pc ev1.p) (fun G v=>∃ t y E H C B,v = .tuple #[.agg ((v33' r.1 t y E H C B)).toArray,i' r.2]∧sl Rp.str G t y r.1.vars∧sl a' G E H r.1.eqs∧sl a' G C B r.1.neqs):=by
 refine C' (args:=[_,_]) (N:=55) Tryz.func64 z z z (fun w0 T n aS=>?_)
 obtain⟨m,L,F,Z⟩:=aS
 have hz:w0.L.zero:=by rw[n]; intro p hp; simp at hp
 refine sr<|W' 112802 z z z fun b1=>W' 112803 z z z fun b2=>T' 4 z z33 z fun b3=>sg z z<|nr<|yy (ar' z) z<|yy (b' 112802 bn' z z z) z<|yy (L' A' m z) z<|T' 112806 z z3 z fun b4=>au' 112806 ([i' (s1.vars.length:Int)]).toArray z sz3 z z z (by first|decide|simp) z z<|nx<|h'<|bA' 112806 z (by rw[n]; rfl) fun bR h aq aL=>bA' 112803 z (by rw[n]; rfl) fun bK d ao aJ=>bA' 112802 z (by rw[n]; rfl) fun a7 g aK aO=>w'<|yy (bK' z z) z ?_
 obtain⟨a5,a1,hr⟩:=hr
 refine M' z z (s' E94 z) (bo' a1) z ((show FnRd Tryz.prog fa0 foB a7 (.func (.func 95) #[] #[.pointer (some ⟨b4,0,none⟩)]) () (fun _=>ZaA (s1.vars.length:Int)) from (dc' E95 (fun x S=>dd' (fd' _ _ x S) (fun G' c=>(E' (ch' (r:=(Rp.int .i64)) (cs:=[i' (s1.vars.length:Int)]) aq z z) (mt (mt d g) c))))))) (fun bG a6 l ag=>?_)
 obtain⟨bC,bJ,rfl,az⟩:=ag
 refine yy (bK' z z) z ?_
 obtain⟨be,aV,hr⟩:=hr
 refine M' z z (s' E94 z) (bo' aV) z ((show FnRd Tryz.prog fa0 foB a6 (.func (.func 96) #[] #[.pointer (some ⟨b2,0,none⟩),.pointer (some ⟨b4,0,none⟩)]) () (fun _=>Zac ev1 (s1.vars.length:Int)) from (dc' E96 (fun x S=>dd' (ff' _ _ _ _ x S) (fun G' c=>⟨(E' (ch' (r:=ag') (cs:=[i' ev1.kind,.string ev1.name,i' ev1.at',i' ev1.to',i' ev1.id,.slice ev1pp ev1.p.length ev1pc,.bool ev1.neq]) ao z ⟨[i' ev1.kind],[.string ev1.name,i' ev1.at',i' ev1.to',i' ev1.id,.slice ev1pp ev1.p.length ev1pc,.bool ev1.neq],z,z,⟨[.string ev1.name],[i' ev1.at',i' ev1.to',i' ev1.id,.slice ev1pp ev1.p.length ev1pc,.bool ev1.neq],z,z,⟨[i' ev1.at'],[i' ev1.to',i' ev1.id,.slice ev1pp ev1.p.length ev1pc,.bool ev1.neq],z,z,⟨[i' ev1.to'],[i' ev1.id,.slice ev1pp ev1.p.length ev1pc,.bool ev1.neq],z,z,⟨[i' ev1.id],[.slice ev1pp ev1.p.length ev1pc,.bool ev1.neq],z,z,⟨[.slice ev1pp ev1.p.length ev1pc],[.bool ev1.neq],z,⟨_,z,(Z.mono (mt h d))⟩,z⟩⟩⟩⟩⟩⟩) (mt (mt g l) c)),(E' (ch' (r:=(Rp.int .i64)) (cs:=[i' (s1.vars.length:Int)]) aq z z) (mt (mt (mt d g) l) c))⟩))))) (fun bE ba s al=>?_)
 obtain⟨bB,bk,rfl,au⟩:=al
 refine yy (bK' z z) z ?_
 obtain⟨bc,aT,hr⟩:=hr
 refine M' z z (s' E94 z) (bo' aT) z ((show FnRd Tryz.prog fa0 foB ba (.func (.func 97) #[] #[.pointer (some ⟨b2,0,none⟩),.pointer (some ⟨b1,0,none⟩)]) () (fun _=>ZaB ev1 s1) from (dc' E97 (fun x S=>dd' (fg' _ _ _ _ x S) (fun G' c=>⟨(E' (ch' (r:=ag') (cs:=[i' ev1.kind,.string ev1.name,i' ev1.at',i' ev1.to',i' ev1.id,.slice ev1pp ev1.p.length ev1pc,.bool ev1.neq]) ao z ⟨[i' ev1.kind],[.string ev1.name,i' ev1.at',i' ev1.to',i' ev1.id,.slice ev1pp ev1.p.length ev1pc,.bool ev1.neq],z,z,⟨[.string ev1.name],[i' ev1.at',i' ev1.to',i' ev1.id,.slice ev1pp ev1.p.length ev1pc,.bool ev1.neq],z,z,⟨[i' ev1.at'],[i' ev1.to',i' ev1.id,.slice ev1pp ev1.p.length ev1pc,.bool ev1.neq],z,z,⟨[i' ev1.to'],[i' ev1.id,.slice ev1pp ev1.p.length ev1pc,.bool ev1.neq],z,z,⟨[i' ev1.id],[.slice ev1pp ev1.p.length ev1pc,.bool ev1.neq],z,z,⟨[.slice ev1pp ev1.p.length ev1pc],[.bool ev1.neq],z,⟨_,z,(Z.mono (mt h d))⟩,z⟩⟩⟩⟩⟩⟩) (mt (mt (mt g l) s) c)),(E' (ch' (r:=bp') (cs:=(v33' s1 s1varsp s1varsc s1eqsp s1eqsc s1neqsp s1neqsc)) aK z ⟨[.slice s1varsp s1.vars.length s1varsc],[.slice s1eqsp s1.eqs.length s1eqsc,.slice s1neqsp s1.neqs.length s1neqsc,i' s1.next],z,⟨_,z,(m.mono (mt (mt h d) g))⟩,⟨[.slice s1eqsp s1.eqs.length s1eqsc],[.slice s1neqsp s1.neqs.length s1neqsc,i' s1.next],z,⟨_,z,(L.mono (mt (mt h d) g))⟩,⟨[.slice s1neqsp s1.neqs.length s1neqsc],[i' s1.next],z,⟨_,z,(F.mono (mt (mt h d) g))⟩,z⟩⟩⟩) (mt (mt l s) c))⟩))))) (fun bp bP I ab=>?_)
 obtain⟨bw,br,rfl,ap⟩:=ab
 obtain⟨ar,R,rfl⟩:=bX' az
 obtain⟨Y,K,rfl⟩:=bX' au
 obtain⟨Q,A,rfl⟩:=bX' ap
 refine aU' (e:=131) (r:=(Rp.fn Tryz.prog fa0 foI)) (vs:=#[(0,(.func (.func ar) #[] R)),(1,(.func (.func Y) #[] K)),(2,(.func (.func Q) #[] A))]) (cs:=[(.func (.func ar) #[] R)]++([(.func (.func Y) #[] K)]++([(.func (.func Q) #[] A)]++([])))) ([a5,be,bc]:List (Unit→Comp Int)) z z z z z (by decide) (fun _=>by kernel_rfl) ⟨[(.func (.func ar) #[] R)],[(.func (.func Y) #[] K)]++([(.func (.func Q) #[] A)]++([])),z,⟨_,z,(az.mono (mt s I))⟩,⟨[(.func (.func Y) #[] K)],[(.func (.func Q) #[] A)]++([]),z,⟨_,z,(au.mono I)⟩,⟨[(.func (.func Q) #[] A)],[],z,⟨_,z,ap⟩,z⟩⟩⟩ (key:=999) z (by rw[n]; rfl) (fun p1 bO aC bg=>?_)
 obtain⟨bL,aG,hr⟩:=hr
 refine F' z z (s' E93 z) (cC' aG) z (bg)<|sg z z<|cK' 112802 z aO (mt h d) (mt (mt (mt (mt g l) s) I) aC)<|cK' 112803 z aJ h d<|cK' 112806 z aL mr h<|nx<|h'<|sr<|mv z z<|yy (aR' z z) z<|nx<|I' hr z (fun bf hr=>?_) (fun bf hr=>?_)
 ·refine sr<|yy (aq' (vs:=#[]) (v:=.agg ([.slice none 0 0,.slice none 0 0,.slice none 0 0,i' 0]).toArray) z z (fun _=>by kernel_rfl)) z<|mv z z<|v' 4 z aZ' z z z z z (List.all_eq_true.1 z)<|sg z z<|nx<|j' ?_
  replace hr:_=r:=hr
  refine g' ?_
  subst hr
  exact aE' z (ac' (i:=4) ai' z z z) z ⟨_,_,_,_,_,_,z,(ah' Rp.str _),(ah' a' _),(ah' a' _)⟩
 ·refine o'<|e'<|sr ?_
  obtain⟨an,aQ,hr⟩:=hr
  refine F' z z (s' E100 z) (dT' aQ) z (trivial)<|T' 8 z z83 z fun b5=>v' 8 z sz83 z z z (O' _ _ _) (O' _ _ _) (fun u hu=>Rp.one (cv' .i64 8) (G:=T) (x:=an) (cs:=vecG (Value.int .i64) 8 an) z u (by first|simpa using hu|simpa [Value.cells] using hu))<|nx<|h'<|sr<|yy (ay' z) z<|yy (b' 112803 sc3 z z z) z<|sg z z<|nx<|aa' (fun (⟨o,O⟩:(Fin 8→Int)×Mem)=>[(2,.pointer (some ⟨b1,0,none⟩)),(3,.pointer (some ⟨b2,0,none⟩)),(4,.pointer (some ⟨b3,0,none⟩)),(6,.pointer (some ⟨b4,0,none⟩)),(8,.pointer (some ⟨b5,0,none⟩))]) (fun ⟨o,O⟩=>Mem.le T O∧(ZcP s1 ev1 o).Ret r) (fun ⟨o,O⟩=>St w0 T O [(112802,some ⟨b1,.cells ((v33' s1 s1varsp s1varsc s1eqsp s1eqsc s1neqsp s1neqsc)).toArray 33 (0,0),0⟩),(112803,some ⟨b2,.cells ([i' ev1.kind,.string ev1.name,i' ev1.at',i' ev1.to',i' ev1.id,.slice ev1pp ev1.p.length ev1pc,.bool ev1.neq]).toArray 40 (0,0),0⟩),(4,some ⟨b3,.cells ([.slice none 0 0,.slice none 0 0,.slice none 0 0,i' 0]).toArray 33 (0,0),0⟩),(112806,some ⟨b4,.cells ([i' (s1.vars.length:Int)]).toArray 3 (0,0),0⟩),(8,some ⟨b5,.cells (vecG (Value.int .i64) 8 o).toArray 83 (0,0),0⟩)]) ?_ ?_
  ·refine B' ?_
   let aw:(Fin 8→Int)→Prop:=fun oo=>((fun ov=>match ov with|o=>ZcP s1 ev1 o:(Fin 8→Int)→Comp (Zb×Int)) oo).wp (fun a=>a=r)
   replace hr:(Comp.loop _ _).wp aw:=hr
   refine ab' (Φ:=aw) (fun (⟨D,k,q⟩:Int×(Fin 8→Int)×Mem)=>((D,k):Int×(Fin 8→Int))) (fun ⟨D,k,q⟩=>[(2,.pointer (some ⟨b1,0,none⟩)),(3,.pointer (some ⟨b2,0,none⟩)),(4,.pointer (some ⟨b3,0,none⟩)),(6,.pointer (some ⟨b4,0,none⟩)),(8,.pointer (some ⟨b5,0,none⟩)),(9,i' D)]) (fun ⟨D,k,q⟩=>Mem.le T q) (fun ⟨D,k,q⟩=>St w0 T q [(112802,some ⟨b1,.cells ((v33' s1 s1varsp s1varsc s1eqsp s1eqsc s1neqsp s1neqsc)).toArray 33 (0,0),0⟩),(112803,some ⟨b2,.cells ([i' ev1.kind,.string ev1.name,i' ev1.at',i' ev1.to',i' ev1.id,.slice ev1pp ev1.p.length ev1pc,.bool ev1.neq]).toArray 40 (0,0),0⟩),(4,some ⟨b3,.cells ([.slice none 0 0,.slice none 0 0,.slice none 0 0,i' 0]).toArray 33 (0,0),0⟩),(112806,some ⟨b4,.cells ([i' (s1.vars.length:Int)]).toArray 3 (0,0),0⟩),(8,some ⟨b5,.cells (vecG (Value.int .i64) 8 k).toArray 83 (0,0),0⟩)]) ⟨ev1.at',an,T⟩ hr (fc z (fc z (fc z (fc z (fc z (fc z fn)))))) mr (wk (lc z (lc z (lc z (lc z (lc z ln)))))) ?_
   ·intro bN gx S hr
    obtain⟨D,k,q⟩:=gx
    have aa:=S
    refine h'<|sr<|mv z z<|yy (b' 112806 sc3 z z z) z<|yy (V' z z) z<|nx<|I' hr z (fun a8 hr=>?_) (fun a8 hr=>?_)
    ·refine o'<|e'<|h'<|B'<|w'<|mv z z<|mv z z<|yy (N' z z) z ?_
     obtain⟨a2,hr⟩:=hr
     refine yy (aW' aY' sz3 z z a2) z<|au' 8 (vecG (Value.int .i64) 8 (setF k D.toNat (IntKind.i64.wrap (D+1)))).toArray z sz3 z z z (by first|(rw[O']; omega)|(show _<(vecG _ _ _).toArray.size; rw[O']; omega)) z (bP' _ _ _ _ _)<|u'<|D'<|e'<|w'<|mv z z<|yy (N' z z) z<|sg z z<|u'<|P' ⟨IntKind.i64.wrap (D+1),setF k D.toNat (IntKind.i64.wrap (D+1)),q⟩ hr aa (fc z (fc z (fc z (fc z (fc z (fc z fn)))))) (wk (lc z (lc z (lc z (lc z (lc z ln))))))
    ·refine ad'<|n'<|n'<|J'<|ae' ⟨k,q⟩ ⟨aa,hr⟩ (fc z (fc z (fc z (fc z (fc z fn))))) (wk (lc z (lc z (lc z (lc z (lc z ln))))))
  ·rintro⟨o,O⟩ ⟨J,hr⟩
   refine e'<|sr<|yy (b' 112806 sc3 z z z) z<|yy (ay' z) z<|yy (b' 112803 sc3 z z z) z ?_
   obtain⟨a4,hr⟩:=hr
   refine yy (aW' aY' sz3 z z a4) z<|au' 8 (vecG (Value.int .i64) 8 (setF o ((s1.vars.length:Int).toNat) ev1.at')).toArray z sz3 z z z (by first|(rw[O']; omega)|(show _<(vecG _ _ _).toArray.size; rw[O']; omega)) z (bP' _ _ _ _ _)<|nr<|yy (t' 112802 ai' z z z) z<|yy (t' 8 ag83 z z (O' _ _ _)) z ?_
   obtain⟨av,aP,hr⟩:=hr
   refine M' z z (s' E101 z) (ee' aP) z (⟨(m.mono J),(L.mono J),(F.mono J)⟩) (fun bz bx a3 aj=>?_)
   obtain⟨aW,aR,ad,ai,V,W,rfl,X,ak,U⟩:=aj
   refine v' 112802 z aZ' z z z z z (List.all_eq_true.1 z)<|nx<|h'<|Y' [false,false,false,false,false,false,false,false] mix (by kernel_rfl) fun hb=>cn (fun _ c=>ar' z)<|cn (fun _ c=>b' 112802 bn' z z z) ?_
   obtain⟨bd,aU,hr⟩:=hr
   refine Chain.callOwn (f:=103) (r:=Rp.str) (e:=9) (xs:=bd) (fun _=>z) (fun u G' c hu=>?_) ?_
   ·skip
    exact⟨_,_,_,fun _=>s' E103 z,cf' aU,z,(X.mono c)⟩
   refine cu (fun _ _ c=>ay' z)<|cu (fun _ _ c=>b' 112803 sc3 z z z)<|cu (fun _ _ c=>bM' z)<|cu (fun _ _ c=>b' 112803 sc9 z z z)<|ey' (r:=Rp.str) (e:=9) ([ev1.name]:List ByteArray) (fun _=>z) z (by decide) (fun u G' c hu=>?_) ?_
   ·exact⟨#[(0,.string ev1.name)],[.string ev1.name]++([]),z,z,fun _=>by kernel_rfl,⟨[.string ev1.name],[],z,z,z⟩⟩
   refine du' (fun bo bv X1 ax ah af=>?_)
   obtain⟨p2,bQ,rfl,a9⟩:=ah
   refine WL.adoptR af (fun bu bm bh aZ aN bt=>?_)
   subst aZ
   refine bZ' (show WL _ _ _ _ _ _ (St w0 T X1.m _) from ?_)
   obtain⟨bb,aX,hr⟩:=hr
   refine bt' (fun w hs=>hs.rekey (i:=46) (j:=5000) z (by rw[n]; rfl))<|cc' z z (s' E102 z) (dY' aX) z (⟨aN,a9⟩) (lc z ln) hz (fun bl bD bs M ac=>?_)
   obtain⟨aM,a0,bj,rfl,rfl,aI⟩:=ac
   refine bt' (fun w hs=>hs.rekey (i:=5000) (j:=4052) z (by rw[n]; rfl))<|bu' (r:=Rp.str) (e:=9) 4052 aI z (by rw[n]; rfl) fun bM bA P aY bi=>yy (ar' z) z<|au' 112802 ([.slice aM bb.length a0,.slice ad av.eqs.length ai,.slice V av.neqs.length W,i' av.next]).toArray z sz30 z z z (show 0<4 by decide) z z<|u'<|am'<|e'<|sr<|yy (t' 112802 ai' z z z) z<|v' 4 z aZ' z z z z z (List.all_eq_true.1 z)<|sg z z<|nx<|j' ?_
   obtain rfl:_=r:=hr
   exact aE' z (ac' (i:=4) ai' z z z) z ⟨_,_,_,_,_,_,z,aY,(ak.mono (mt (mt ax M) P)),(U.mono (mt (mt ax M) P))⟩
end Go.Proofs.YtenaadodnembpaaGreat

