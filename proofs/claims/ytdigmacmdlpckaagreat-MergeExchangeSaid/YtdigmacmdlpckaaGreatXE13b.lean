/- The law MergeExchange holds for every input: a part of its proof (what the code does, plain models, and what they return). No condition. -/
import Derived.Test.YtdigmacmdlpckaaGreatXE13a
set_option linter.unusedVariables false
set_option linter.unusedSimpArgs false
namespace Go.EL
open Go.IntKind (i8 i16 i32 i64 u8 u16 u32 u64)
open Go Go.RowKit Go.Proofs Go.MapKept
def qn{K V:Type}(r:Rp V)(G:Mem):K->Value->V->Prop:=λ_ u x=>r.jJ G [u] x
def kj(x:Int):Nat:=8000000+(if 0<=x then 2*x.toNat else 2*(-x).toNat+1)
theorem JF(x:Int):8000000<=kj x:=Nat.le_add_right _ _
theorem Zsd{x y:Int}(h:kj x=kj y):x=y:=by
 unfold kj at h
 split at h <;> split at h <;> omega
def Tt{α:Type}(r:Rp α)(e:TypeId)(T:Lo)(G:Mem):Int->Value->Ŀ α->Prop:=λk u l=>ë r G u l/\Tok r.size e u l.length (T.get (kj k))
structure xA {α:Type}(T:Lo) (D:Ŀ (Int×Ŀ α)):Prop where
 high:∀ i x,T.get i=some x->8000000<=i
 none:∀ k,Å D k=none->T.get (kj k)=none
theorem Lo.ZuK{i j:Nat}{x:ŀ Ow}{L:Lo}(hi:i<8000000)(a:8000000<=j):Lo.get ((i,x)::L) j=L.get j:=by rw[Lo.Zn,Ā (by omega)]
theorem Lo.Jk:∀ {A T:Lo},A.all (λp=>decide (p.1<8000000))=true->∀ {j:Nat},8000000<=j->Lo.get (A++T) j=T.get j
 | [],_,_,_,_=>rfl
 | p::A,T,h,j,a=>by
  simp only[abl,Ē,Ģ] at h
  rw[Ħ,Lo.ZuK (i:=p.1) (x:=p.2) h.1 a]
  exact Lo.Jk h.2 a
theorem Lo.Qc:∀ {A T T':Lo},(∀ i x,T.get i=some x->8000000<=i)->∀ {j:Nat}{x:Ow},j<8000000->Lo.get (A++T) j=some x->Lo.get (A++T') j=some x
 | [],T,T',a,j,x,c,h=>by have:=a j x h; omega
 | p::A,T,T',a,j,x,c,h=>by
  obtain⟨i,y⟩:=p
  rw[Ħ,Lo.Zn] at h ⊢
  split at h
  .rename_i e; rw[Ă e]; exact h
  rename_i e; rw[Ā e]; exact Lo.Qc a c h
theorem Lo.ZtE{T:Lo}(a:∀ i x,T.get i=some x->8000000<=i){i:Nat}(hi:i<8000000):T.get i=none:=by
 cases h:T.get i with
 | none=>rfl
 | some x=>have:=a i x h; omega
theorem Lo.Zu2{T L:Lo}{i:Nat}{x:ŀ Ow}(c:∀ i x,T.get i=some x->8000000<=i)(hi:i<8000000)(h:Lo.sub T L):Lo.sub T ((i,x)::L):=λj y a=>by
 rw[Lo.Zn,Ā (by have:=c j y a; omega)]
 exact h j y a
section
variable {P:Program}{kt:TypeId}{K V:Type}{ky:Ky P kt K}{r:Rp V}{G G':Mem}
theorem ü.mono{v:Value}{D:Ŀ (K×V)}{tk:ŀ Ow}(h:ü ky (qn r G) v D tk)(a:Mem.le G G'):ü ky (qn r G') v D tk:=h.imp λ_ _ _ h=>r.mono a h
end
section
variable {P:Program}{kt:TypeId}{α:Type}{ky:Ky P kt Int}{r:Rp α}{e:TypeId}{G G':Mem}{T:Lo}
theorem ü.drop{v:Value}{D:Ŀ (Int×Ŀ α)}{tk:ŀ Ow}(h:ü ky (Tt r e T G) v D tk):ü ky (qn (Rp.sl r) G) v D tk:=h.imp λ_ _ u h=>⟨u,rfl,h.1⟩
variable {N:Nat}{Q:õ}{fr:Fr}{ops:Array Oper}{l:Ŀ Oper}{dst:ŀ Nat}{ty:TypeId}{pos:String}{af:Array Edge}{g:ŀ (Nat×Bool)}{w0:Bs}{G0:Mem}{L:Lo}
theorem O5{K V:Type}[DecidableEq K]:∀ (D:Ŀ (K×V)) (k:K) (x:V) (j:K),Å (Ñ D k x) j=if k=j then some x else Å D j
 | [],k,x,j=>by simp only[Ñ,Å]
 | p::D,k,x,j=>by
  simp only[Ñ]
  split
  .rename_i h
   subst h
   simp only[Å]
   split <;> simp_all
  rename_i h
  simp only[Å,O5 D k x j]
  split
  .rename_i a
   subst a
   rw[Ā (λe=>h e.symm)]
  rfl
theorem xA.put{D:Ŀ (Int×Ŀ α)}(d:xA T D){k:Int}{c:ŀ Ow}{y:Ŀ α}:xA ((kj k,c)::T) (Ñ D k y):=by
 refine⟨λi x h=>?_,λj a=>?_⟩
 .rw[Lo.Zn] at h
  split at h
  .rename_i e; rw[<- e]; exact JF k
  exact d.high i x h
 rw[O5] at a
 split at a
 .cases a
 rename_i h
 rw[Lo.Zn,Ā (λe=>h (Zsd e))]
 exact d.none j a
end
theorem Zt9{α:Type}{mk:α->Value}(d:∀ x y,mk x=mk y->x=y){n:Nat}{f g:Fin n->α}(h:í mk n f=í mk n g):f=g:=by
 funext i
 have a:=th mk n f i.isLt
 have c:=th mk n g i.isLt
 rw[h,c] at a
 exact (d _ _ (Ŵ a)).symm
theorem mapM_some{α β:Type}{f:α->ŀ β}:∀ {l:Ŀ α},(∀ x ∈ l,∃ y,f x=some y)->∃ ys,l.mapM f=some ys
 | [],_=>⟨[],rfl⟩
 | x::l,h=>by
  obtain⟨y,c⟩:=h x (by simp)
  obtain⟨ys,a⟩:=mapM_some (l:=l) (λz d=>h z (by simp[d]))
  exact⟨y::ys,by simp[List.mapM_cons,c,a]⟩
def Ky.int{P:Program}{kt:TypeId}{a:IntKind}(c:P.underlying kt=some (.int a)):Ky P kt Int where
 enc x:=.int a x
 ok x:=(Lit.int a x).wf=true
 inj h:=by cases h; rfl
 lit h:=⟨_,Go.Maps.keyOf_int_mk c h⟩
 keyed:=Go.Maps.int_keyed c
def Ky.arr{P:Program}{kt e:TypeId}{a:IntKind}{n:Nat}(j:P.underlying kt=some (.array n e))(w:P.underlying e=some (.int a))(r:P.keyType kt=true)(t:P.cellsOf kt=n)(l:P.cellsOf e=1)(B:laidOutB P=true)(f:kt<P.types.size)(q:P.keyTypeAt 2 kt=true):Ky P kt (Fin n->Int) where
 enc m:=.agg (í (Value.int a) n m).toArray
 ok m:=∀ i,(Lit.int a (m i)).wf=true
 inj h:=Zt9 (mk:=Value.int a) (λx y e=>by cases e; rfl) (by simpa using h)
 lit {m} h:=by
  have c:(í (Value.int a) n m).length=n:=uG _ _ _
  have g:(Value.agg (í (Value.int a) n m).toArray).formed P kt=true:=by simp[Value.formed,j,t,c]
  obtain⟨d,v⟩:∃ d,P.types.size=d+1:=⟨P.types.size-1,by have:=Nat.lt_of_le_of_lt (ġ _) f; omega⟩
  have C:∃ ys,(List.range n).mapM (λi=>P.keyLits P.types.size e (((í (Value.int a) n m).drop (i*P.cellsOf e)).take (P.cellsOf e)))=some ys:=by
   refine mapM_some λi hi=>?_
   have hi:i<n:=by simpa using hi
   have A:=th (Value.int a) n m hi
   have u:((í (Value.int a) n m).drop (i*P.cellsOf e)).take (P.cellsOf e)=[.int a (m ⟨i,hi⟩)]:=by
    rw[l,gd,List.take_one,List.head?_drop,A]; rfl
   rw[u,v]
   exact⟨[.int a (m ⟨i,hi⟩)],by simp[Program.keyLits,w,h ⟨i,hi⟩]⟩
  obtain⟨ys,s⟩:=C
  refine⟨.string (keyBytes ys.flatten),?_⟩
  have p:P.keyLits (P.types.size+1) kt (í (Value.int a) n m)=some ys.flatten:=by
   simp only[Program.keyLits,j,t,c,if_true,s,Ĥ]
  simp[keyOf,j,r,g,Value.cells,p]
 keyed:=Go.Maps.Keyed.of_law (deep_law_laid B (m:=2) (by omega) f q (by rw[j]))
def ó(s:Ĳ)(i:Int):Int:=((s.data.getD i.toNat 0).toNat:Int)
def bytesOf(l:Ŀ Int):Ĳ:=l.foldl (λr n=>r.push (UInt8.ofNat n.toNat)) ByteArray.empty
section
variable {P:Program}{N:Nat}{fr:Fr}{S:Υ}{dst:ŀ Nat}{ty:TypeId}{pos:String}{af:Array Edge}{g:ŀ (Nat×Bool)}{w0:Bs}{G0 G:Mem}{L:Lo}
theorem Y0.yD{t:TypeId}{x y:Operand}{s:Ĳ}{k:IntKind}{i:Int}(h:P.underlying t=some .string)(j:fr.ev x=some (.string s))(l:fr.ev y=some (.int k i))(hi:0<=i/\i<(s.size:Int)):
  Y0 P N ⟨dst,.index t x y,ty,pos,af,g⟩ fr S (.int .u8 (ó s i)):=λa w e _=>by
 have c:i.toNat<s.size:=by omega
 have f:s[i.toNat]? = some (s.data.getD i.toNat 0):=by
  rw[getElem?_pos s i.toNat c]
  have d:i.toNat<s.data.size:=c
  simp only[Array.getD,Ŗ d]
  rfl
 simp[execOp,e.ev j,e.ev l,Instr.index,asIntOf,đ h,hi.1,f,ó]
theorem J3(a b:Ĳ):(a.toList == b.toList)=decide (a=b):=by
 rw[ByteArray.toList_eq,ByteArray.toList_eq]
 obtain⟨⟨a⟩⟩:=a
 obtain⟨⟨b⟩⟩:=b
 by_cases h:a=b
 .subst h; simp
 have c:¬ (⟨⟨a⟩⟩:Ĳ)=⟨⟨b⟩⟩:=λe=>h (by cases e; rfl)
 simp[h]
theorem Y0.vw{t:TypeId}{x y:Operand}{s u:Ĳ}{b:TypeId}(d:P.underlying t=some .string)(a:fr.ev x=some (.string s))(c:fr.ev y=some (.string u)):Y0 P N ⟨dst,.binOp .eql t x y b,ty,pos,af,g⟩ fr S (.bool (decide (s=u))):=
 Y0.bin a c (HN _ _ _ _ _ _) λw=>by simp[binOp,Op.stringOp,J3]
theorem Y0.CN{t:TypeId}{x y:Operand}{s u:Ĳ}{b:TypeId}(d:P.underlying t=some .string)(a:fr.ev x=some (.string s))(c:fr.ev y=some (.string u)):Y0 P N ⟨dst,.binOp .neq t x y b,ty,pos,af,g⟩ fr S (.bool (decide (¬ s=u))):=
 Y0.bin a c (HN _ _ _ _ _ _) λw=>by simp[binOp,Op.stringOp,J3]
theorem Ã.ints{k:IntKind}:∀ {xs:Ŀ Int}{cs:Ŀ Value},Ã (Rp.int k) G cs xs->cs=xs.map (Value.int k)
 | [],cs,h=>by simpa [Ã] using h
 | y::ys,_,⟨c,d,e,a,f⟩=>by
  have a:c=[.int k y]:=a
  rw[e,a,Ã.ints f]; rfl
theorem Y0.q0{t d e:TypeId}{x:Operand}{v:Value}{xs:Ŀ Int}(H:P.underlying t=some (.slice e))(D:P.underlying e=some (.int .u8))(C:P.underlying d=some .string)(h:ë (Rp.int .u8) G v xs)(I:fr.ev x=some v):
  Y0 P N ⟨dst,.convert t d x,ty,pos,af,g⟩ fr (St w0 G0 G L) (.string (bytesOf xs)):=λa w B F=>by
 obtain⟨p,cap,cs,rfl,c,r,s,u,A⟩:=h
 have i:=u.ints
 subst i
 have E:(convert t d (.slice p xs.length cap)).run P w = .ok (.string (bytesOf xs)) w:=by
  rw[run_convert_bytes_string w t d e p xs.length cap H D C]
  cases p with
  | none=>
   have:xs=[]:=by
    cases xs with
    | nil=>rfl
    | cons y ys=>have:=s (by simp); cases this
   subst this
   simp[Conv.bytesToString,bytesOf]
  | some q=>
   obtain⟨m,n,f⟩:=q
   cases xs with
   | nil=>exact run_bytesToString w _ _ _ [] (by have:=aa5 (P:=P) w ⟨m,n,f⟩ [] (λj v l=>by simp at l); simpa using this)
   | cons y ys=>
   have:=r _ rfl (by simp only[Ġ] at c; omega)
   dsimp only at this
   subst this
   refine run_bytesToString w _ _ _ (y::ys) ?_
   have:=aa5 (P:=P) w ⟨m,n,none⟩ ((y::ys).map (Value.int .u8)) (λj v l=>by rw[rD]; exact F.ls _ _ _ (A j v l))
   simpa using this
 simp[execOp,B.ev I,E]
end
theorem Ja{z:Array Value}(e:0<z.size):∀ n:Nat,(madeCells z (n*z.size)).toList=(List.replicate n z.toList).flatten
 | 0=>by simp[madeCells]
 | n+1=>by
  rw[List.replicate_succ',List.flatten_append,List.flatten_cons,List.flatten_nil,ğ,<- Ja e n]
  apply fF
  intro i
  have a:(madeCells z (n*z.size)).toList.length=n*z.size:=by simp[madeCells]
  rw[List.getElem?_append,a]
  split
  .rename_i h
   have f:i<(n+1)*z.size:=by rw[ŋ]; omega
   simp[madeCells,h,f]
  rename_i h
  by_cases c:i<(n+1)*z.size
  .have d:i-n*z.size<z.size:=by rw[ŋ] at c; omega
   have g:i % z.size=i-n*z.size:=by
    have:i=(i-n*z.size)+z.size*n:=by rw[aaE z.size n]; omega
    rw[this,Nat.add_mul_mod_self_left,Nat.mod_eq_of_lt (by omega)]
    rw[aaE z.size n]; omega
   simp[madeCells,c,g,d]
  have d:¬ i-n*z.size<z.size:=by rw[ŋ] at c; omega
  rw[Ĺ (by simp[madeCells]; omega),Ĺ (by simp; omega)]
theorem Ã.replicate{α:Type}{r:Rp α}{G:Mem}{c:Ŀ Value}{x:α}(h:r.jJ G c x):∀ n:Nat,Ã r G (List.replicate n c).flatten (List.replicate n x)
 | 0=>rfl
 | n+1=>by rw[gL,gL,List.flatten_cons]; exact⟨c,_,rfl,h,Ã.replicate h n⟩
section
variable {P:Program}{N:Nat}{Q:õ}{fr:Fr}{ops:Array Oper}{l:Ŀ Oper}{dst:ŀ Nat}{ty:TypeId}{pos:String}{af:Array Edge}{g:ŀ (Nat×Bool)}
variable {w0:Bs}{G0 G:Mem}{L:Lo}{α:Type}{r:Rp α}{e:TypeId}{w:World}
theorem WL.CI{t:TypeId}{z:Value}{x y:Operand}{bytes:Nat}{k k':IntKind}{n:Int}{zx:α}(key:Nat)(E:κ ops fr ⟨dst,.makeSlice t x y,ty,pos,af,g⟩ true)(D:è N dst)(I:P.underlying t=some (.slice e))(A:mP P e z r.size bytes)(d:z.cells.size=r.size)(C:bytes<=100000)(R:0<r.size)
  (c:r.jJ G z.cells.toList zx) (J:fr.ev x=some (.int k n)) (K:fr.ev y=some (.int k' n)) (m:0<=n/\n<=1000000)
  (kk:∀ p tk,Η r e G (.slice p n.toNat n.toNat) (List.replicate n.toNat zx) tk->WL P N ops Q l (ξ dst (.slice p n.toNat n.toNat) fr) (St w0 G0 G ((key,tk)::L))):WL P N ops Q (⟨dst,.makeSlice t x y,ty,pos,af,g⟩::l) fr (St w0 G0 G L):=by
 obtain⟨i,hi,O,q,B⟩:=A.parts
 refine WL.yr (Φ:=λv w=>∃ p tk,v = .slice p n.toNat n.toNat/\Η r e G (.slice p n.toNat n.toNat) (List.replicate n.toNat zx) tk/\St w0 G0 G ((key,tk)::L) w) E (λa w f H=>?_) D (λv a w f ⟨p,tk,h,s,u⟩=>by subst h; exact kk p tk s a w f u)
 have j:(i.bytes:Int)*n<=281474976710656:=by
  have h:(i.bytes:Int)<=100000:=by omega
  have:(i.bytes:Int)*n<=100000*1000000:=Int.mul_le_mul h m.2 m.1 (by omega)
  omega
 have F:=run_make w t e i z I hi O k k' n n m.1 (ň _) j (by omega)
 have:(execOp a.eval ⟨dst,.makeSlice t x y,ty,pos,af,g⟩).run P w = .ok (.value (.slice (some ⟨w.heap.size,0,none⟩) n.toNat n.toNat)) (w.alloc (.cells (madeCells z.cells (n.toNat*i.size)) e)):=by
  simp[execOp,f.ev J,f.ev K,F]
 rw[this]
 refine⟨_,some ⟨w.heap.size,.cells (madeCells z.cells (n.toNat*i.size)) e (0,0),0⟩,rfl,?_,H.push key _⟩
 rw[q,<- d]
 refine⟨n.toNat,(madeCells z.cells (n.toNat*z.cells.size)).toList,[],by simp,by simp,rfl,?_,by simp[madeCells,d],by simp only[maxLen]; omega,by simp⟩
 rw[Ja (by omega)]
 exact Ã.replicate c _
theorem Y0.nilCheck{S:Υ}{x:Operand}{a:Addr}(d:fr.ev x=some (.pointer (some a))):Y0 P N ⟨dst,.nilCheck x,ty,pos,af,g⟩ fr S (.pointer (some a)):=λb w c _=>by simp[execOp,c.ev d]
theorem St.CB{i b m n:Nat}{c:Array Value}{t:TypeId}(h:St w0 G0 G L w)(hi:L.get i=some ⟨b,.cells c t (0,0),m⟩)(E:w0.L.zero)(s:m<=n):
  St w0 G0 (Mem.row G b c m n) ((i,some ⟨b,.cells c t (0,0),n⟩)::L) w/\Mem.le G (Mem.row G b c m n):=by
 obtain⟨A,B,C⟩:=h.loc i _ hi
 have q:=Mem.RE (c:=c) (n:=n) C
 refine⟨⟨h.os,h.tape,h.output,h.drawn,h.size,h.block,Mem.le_trans h.base q,λb' o v f=>?_,λb' o v f=>?_,λj y l=>?_,λj k y z u d g=>?_⟩,q⟩
 .unfold Mem.row at f
  split at f
  .rename_i e
   obtain⟨d,_,_⟩:=e
   subst d
   rw[ŧ w b' o c t (0,0) A]; exact f
  exact h.ls b' o v f
 .unfold Mem.row at f
  split at f
  .rename_i e
   obtain⟨d,_,_⟩:=e
   subst d
   exact .inr (B.elim (λ⟨y,e,D⟩=>.inr ⟨i,y,e,D,by rw[Lo.BD E e]; exact ġ _⟩) (λh=>.inl h))
  exact h.fresh b' o v f
 .rw[Lo.Zn] at l
  split at l
  .rename_i a
   subst a
   simp only[Ď] at l
   subst l
   refine⟨A,B,λk r=>?_⟩
   unfold Mem.row
   rw[if_neg (by dsimp only at r ⊢; omega)]
   exact C k (ł s r)
  rename_i a
  obtain⟨H,I,J⟩:=h.loc j y l
  refine⟨H,I,λk r=>?_⟩
  have F:y.b≠b:=λe=>h.gY i j _ y a hi l e.symm
  unfold Mem.row
  rw[Ā (λe=>F e.1)]
  exact J k r
 rw[Lo.Zn] at d g
 split at d <;> split at g
 .omega
 .rename_i a p
  simp only[Ď] at d
  subst d
  exact h.gY i k ⟨b,.cells c t (0,0),m⟩ z p hi g
 .rename_i a p
  simp only[Ď] at g
  subst g
  exact h.gY j i y ⟨b,.cells c t (0,0),m⟩ (λe=>a e.symm) d hi
 exact h.gY j k _ _ u d g
theorem Η.vz{v:Value}{xs:Ŀ α}{tk:ŀ Ow}{key:Nat}(h:Η r e G v xs tk)(c:L.get key=tk)(D:w0.L.zero){w:World}(f:St w0 G0 G L w):
  ∃ G' d,Mem.le G G'/\ë r G' v xs/\Tok r.size e v xs.length d/\St w0 G0 G' ((key,d)::L) w/\(∀ Gx L' w',Mem.le G Gx->Mem.le G' Gx->St w0 G0 Gx ((key,d)::L') w'->St w0 G0 G ((key,tk)::L') w'):=by
 cases tk with
 | none=>
  obtain⟨rfl,p,rfl,hp⟩:=h
  exact⟨G,none,Mem.le_refl _,⟨p,0,[],rfl,by simp,hp,λh=>by simp at h,rfl,λj u h=>by simp at h⟩,⟨p,rfl⟩,f.weaken (Lo.Ze c (Lo.tg _)),λGx L' w' E _ g=>g.jt f.base E⟩
 | some x=>
  obtain⟨cap,cs,rest,rfl,g,m,q,F,s,H⟩:=h
  obtain⟨l,P,O⟩:=x
  dsimp only at g m
  subst g m
  have J:=q.len
  obtain⟨K,A⟩:=f.CB (i:=key) (n:=xs.length*r.size) c D (ġ _)
  refine⟨_,some ⟨l,.cells (cs++rest).toArray e (0,0),xs.length*r.size⟩,A,⟨_,cap,cs,rfl,by simp only[maxLen] at s; omega,λa I _=>by cases I; rfl,λ_=>rfl,q.mono A,λj u y=>?_⟩,⟨cap,_,rfl,rfl,rfl,by simpa using F,s,H⟩,K,λGx L' w' B N C=>?_⟩
  .have t:=(Ć.1 y).1
   show Mem.row G l _ 0 _ l (0+j)=some u
   rw[ļ,Mem.yc (ġ _) (by rw[<- J]; exact t),ę,ĕ t]
   exact y
  exact (C.jt f.base B).uv (λk=>(f.loc key _ c).2.2 k (ġ _))
end
section
variable {P:Program}{N:Nat}{Q:õ}{fr:Fr}{S:Υ}{ops:Array Oper}{l:Ŀ Oper}{dst:ŀ Nat}{ty:TypeId}{pos:String}{af:Array Edge}{id:Nat}{y:Code}{op:Op}{v:Value}{x:Operand}
theorem nx(h:WC P N y Q fr S):WL P N ops (Exit.then (y.wp P Q) Q) [] fr S:=h
theorem sr(h:WL P N l.toArray (Exit.then (y.wp P Q) Q) l fr S):WC P N (.seq (.region id l.toArray false) y) Q fr S:=WC.seq (WC.region h)
theorem nr(h:WL P N l.toArray (Exit.then (y.wp P Q) Q) l fr S):WL P N ops (Exit.then ((Code.seq (.region id l.toArray false) y).wp P Q) Q) [] fr S:=nx (sr h)
theorem yy(h:Y0 P N ⟨dst,op,ty,pos,af,none⟩ fr S v)(a:è N dst)(k:WL P N ops Q l (ξ dst v fr) S):WL P N ops Q (⟨dst,op,ty,pos,af,none⟩::l) fr S:=WL.mZ Zf h a k
theorem mv(h:fr.ev x=some v)(a:è N dst)(k:WL P N ops Q l (ξ dst v fr) S):WL P N ops Q (⟨dst,.move x,ty,pos,af,none⟩::l) fr S:=yy (Y0.move h) a k
theorem sg(h:fr.ev x=some v)(a:è N dst)(k:WL P N ops Q l (ξ dst v fr) S):WL P N ops Q (⟨dst,.assign x,ty,pos,af,none⟩::l) fr S:=yy (Y0.assign h) a k
theorem sf{j d:Nat}(a:(ops[j]?).bind (·.dst)=some d)(c:fr.get d=some (.bool true))(e:è N dst)(k:WL P N ops Q l (ξ dst undef fr) S):WL P N ops Q (⟨dst,op,ty,pos,af,some (j,false)⟩::l) fr S:=WL.skip (Pv a c) e k
theorem gy{j d:Nat}{c:Bool}(a:(ops[j]?).bind (·.dst)=some d)(e:fr.get d=some (.bool c))(h:Y0 P N ⟨dst,op,ty,pos,af,some (j,c)⟩ fr S v)(f:è N dst)(k:WL P N ops Q l (ξ dst v fr) S):WL P N ops Q (⟨dst,op,ty,pos,af,some (j,c)⟩::l) fr S:=WL.mZ (I7 a e) h f k
theorem cn{Bt:Υ}{w0:Bs}{G0 G:Mem}{L:Lo}{fs:Ŀ Bool}{Χ:Fr}(h:∀ G',Mem.le G G'->Y0 P N ⟨dst,op,ty,pos,af,none⟩ (Χ++fr) (St w0 G0 G' L) v)(k:η P N Q fr w0 G0 G L ops Bt fs l (ξ dst v Χ) []):η P N Q fr w0 G0 G L ops Bt (false::fs) (⟨dst,op,ty,pos,af,none⟩::l) Χ []:=η.y0 Zf h k
theorem cu{Bt:Υ}{w0:Bs}{G0 G:Mem}{L:Lo}{fs:Ŀ Bool}{Χ:Fr}{Ω:mK}(h:∀ u G',Mem.le G G'->Y0 P N ⟨dst,op,ty,pos,af,none⟩ (ψ Ω u++(Χ++fr)) (St w0 G0 G' L) v)(k:η P N Q fr w0 G0 G L ops Bt fs l (ξ dst v Χ) Ω):η P N Q fr w0 G0 G L ops Bt (false::fs) (⟨dst,op,ty,pos,af,none⟩::l) Χ Ω:=η.Dc (λ_=>Zf) h k
theorem sk{j d:Nat}(a:(ops[j]?).bind (·.dst)=some d)(c:fr.get d=some (.bool false))(e:è N dst)(k:WL P N ops Q l (ξ dst undef fr) S):WL P N ops Q (⟨dst,op,ty,pos,af,some (j,true)⟩::l) fr S:=WL.skip (I6 a c) e k
end
section
variable {P:Program}{N:Nat}{Q:õ}{fr:Fr}{ops:Array Oper}{l:Ŀ Oper}{dst:ŀ Nat}{ty:TypeId}{pos:String}{af:Array Edge}{g:ŀ (Nat×Bool)}{w0:Bs}{G0 G:Mem}{L:Lo}
theorem Ã.CP{k:IntKind}:∀ xs:Ŀ Int,Ã (Rp.int k) G (xs.map (Value.int k)) xs
 | []=>rfl
 | x::xs=>⟨[.int k x],xs.map (Value.int k),rfl,rfl,Ã.CP xs⟩
end
theorem ZuW(a sub post:Ŀ Value):∀ j v,sub.toArray[j]? = some v->(a++(sub++post)).toArray[a.length+j]? = some v:=λj v h=>by
 rw[ę] at h ⊢
 rw[Ī (by omega),aav,ĕ (Ć.1 h).1]
 exact h
section
variable {P:Program}{N:Nat}{Q:õ}{fr:Fr}{w0:Bs}{G0 G:Mem}{L:Lo}{ops:Array Oper}{ty:TypeId}{pos:String}{af:Array Edge}{g:ŀ (Nat×Bool)}{fs:Ŀ Bool}{l:Ŀ Oper}{Χ:Fr}{Ω:mK}{d:Nat}{op:Op}{φ:Mem->Value->Prop}
theorem η.tC{Bt:Υ}{f:FuncId}(r:∀ u,κ ops (ψ Ω u++(Χ++fr)) ⟨some d,op,ty,pos,af,g⟩ true)(s:∀ v c e,Mem.le c e->φ c v->φ e v)
  (h:∀ u (G':Gx),Mem.le G G'.m->ô ops ⟨some d,op,ty,pos,af,g⟩ Ω u G'->∃ args a i,(∀ S,YC P N ⟨some d,op,ty,pos,af,g⟩ (ψ Ω u++(Χ++fr)) S f a)/\ä P f args i φ/\a=args/\i G'.m)
  (k:η P N Q fr w0 G0 G L ops Bt fs l Χ ((d,λv g=>φ g.m v)::Ω)):η P N Q fr w0 G0 G L ops Bt (false::fs) (⟨some d,op,ty,pos,af,g⟩::l) Χ Ω:=
 η.q6 d _ rfl (λv _ _ h=>s v _ _ h.1) (λu G' j t=>by
  obtain⟨args,a,i,m,n,p,q⟩:=h u G' j.1 t
  exact jR.call (r u) (m _) n p q) k
theorem η.ux{Bt:Υ}(q:∀ u,κ ops (ψ Ω u++(Χ++fr)) ⟨some d,op,ty,pos,af,g⟩ true)(r:∀ v e f,Mem.le e f->φ e v->φ f v)
  (h:∀ u (G':Gx),Mem.le G G'.m->ô ops ⟨some d,op,ty,pos,af,g⟩ Ω u G'->∃ c,Y0 P N ⟨some d,op,ty,pos,af,g⟩ (ψ Ω u++(Χ++fr)) (St w0 G0 G'.m L) c/\φ G'.m c)
  (k:η P N Q fr w0 G0 G L ops Bt fs l Χ ((d,λv g=>φ g.m v)::Ω)):η P N Q fr w0 G0 G L ops Bt (false::fs) (⟨some d,op,ty,pos,af,g⟩::l) Χ Ω:=
 η.q6 d _ rfl (λv _ _ h=>r v _ _ h.1) (λu G' i s=>by
  obtain⟨c,m,n⟩:=h u G' i.1 s
  exact .inr ⟨q u,λa w p j=>by rw[m a w p j.st]; exact⟨G',Gx.le_refl _,j,n⟩⟩) k
theorem η.za{Bt:Υ}{o:Oper}{c:Value}(d:∀ u,κ ops (ψ Ω u++(Χ++fr)) o true)
  (h:∀ u (G':Gx),Mem.le G G'.m->ô ops o Ω u G'->Y0 P N o (ψ Ω u++(Χ++fr)) (St w0 G0 G'.m L) c)
  (k:η P N Q fr w0 G0 G L ops Bt fs l (ξ o.dst c Χ) Ω):η P N Q fr w0 G0 G L ops Bt (false::fs) (o::l) Χ Ω:=
 η.Kw (λu G' a e=>jR.y0 (d u) (h u G' a.1 e)) k
theorem η.pS{Bt:Υ}{o:Oper}{c:Value}(f:∀ u,κ ops (ψ Ω u++(Χ++fr)) o true)
  (h:∀ u (G':Gx),Mem.le G G'.m->ô ops o Ω u G'->Y0 P N o (ψ Ω u++(Χ++fr)) (λ_=>True) c)
  (k:η P N Q fr w0 G0 G L ops Bt fs l (ξ o.dst c Χ) Ω):η P N Q fr w0 G0 G L ops Bt (true::fs) (o::l) Χ Ω:=.inl ⟨c,λu G' d g=>⟨f u,λa w e _=>h u G' d.1 g a w e trivial⟩,k⟩
def ur(v:Value)(i:Nat):Value:=match v with | .tuple vs=>vs.getD i undef|v=>v
theorem η.pR{Bt:Υ}{x:Operand}{i kk:Nat}(r:((⟨some d,.extract x i,ty,pos,af,g⟩:Oper).looksAt ops).contains kk=true)(q:∀ u,κ ops (ψ Ω u++(Χ++fr)) ⟨some d,.extract x i,ty,pos,af,g⟩ true)(s:∀ v a c,Mem.le a c->φ a v->φ c v)
  (h:∀ u (G':Gx),Mem.le G G'.m->ô ops ⟨some d,.extract x i,ty,pos,af,g⟩ Ω u G'->∃ vs v,u kk = .tuple vs/\(ψ Ω u++(Χ++fr)).ev x=some (.tuple vs)/\vs[i]? = some v/\φ G'.m v)
  (k:η P N Q fr w0 G0 G L ops Bt fs l Χ ((d,λv g=>φ g.m v)::Ω)):η P N Q fr w0 G0 G L ops Bt (true::fs) (⟨some d,.extract x i,ty,pos,af,g⟩::l) Χ Ω:=
 .inr ⟨d,_,λu=>ur (u kk) i,rfl,λv _ _ h=>s v _ _ h.1,λu w h=>by simp only; rw[h kk (by simpa using r)],λu G' f t=>by
  obtain⟨vs,v,m,n,j,p⟩:=h u G' f.1 t
  have e:ur (u kk) i=v:=by rw[m]; simp only[ur,Ÿ,j,ś]
  dsimp only
  rw[e]
  exact⟨q u,Y0.extract n j,p⟩,k⟩
theorem WL.ph{g':Gx}{b:Nat}{c:Obj}(f:g'.x b=some (d,c))(k:WL P N ops Q l fr (jO w0 G0 ⟨g'.m,λk=>if k=b then none else g'.x k⟩ ((d,some ⟨b,c,0⟩)::L))):WL P N ops Q l fr (jO w0 G0 g' L):=λa w e g=>k a w e (g.ph f)
theorem WL.FU{g':Gx}(k:WL P N ops Q l fr (St w0 G0 g'.m L)):WL P N ops Q l fr (jO w0 G0 g' L):=λa w c d=>k a w c d.st
theorem η.ql{d0 d1:Nat}{a c:Value->Gx->Prop}(k:∀ f h (G':Gx),Mem.le G G'.m->a f G'->c h G'->WL P N ops (NX Q) l ((d0,f)::(d1,h)::(Χ++fr)) (jO w0 G0 G' L)):η P N Q fr w0 G0 G L ops (λ_=>True) [] l Χ [(d0,a),(d1,c)]:=λu g d e=>jc.of (k (u d0) (u d1) g d.1 e.1 e.2.1)
theorem η.uq{d0 d1 d2:Nat}{a c d:Value->Gx->Prop}(k:∀ h i j (G':Gx),Mem.le G G'.m->a h G'->c i G'->d j G'->WL P N ops (NX Q) l ((d0,h)::(d1,i)::(d2,j)::(Χ++fr)) (jO w0 G0 G' L)):η P N Q fr w0 G0 G L ops (λ_=>True) [] l Χ [(d0,a),(d1,c),(d2,d)]:=λu g e f=>jc.of (k (u d0) (u d1) (u d2) g e.1 f.1 f.2.1 f.2.2.1)
theorem η.rq{d0 d1 d2 d3:Nat}{a c d e:Value->Gx->Prop}(k:∀ i j m n (G':Gx),Mem.le G G'.m->a i G'->c j G'->d m G'->e n G'->WL P N ops (NX Q) l ((d0,i)::(d1,j)::(d2,m)::(d3,n)::(Χ++fr)) (jO w0 G0 G' L)):η P N Q fr w0 G0 G L ops (λ_=>True) [] l Χ [(d0,a),(d1,c),(d2,d),(d3,e)]:=λu g h f=>jc.of (k (u d0) (u d1) (u d2) (u d3) g h.1 f.1 f.2.1 f.2.2.1 f.2.2.2.1)
theorem η.rr{d0 d1 d2 d3 d4:Nat}{c d e f h:Value->Gx->Prop}(k:∀ j m n p q (G':Gx),Mem.le G G'.m->c j G'->d m G'->e n G'->f p G'->h q G'->WL P N ops (NX Q) l ((d0,j)::(d1,m)::(d2,n)::(d3,p)::(d4,q)::(Χ++fr)) (jO w0 G0 G' L)):η P N Q fr w0 G0 G L ops (λ_=>True) [] l Χ [(d0,c),(d1,d),(d2,e),(d3,f),(d4,h)]:=λu g i a=>jc.of (k (u d0) (u d1) (u d2) (u d3) (u d4) g i.1 a.1 a.2.1 a.2.2.1 a.2.2.2.1 a.2.2.2.2.1)
theorem η.yV{d0 d1 d2 d3 d4 d5:Nat}{c d e f h i:Value->Gx->Prop}(k:∀ m n p q r s (G':Gx),Mem.le G G'.m->c m G'->d n G'->e p G'->f q G'->h r G'->i s G'->WL P N ops (NX Q) l ((d0,m)::(d1,n)::(d2,p)::(d3,q)::(d4,r)::(d5,s)::(Χ++fr)) (jO w0 G0 G' L)):η P N Q fr w0 G0 G L ops (λ_=>True) [] l Χ [(d0,c),(d1,d),(d2,e),(d3,f),(d4,h),(d5,i)]:=λu g j a=>jc.of (k (u d0) (u d1) (u d2) (u d3) (u d4) (u d5) g j.1 a.1 a.2.1 a.2.2.1 a.2.2.2.1 a.2.2.2.2.1 a.2.2.2.2.2.1)
theorem OZ{a:Act}{F:Fr}{parts:Array (Nat×Operand)}{vs:Array (Nat×Value)}(h:Rel N F a)(d:F.nX (parts.toList.map (·.2))=some (vs.toList.map (·.2)))(c:parts.toList.map (·.1)=vs.toList.map (·.1)):(parts.map λp=>(p.1,a.eval p.2))=vs:=by
 have f:=h.nX _ _ d
 apply fj
 simp only[aaP]
 have g:parts.toList.length=vs.toList.length:=by have:=ć List.length c; simpa using this
 generalize parts.toList=ps at *
 generalize vs.toList=e at *
 clear d
 induction ps generalizing e with
 | nil=>cases e <;> simp_all
 | cons p ps i=>
  cases e with
  | nil=>simp at g
  | cons q e=>
   simp only[ė,fv] at c f ⊢
   exact⟨abR c.1 f.1,i e c.2 f.2 (by simpa using g)⟩
def kM{α:Type}(r:Rp α)(G:Mem)(v:Value)(_:Unit)(xs:Ŀ α):Prop:=ë r G v xs
theorem kM.mono{α:Type}{r:Rp α}{G G':Mem}{v:Value}{u:Unit}{xs:Ŀ α}(h:kM r G v u xs)(a:Mem.le G G'):kM r G' v u xs:=ë.mono h a
theorem η.La{Bt:Υ}{α:Type}{r:Rp α}{t e:TypeId}{len:Nat}{parts:Array (Nat×Operand)}(xs:Ŀ α)(J:∀ u,κ ops (ψ Ω u++(Χ++fr)) ⟨some d,.buildSlice t len parts,ty,pos,af,g⟩ true)(m:xs.length=len)(B:len<=small)
  (h:∀ u (G':Gx),Mem.le G G'.m->ô ops ⟨some d,.buildSlice t len parts,ty,pos,af,g⟩ Ω u G'->∃ vs:Array (Nat×Value),∃ cs:Ŀ Value,(ψ Ω u++(Χ++fr)).nX (parts.toList.map (·.2))=some (vs.toList.map (·.2))/\parts.toList.map (·.1)=vs.toList.map (·.1)/\
   (∀ w,(Instr.buildSlice t len vs).run P w = .ok (.slice (some ⟨w.heap.size,0,none⟩) len len) (w.alloc (.cells cs.toArray e)))/\Ã r G'.m cs xs)
  (k:η P N Q fr w0 G0 G L ops Bt fs l Χ ((d,λv g=>∃ p u,v = .slice p len len/\kM r g.m (.slice p len len) u xs)::Ω)):η P N Q fr w0 G0 G L ops Bt (false::fs) (⟨some d,.buildSlice t len parts,ty,pos,af,g⟩::l) Χ Ω:=
 η.q6 d _ rfl (λv _ _ f ⟨p,c,s,y⟩=>⟨p,c,s,y.mono f.1⟩) (λu G' f q=>by
  obtain⟨vs,cs,s,y,H,C⟩:=h u G' f.1 q
  refine .inr ⟨J u,λa w A D=>?_⟩
  have F:(parts.map λ(i,x)=>(i,a.eval x))=vs:=OZ A s y
  have:(execOp a.eval ⟨some d,.buildSlice t len parts,ty,pos,af,g⟩).run P w = .ok (.value (.slice (some ⟨w.heap.size,0,none⟩) len len)) (w.alloc (.cells cs.toArray e)):=by
   simp only[execOp,F]
   simp[H w]
  rw[this]
  have I:=C.len
  have O:St ⟨w,[]⟩ G'.m G'.m [] w:=Hp.st (D.st.hp (Lo.Zs _))
  have R:=O.push 0 (.cells cs.toArray e)
  obtain⟨S,E⟩:=R.q9 (i:=0) (n:=cs.length) rfl rfl (ġ _)
  have T:=(S.weaken (Lo.Zs _)).mE
  refine⟨⟨_,G'.x⟩,⟨E,λ_ _ h=>h⟩,D.ext T,some ⟨w.heap.size,0,none⟩,(),rfl,?_⟩
  refine⟨some ⟨w.heap.size,0,none⟩,len,cs,by rw[m],⟨by omega,by simp only[small] at B; omega⟩,λa A _=>by cases A; rfl,λ_=>rfl,C.mono E,λj u q=>?_⟩
  have K:=(Ć.1 q).1
  show Mem.row G'.m w.heap.size _ 0 _ w.heap.size (0+j)=some u
  rw[ļ,Mem.yc (ġ _) K,ę]
  exact q) k
theorem η.yS{l:Ŀ Oper}{Χ:Fr}{d0 d1 d2 d3:Nat}{post0 post1 post2 post3:Mem->Value->Prop}(k:∀ e f h i G',Mem.le G G'->post0 G' e->post1 G' f->post2 G' h->post3 G' i->WL P N ops (NX Q) l ((d0,e)::(d1,f)::(d2,h)::(d3,i)::(Χ++fr)) (St w0 G0 G' L)):η P N Q fr w0 G0 G L ops (λ_=>True) [] l Χ [(d0,λv g=>post0 g.m v),(d1,λv g=>post1 g.m v),(d2,λv g=>post2 g.m v),(d3,λv g=>post3 g.m v)]:=λu g d c=>jc.of λa w j m=>
 k (u d0) (u d1) (u d2) (u d3) g.m d.1 c.1 c.2.1 c.2.2.1 c.2.2.2.1 a w j m.st
theorem η.yT{l:Ŀ Oper}{Χ:Fr}{d0 d1 d2 d3 d4 d5 d6:Nat}{post0 post1 post2 post3 post4 post5 post6:Mem->Value->Prop}(k:∀ e f h i j m n G',Mem.le G G'->post0 G' e->post1 G' f->post2 G' h->post3 G' i->post4 G' j->post5 G' m->post6 G' n->WL P N ops (NX Q) l ((d0,e)::(d1,f)::(d2,h)::(d3,i)::(d4,j)::(d5,m)::(d6,n)::(Χ++fr)) (St w0 G0 G' L)):η P N Q fr w0 G0 G L ops (λ_=>True) [] l Χ [(d0,λv g=>post0 g.m v),(d1,λv g=>post1 g.m v),(d2,λv g=>post2 g.m v),(d3,λv g=>post3 g.m v),(d4,λv g=>post4 g.m v),(d5,λv g=>post5 g.m v),(d6,λv g=>post6 g.m v)]:=λu g d c=>jc.of λa w p q=>
 k (u d0) (u d1) (u d2) (u d3) (u d4) (u d5) (u d6) g.m d.1 c.1 c.2.1 c.2.2.1 c.2.2.2.1 c.2.2.2.2.1 c.2.2.2.2.2.1 c.2.2.2.2.2.2.1 a w p q.st
end
def AI{α β:Type}(P:Program)(A:Mem->Ŀ Value->α->Prop)(R:Mem->Value->β->Prop)(G:Mem)(v:Value)(m:α->Cq β):Prop:=
 ∃ f cap,v = .func (.func f) #[] cap/\Enters P f/\∀ vs a x,(m a).ο x->ä P f (vs.toArray++cap) (λG'=>Mem.le G G'/\A G' vs a) (λG' u=>R G' u x)
section
variable {α β:Type}{P:Program}{A:Mem->Ŀ Value->α->Prop}{R:Mem->Value->β->Prop}{G G':Mem}{v:Value}{m:α->Cq β}
theorem AI.mono(h:AI P A R G v m)(c:Mem.le G G'):AI P A R G' v m:=by
 obtain⟨f,cap,e,g,i⟩:=h
 exact⟨f,cap,e,g,λvs a x j w d hi hp=>i vs a x j w d hi ⟨Mem.le_trans c hp.1,hp.2⟩⟩
end
section
variable {α β:Type}{P:Program}{N:Nat}{Q:õ}{fr:Fr}{ops:Array Oper}{l:Ŀ Oper}{dst:ŀ Nat}{ty:TypeId}{pos:String}{af:Array Edge}{g:ŀ (Nat×Bool)}{w0:Bs}{G0 G:Mem}{L:Lo}
variable {A:Mem->Ŀ Value->α->Prop}{R:Mem->Value->β->Prop}{v:Value}{m:α->Cq β}
theorem St.kv{key b:Nat}{c:Array Value}{t:TypeId}{w:World}(h:St w0 G0 G L w)(a:L.get key=some ⟨b,.cells c t (0,0),0⟩)(e:w0.L.get key=none):
  ∃ G',Mem.le G G'/\(∀ j u,c[j]? = some u->G' b j=some u)/\(∀ j,G b j=none)/\St w0 G0 G' ((key,some ⟨b,.cells c t (0,0),c.size⟩)::L) w:=by
 obtain⟨g,l⟩:=h.q9 (i:=key) (n:=c.size) a e (ġ _)
 refine⟨_,l,λj u d=>?_,λj=>(h.loc key _ a).2.2 j (ġ _),g⟩
 have f:=(Ĉ.1 d).1
 rw[Mem.yc (ġ _) f]
 exact d
theorem WC.kv{c':Code}{b:Nat}{c:Array Value}{t:TypeId}(key:Nat)(d:L.get key=some ⟨b,.cells c t (0,0),0⟩)(e:w0.L.get key=none)
  (k:∀ G',Mem.le G G'->(∀ j u,c[j]? = some u->G' b j=some u)->(∀ j,G b j=none)->WC P N c' Q fr (St w0 G0 G' ((key,some ⟨b,.cells c t (0,0),c.size⟩)::L))):WC P N c' Q fr (St w0 G0 G L):=λa w l m=>by
 obtain⟨G',f,g,h,i⟩:=m.kv d e
 exact k G' f g h a w l i
theorem At.box{r:Rp α}{b:Nat}{cs:Ŀ Value}{x:α}{c:Array Value}(a:∀ j u,c[j]? = some u->G b j=some u)(e:c=cs.toArray)(h:r.jJ G cs x):At r G b 0 x:=⟨cs,h,λj u d=>by
 subst e
 rw[ļ]
 exact a j u (by rw[ę]; exact d)⟩
end
def xw{α β:Type}(P:Program)(A:Mem->Ŀ Value->α->Prop)(R:Mem->Value->β->Prop)(G:Mem)(v:Value)(_:Unit)(m:α->Cq β):Prop:=AI P A R G v m
theorem xw.mono{α β:Type}{P:Program}{A:Mem->Ŀ Value->α->Prop}{R:Mem->Value->β->Prop}{G G':Mem}{v:Value}{u:Unit}{m:α->Cq β}(h:xw P A R G v u m)(a:Mem.le G G'):xw P A R G' v u m:=AI.mono h a
theorem cells_one{v:Value}(h:v.oneCell'=true):v.cells = #[v]:=by
 cases v <;> first|rfl|(simp[Value.oneCell'] at h)
section
variable {P:Program}{N:Nat}{Q:õ}{fr:Fr}{ops:Array Oper}{l:Ŀ Oper}{dst:ŀ Nat}{ty:TypeId}{pos:String}{af:Array Edge}{g:ŀ (Nat×Bool)}{w0:Bs}{G0 G:Mem}{L:Lo}
theorem WL.yj{t:TypeId}{x:Operand}{v:Value}(i:Nat)(d:v.oneCell'=true)(c:κ ops fr ⟨dst,.box t x,ty,pos,af,g⟩ true)(e:fr.ev x=some v)(a:è N dst)
  (k:∀ b,WL P N ops Q l (ξ dst (.pointer (some ⟨b,0,none⟩)) fr) (St w0 G0 G ((i,some ⟨b,.cells [v].toArray t (0,0),0⟩)::L))):WL P N ops Q (⟨dst,.box t x,ty,pos,af,g⟩::l) fr (St w0 G0 G L):=
 WL.box i c e a λb=>by rw[cells_one d]; exact k b
end
def Ky.str{P:Program}{kt:TypeId}(a:P.underlying kt=some .string):Ky P kt Ĳ where
 enc x:=.string x
 ok x:=x.size<=1000000
 inj h:=by cases h; rfl
 lit h:=⟨_,Go.WideMaps.keyOf_string_mk a (by simp only[maxLen]; omega)⟩
 keyed:=Go.Maps.string_keyed a
section
variable {P:Program}{kt:TypeId}{K V:Type} [DecidableEq K] {ky:Ky P kt K}{N:Nat}{fr:Fr}{dst:ŀ Nat}{ty:TypeId}{pos:String}{af:Array Edge}{g:ŀ (Nat×Bool)}{w0:Bs}{G0 G:Mem}{L:Lo}
theorem Y0.rN{r:Rp V}{mk:V->Value}{t e:TypeId}{m x:Operand}{v:Value}{D:Ŀ (K×V)}{tk:ŀ Ow}{k:K}(key:Nat)(zx:V)(f:∀ {val y},r.jJ G [val] y->val=mk y)(u:P.underlying t=some (.map kt e))(B:∀ w,(zeroValue e).run P w = .ok (mk zx) w)(h:ü ky (qn r G) v D tk)(d:L.get key=tk)
  (p:fr.ev m=some v) (A:fr.ev x=some (ky.enc k)) (n:ky.ok k):Y0 P N ⟨dst,.lookup t m x false,ty,pos,af,g⟩ fr (St w0 G0 G L) (mk ((Å D k).getD zx)):=λa w i s=>by
 obtain⟨val,q,l⟩:=run_get false u B h d n w s
 have:(execOp a.eval ⟨dst,.lookup t m x false,ty,pos,af,g⟩).run P w = .ok (.value val) w:=by
  simp[execOp,i.ev p,i.ev A,q]
 rw[this]
 rcases l with ⟨c,rfl⟩|⟨y,c,j⟩
 .rw[c]; rfl
 rw[c,f j]; rfl
theorem QH{G:Mem}{val:Value}{y:Bool}(h:Rp.bool.jJ G [val] y):val = .bool y:=by
 replace h:[val]=[Value.bool y]:=h
 simpa using h
end
def Gx.nK(g:Gx)(k:ŀ Nat)(d:Nat)(tk:ŀ Ow)(G':Mem):Gx:=
 ⟨G',λb=>if tk.any (λy=>Nat.beq y.b b)=true then tk.map (λy=>(d,y.o)) else match g.x b with|some p=>if k=some p.1 then none else some p|none=>none⟩
def Gx.drop(g:Gx)(tk:ŀ Ow):Gx:=⟨g.m,λb=>if tk.any (λy=>Nat.beq y.b b)=true then none else g.x b⟩
theorem wu{tk:ŀ Ow}{b:Nat}:tk.any (λy=>Nat.beq y.b b)=true↔∃ y,tk=some y/\y.b=b:=by
 cases tk with
 | none=>simp
 | some y=>simp
section
variable {w0:Bs}{G0:Mem}{L:Lo}
theorem jO.vy{g:Gx}{G':Mem}{w w':World}{k:ŀ Nat}{n:Lo}{i0 d:Nat}{tk:ŀ Ow}(h:jO w0 G0 g L w)(e:Ext w g.m n w' G' [(i0,tk)])
  (f:∀ i y,n.get i=some y->∃ j o,k=some j/\g.x y.b=some (j,o)) (S:∀ y,tk=some y->y.m=0):jO w0 G0 (g.nK k d tk G') L w'/\Gx.ra k g (g.nK k d tk G'):=by
 have lt:∀ b p,g.x b=some p->b<w.heap.size:=λb p a=>(Ĉ.1 (h.own b p.1 p.2 a).1).1
 have K:∀ b i o,g.x b=some (i,o)->k≠some i->∀ y,tk=some y->y.b≠b:=by
  intro b i o a A y B u
  subst u
  rcases (e.loc i0 y (by rw[B]; simp[Lo.get])).2.1 with ⟨y0,s,D⟩|s
  .obtain⟨j,o',F,c⟩:=f i0 y0 s
   rw[D,a] at c
   cases c
   exact A F
  have:=lt _ _ a
  omega
 have H:Gx.ra k g (g.nK k d tk G'):=⟨e.le,λb i o a A=>by
  have I:¬ tk.any (λy=>Nat.beq y.b b)=true:=λG=>by obtain⟨y,s,D⟩:=wu.1 G; exact K b i o a A y s D
  simp only[Gx.nK,Ā I,a,Ā A]⟩
 refine⟨⟨?_,λb i o a=>?_⟩,H⟩
 .refine⟨e.os.trans h.st.os,e.tape.trans h.st.tape,e.output.trans h.st.output,ł h.st.drawn e.drawn,ł h.st.size e.size,λb a I=>?_,Mem.le_trans h.st.base e.le,e.ls,λb o v R=>?_,λi x hi=>?_,h.st.gY⟩
  .have:=h.st.size
   rw[e.block b (by omega) (λi y hi B=>?_)]
   .exact h.st.block b a I
   obtain⟨j,o',_,c⟩:=f i y hi
   have:=(h.own _ _ _ c).2.1
   omega
  .rcases e.fresh b o v R with h'|h'|⟨i,y,hi,J,_⟩
   .exact h.st.fresh b o v h'
   .exact .inr (.inl (ł h.st.size h'))
   obtain⟨j,o',_,c⟩:=f i y hi
   exact .inr (.inl (by rw[<- J]; exact (h.own _ _ _ c).2.1))
  obtain⟨C,r,E⟩:=h.st.loc i x hi
  have a:=(Ĉ.1 C).1
  have l:∀ j y,n.get j=some y->y.b≠x.b:=λj y m u=>by
   obtain⟨j',o',_,c⟩:=f j y m
   exact (h.own _ _ _ c).2.2.2 i x hi u.symm
  refine⟨?_,r,λq Q=>?_⟩
  .rw[e.block x.b a l]; exact C
  cases t:G' x.b q with
  | none=>exact t
  | some v=>
   rcases e.fresh x.b q v t with h'|h'|⟨j,y,m,B,_⟩
   .rw[E q Q] at h'; cases h'
   .omega
   exact absurd B (l j y m)
 simp only[Gx.nK] at a
 split at a
 .rename_i G
  obtain⟨y,s,D⟩:=wu.1 G
  rw[s] at a
  simp only[Ĥ,Ď,Ż] at a
  obtain⟨rfl,rfl⟩:=a
  subst D
  obtain⟨C,r,E⟩:=e.loc i0 y (by rw[s]; simp[Lo.get])
  refine⟨C,?_,λq=>E q (by rw[S y s]; omega),λj z m u=>?_⟩
  .rcases r with ⟨y0,N,O⟩|r
   .obtain⟨j,o',_,c⟩:=f i0 y0 N
    rw[<- O]; exact (h.own _ _ _ c).2.1
   exact ł h.st.size r
  rcases r with ⟨y0,N,O⟩|r
  .obtain⟨j',o',_,c⟩:=f i0 y0 N
   exact (h.own _ _ _ c).2.2.2 j z m (by rw[u,O])
  have:=(Ĉ.1 (h.st.loc j z m).1).1
  omega
 cases t:g.x b with
 | none=>rw[t] at a; cases a
 | some p=>
  rw[t] at a
  simp only at a
  split at a
  .cases a
  rename_i A
  simp only[Ď] at a
  subst a
  obtain⟨C,r,E,T⟩:=h.own b i o t
  have a:=lt _ _ t
  have l:∀ j y,n.get j=some y->y.b≠b:=λj y m u=>by
   obtain⟨j',o',F,c⟩:=f j y m
   rw[u,t] at c
   cases c
   exact A F
  refine⟨by rw[e.block b a l]; exact C,r,λq=>?_,T⟩
  cases P:G' b q with
  | none=>exact P
  | some v=>
   rcases e.fresh b q v P with h'|h'|⟨j,y,m,B,_⟩
   .rw[E q] at h'; cases h'
   .omega
   exact absurd B (l j y m)
end
section
variable {α:Type}
def kZ(r:Rp α)(e:TypeId)(d:Nat)(xs:Ŀ α):Value->Gx->Prop:=λv g=>∃ p c tk,v = .slice p xs.length c/\Η r e g.m (.slice p xs.length c) xs tk/\∀ y,tk=some y->g.x y.b=some (d,y.o)
variable {r:Rp α}{e:TypeId}{d:Nat}{xs:Ŀ α}
theorem kZ.mono{v:Value}{g g':Gx}(a:Gx.sB d g g'):kZ r e d xs v g->kZ r e d xs v g':=λ⟨p,c,tk,f,h,i⟩=>⟨p,c,tk,f,h.mono a.1,λy j=>a.2 _ _ (i y j)⟩
theorem kZ.drop{d':Nat}{v:Value}{g:Gx}{tk:ŀ Ow}(h:kZ r e d xs v g)(a:Nat.beq d d'=false)(m:∀ y,tk=some y->g.x y.b=some (d',y.o)):kZ r e d xs v (g.drop tk):=
 h.mono (g':=g.drop tk) ⟨(λ_ _ _ h=>h:Mem.le g.m g.m),λb o c=>by
  have l:¬ tk.any (λy=>Nat.beq y.b b)=true:=λj=>by
   obtain⟨y,f,i⟩:=wu.1 j
   have:=m y f
   rw[i,c] at this
   cases this
   simp at a
  simp only[Gx.drop,Ā l]
  exact c⟩
theorem Laid.drop{d':Nat}{e:Obj}{v:Value}{g:Gx}{tk:ŀ Ow}(h:Laid d e v g)(a:Nat.beq d d'=false)(m:∀ y,tk=some y->g.x y.b=some (d',y.o)):Laid d e v (g.drop tk):=
 Laid.mono _ _ (g.drop tk) ⟨(λ_ _ _ h=>h:Mem.le g.m g.m),λb o c=>by
  have l:¬ tk.any (λy=>Nat.beq y.b b)=true:=λj=>by
   obtain⟨y,f,i⟩:=wu.1 j
   have:=m y f
   rw[i,c] at this
   cases this
   simp at a
  simp only[Gx.drop,Ā l]
  exact c⟩ h
end
section
variable {P:Program}{N:Nat}{Q:õ}{fr:Fr}{w0:Bs}{G0 G:Mem}{L:Lo}{ops:Array Oper}{ty:TypeId}{pos:String}{af:Array Edge}{g:ŀ (Nat×Bool)}{fs:Ŀ Bool}{l:Ŀ Oper}{Χ:Fr}{Ω:mK}{d:Nat}{op:Op}
variable {α:Type}{r:Rp α}{e:TypeId}
theorem jO.nR{g:Gx}{w:World}{tk:ŀ Ow}(h:jO w0 G0 g L w)(s:∀ y,tk=some y->y.m=0)(r:∀ y,tk=some y->g.x y.b=some (d,y.o)):jO w0 G0 (g.drop tk) ((d,tk)::L) w:=by
 cases tk with
 | none=>exact⟨h.st.weaken (Lo.Fl (Lo.tg _)),λb i o a=>by
   have a:g.x b=some (i,o):=by simpa [Gx.drop] using a
   obtain⟨l,n,p,q⟩:=h.own b i o a
   refine⟨l,n,p,λj y c=>?_⟩
   rw[Lo.Zn] at c
   split at c
   .cases c
   exact q j y c⟩
 | some y=>
  obtain⟨b,o,m⟩:=y
  have:=s _ rfl
  simp only at this
  subst this
  have k:=h.ph (r _ rfl)
  refine⟨k.st,λb' i o' a=>?_⟩
  refine k.own b' i o' ?_
  simp only[Gx.drop,Option.any_some] at a
  split at a
  .cases a
  rename_i f
  simp only
  rw[Ā (λe=>f (by rw[e]; simp))]
  exact a
theorem WL.nR{X:Gx}{v:Value}{xs:Ŀ α}(h:kZ r e d xs v X)
  (k:∀ p c tk,v = .slice p xs.length c->Η r e X.m (.slice p xs.length c) xs tk->(∀ y,tk=some y->X.x y.b=some (d,y.o))->WL P N ops Q l fr (jO w0 G0 (X.drop tk) ((d,tk)::L))):WL P N ops Q l fr (jO w0 G0 X L):=λa w j m=>by
 obtain⟨p,c,tk,i,f,g⟩:=h
 exact k p c tk i f g a w j (m.nR (λy n=>f.zero n) g)
theorem η.pW{Bt:Υ}{t:TypeId}{len:Nat}{parts:Array (Nat×Operand)}(xs:Ŀ α)(D:∀ u,κ ops (ψ Ω u++(Χ++fr)) ⟨some d,.buildSlice t len parts,ty,pos,af,g⟩ true)(c:xs.length=len)(E:len<=small)
  (h:∀ u (G':Gx),Mem.le G G'.m->ô ops ⟨some d,.buildSlice t len parts,ty,pos,af,g⟩ Ω u G'->∃ vs:Array (Nat×Value),∃ cs:Ŀ Value,(ψ Ω u++(Χ++fr)).nX (parts.toList.map (·.2))=some (vs.toList.map (·.2))/\parts.toList.map (·.1)=vs.toList.map (·.1)/\
   (∀ w,(Instr.buildSlice t len vs).run P w = .ok (.slice (some ⟨w.heap.size,0,none⟩) len len) (w.alloc (.cells cs.toArray e)))/\Ã r G'.m cs xs)
  (k:η P N Q fr w0 G0 G L ops Bt fs l Χ ((d,kZ r e d xs)::Ω)):η P N Q fr w0 G0 G L ops Bt (false::fs) (⟨some d,.buildSlice t len parts,ty,pos,af,g⟩::l) Χ Ω:=
 η.q6 d (kZ r e d xs) rfl (λv _ _ h=>kZ.mono h) (λu G' m F=>by
  obtain⟨vs,cs,s,A,B,n⟩:=h u G' m.1 F
  refine .inr ⟨D u,λa w C p=>?_⟩
  have q:(parts.map λ(i,x)=>(i,a.eval x))=vs:=OZ C s A
  have:(execOp a.eval ⟨some d,.buildSlice t len parts,ty,pos,af,g⟩).run P w = .ok (.value (.slice (some ⟨w.heap.size,0,none⟩) len len)) (w.alloc (.cells cs.toArray e)):=by
   simp only[execOp,q]
   simp[B w]
  rw[this]
  have j:=n.len
  have H:St ⟨w,[]⟩ G'.m G'.m [] w:=Hp.st (p.st.hp (Lo.Zs _))
  have I:=(H.push 0 (.cells cs.toArray e)).mE
  obtain⟨J,K⟩:=p.vy (d:=d) (k:=none) I (λi y hi=>by simp[Lo.get] at hi) (λy f=>by cases f; rfl)
  refine⟨_,K.le,J,some ⟨w.heap.size,0,none⟩,len,some ⟨w.heap.size,.cells cs.toArray e,0⟩,by rw[c],⟨len,cs,[],by rw[c],by simp,rfl,n,by simp[j,c],by simp only[small,maxLen] at *; omega,by omega⟩,λy f=>?_⟩
  simp only[Gx.nK]
  rw[Ă (wu.2 ⟨y,f,rfl⟩),f]; rfl) k
theorem η.nS{Bt:Υ}{t:TypeId}{z:Value}{s x:Operand}{bytes kk:Nat}{xs:Ŀ α}(ys:Ŀ α)(hg:∀ u,κ ops (ψ Ω u++(Χ++fr)) ⟨some d,.call ⟨.builtin .append,#[s,x],#[t,t]⟩,ty,pos,af,g⟩ true)
  (hk:Ω.any (λp=>Nat.beq p.1 kk)=true) (hl:((⟨some d,.call ⟨.builtin .append,#[s,x],#[t,t]⟩,ty,pos,af,g⟩:Oper).looksAt ops).contains kk=true) (F:oU ops kk=true)
  (ht:P.underlying t=some (.slice e)) (Z:mP P e z r.size bytes) (J:z.cells.size=r.size) (B:bytes<=100000) (E:(xs++ys).length<=small)
  (h:∀ u (G':Gx),Mem.le G G'.m->ô ops ⟨some d,.call ⟨.builtin .append,#[s,x],#[t,t]⟩,ty,pos,af,g⟩ Ω u G'->∃ v K,kZ r e kk xs v G'/\(ψ Ω u++(Χ++fr)).ev s=some v/\(ψ Ω u++(Χ++fr)).ev x=some K/\ë r G'.m K ys)
  (k:η P N Q fr w0 G0 G L ops Bt fs l Χ ((d,kZ r e d (xs++ys))::mS (some kk) Ω)):η P N Q fr w0 G0 G L ops Bt (false::fs) (⟨some d,.call ⟨.builtin .append,#[s,x],#[t,t]⟩,ty,pos,af,g⟩::l) Χ Ω:=
 η.B7 d kk (kZ r e d (xs++ys)) rfl hk hl F (λv _ _ h=>kZ.mono h) (λu G' C hu=>by
  obtain⟨v,K,⟨p,c,tk,f,m,O⟩,X,Y,R⟩:=h u G' C.1 hu
  refine .inr ⟨hg u,λa w S D=>?_⟩
  obtain⟨p',c',H⟩:=R.form
  have s1:St ⟨w,[(kk,tk)]⟩ G'.m G'.m [(kk,tk)] w:=Hp.st ⟨D.st.ls,λi y hi=>by
   rw[Lo.Zn] at hi
   split at hi
   .obtain⟨q1,q2,q3,q4⟩:=D.own _ _ _ (O y hi)
    exact⟨q1,λk _=>q3 k⟩
   .simp[Lo.get] at hi,λi j y y' aa f m=>by
   rw[Lo.Zn] at f m
   split at f
   .split at m
    .omega
    simp[Lo.get] at m
   simp[Lo.get] at f⟩
  subst f H
  obtain⟨v2,n,w',U,A,V⟩:=Nt (id:=kk) ty ht Z J B m (by simp[Lo.Zn]) R E w s1
  have:(execOp a.eval ⟨some d,.call ⟨.builtin .append,#[s,x],#[t,t]⟩,ty,pos,af,g⟩).run P w = .ok (.value v2) w':=by
   simp[execOp,resolve,S.ev X,S.ev Y,invoke,builtin,U,gf]
  rw[this]
  have W:=(V.weaken (L':=[(kk,n)]) (Lo.Ze (by simp[Lo.Zn]) (Lo.Zs _))).mE
  obtain⟨s3,s4⟩:=D.vy (d:=d) (k:=some kk) W (λi y hi=>by
   rw[Lo.Zn] at hi
   split at hi
   .exact⟨kk,y.o,rfl,O y hi⟩
   simp[Lo.get] at hi) (λy q=>A.zero q)
  obtain⟨p2,T,I⟩:=A.form
  subst I
  exact⟨_,s4,s3,p2,T,n,rfl,A,λy q=>by simp only[Gx.nK]; rw[Ă (wu.2 ⟨y,q,rfl⟩),q]; rfl⟩) k
theorem WL.tj{X:Gx}{v:Value}{c:Obj}(h:Laid d c v X)
  (k:∀ b,v = .pointer (some ⟨b,0,none⟩)->(∀ y,some (⟨b,c,0⟩:Ow)=some y->X.x y.b=some (d,y.o))->WL P N ops Q l fr (jO w0 G0 (X.drop (some ⟨b,c,0⟩)) ((d,some ⟨b,c,0⟩)::L))):WL P N ops Q l fr (jO w0 G0 X L):=λa w j m=>by
 obtain⟨b,g,i⟩:=h
 have f:∀ y,some (⟨b,c,0⟩:Ow)=some y->X.x y.b=some (d,y.o):=λy e=>by cases e; exact i
 exact k b g f a w j (m.nR (λy e=>by cases e; rfl) f)
theorem η.yU{d0:Nat}{a:Value->Gx->Prop}(k:∀ d (G':Gx),Mem.le G G'.m->a d G'->WL P N ops (NX Q) l ((d0,d)::(Χ++fr)) (jO w0 G0 G' L)):η P N Q fr w0 G0 G L ops (λ_=>True) [] l Χ [(d0,a)]:=λu g c e=>jc.of (k (u d0) g c.1 e.1)
end
def FR(c:Ŀ Value)(o:Nat)(a:Ŀ Value):Ŀ Value:=c.take o++a++c.drop (o+a.length)
section
variable {P:Program}{w0:Bs}{G0 G:Mem}{L:Lo}
theorem St.setRow{w:World}{key b:Nat}{c:Array Value}{e:TypeId}(g:St w0 G0 G L w)(d:L.get key=some ⟨b,.cells c e (0,0),0⟩)(c':Array Value):St w0 G0 G ((key,some ⟨b,.cells c' e (0,0),0⟩)::L) (w.setRow b c'):=by
 have a:=(g.loc key _ d).1
 dsimp only at a
 exact g.sJ d (by simp[World.setRow,ħ,a]) (č _) (λk _ f _=>absurd f (ō k)) (λk f=>by
  simp only[World.setRow,ħ]
  rw[Ā (λe=>f e.symm)]) rfl rfl rfl rfl (by simp[World.setRow])
theorem YT{z:Array Value}(a:0<z.size)(n:Nat):(Builtin.zeroCells z n).toList=(List.replicate n z.toList).flatten:=Ja a n
theorem VK(w:World)(t e ty:TypeId)(z:Value)(s:P.underlying t=some (.slice e))(B:∀ w,(zeroValue e).run P w = .ok z w)(y:∀ v ∈ z.cells.toList,v.oneCell'=true)(u:0<z.cells.size)(g o n c:Nat)(a:Array Value)(tt:TypeId)
  (r:w.heap[g]? = some (.cells a tt (0,0))) (d:o+n*z.cells.size<=a.size) :
  ∃ l:Ŀ Value,l=(List.replicate n z.cells.toList).flatten/\(Builtin.clear_ #[t] ty #[.slice (some ⟨g,o,none⟩) n c]).run P w = .ok (.tuple #[]) (w.setRow g (a.toList.take o++l++a.toList.drop (o+l.length)).toArray):=by
 refine⟨_,rfl,?_⟩
 cases n with
 | zero=>
  simp only[List.replicate_zero,List.flatten_nil,ğ,ř,ŷ,Ő,Array.toArray_toList]
  rw[setRow_self w g a tt (0,0) r]
  simp[Builtin.clear_,đ s]
 | succ m=>
  have C:=YT u (m+1)
  have h:∀ v ∈ (List.replicate (m+1) z.cells.toList).flatten,v.oneCell'=true:=by
   intro v p
   obtain⟨q,A,j⟩:=List.mem_flatten.1 p
   rw[List.eq_of_mem_replicate A] at j
   exact y v j
  have f:(List.replicate (m+1) z.cells.toList).flatten.length=(m+1)*z.cells.size:=by simp
  have i:=abi P g o tt (List.replicate (m+1) z.cells.toList).flatten 0 a w r (by rw[f]; simpa using d) h
  simp only[ŷ] at i
  simp only[Builtin.clear_]
  simp[đ s,B,C,i]
end
section
variable {P:Program}{N:Nat}{Q:õ}{fr:Fr}{S:Υ}{ops:Array Oper}{l:Ŀ Oper}{dst:ŀ Nat}{ty:TypeId}{pos:String}{af:Array Edge}{g:ŀ (Nat×Bool)}{w0:Bs}{G0 G:Mem}{L:Lo}
theorem zA(b o n:Nat):(⟨b,o,none⟩:Addr).add n=⟨b,o+n,none⟩:=rD b o n
theorem Y0.FQ{t e:TypeId}{x:Operand}{lo hi mx:ŀ Operand}{b o n cap sz:Nat}{l h m:Nat}(p:P.underlying t=some (.slice e))(d:(P.info? e).map (·.size)=some sz)(q:fr.ev x=some (.slice (some ⟨b,o,none⟩) n cap))
  (C:match mx with|none=>m=cap|some y=>∃ k,fr.ev y=some (.int k (m:Int))) (v:match hi with|none=>h=n/\mx=none|some y=>∃ k,fr.ev y=some (.int k (h:Int))) (j:match lo with|none=>l=0|some y=>∃ k,fr.ev y=some (.int k (l:Int)))
  (A:l<=h) (u:h<=m) (B:m<=cap):Y0 P N ⟨dst,.slice t x lo hi mx,ty,pos,af,g⟩ fr S (.slice (some ⟨b,if m=l then o else o+l*sz,none⟩) (h-l) (m-l)):=λa w c _=>by
 have f:(if m=l then some (⟨b,o,none⟩:Addr) else some (⟨b,o+l*sz,none⟩:Addr))=some ⟨b,if m=l then o else o+l*sz,none⟩:=by split <;> rfl
 have F:(l:Int)<=(h:Int):=by omega
 have G:(h:Int)<=(m:Int):=by omega
 have H:(m:Int)<=(cap:Int):=by omega
 have I:(h:Int)<=(cap:Int):=by omega
 cases mx with
 | none=>
  subst C
  cases hi with
  | none=>
   obtain⟨rfl,_⟩:=v
   cases lo with
   | none=>
    subst j
    simp[execOp,c.ev q,Instr.sliceAt,đ p,Instr.slice,Instr.sliceBounds,run_sizeOf d,zA]
   | some y=>
    obtain⟨k,r⟩:=j
    simp only[execOp,c.ev q,Ŕ,Ĥ,c.ev r]
    simp[Instr.sliceAt,đ p,Instr.slice,Instr.sliceBounds,Instr.sliceBound,asIntOf,run_sizeOf d,zA,A,<- f]
  | some E=>
   obtain⟨D,i⟩:=v
   cases lo with
   | none=>
    subst j
    simp only[execOp,c.ev q,Ŕ,Ĥ,c.ev i]
    simp[Instr.sliceAt,đ p,Instr.slice,Instr.sliceBounds,Instr.sliceBound,asIntOf,run_sizeOf d,zA,u]
   | some y=>
    obtain⟨k,r⟩:=j
    simp only[execOp,c.ev q,Ŕ,Ĥ,c.ev r,c.ev i]
    simp[Instr.sliceAt,đ p,Instr.slice,Instr.sliceBounds,Instr.sliceBound,asIntOf,run_sizeOf d,zA,A,u,<- f]
 | some K=>
  obtain⟨J,s⟩:=C
  cases hi with
  | none=>exact absurd v.2 (by simp)
  | some E=>
   obtain⟨D,i⟩:=v
   cases lo with
   | none=>
    subst j
    simp only[execOp,c.ev q,Ŕ,Ĥ,c.ev i,c.ev s]
    simp[Instr.sliceAt,đ p,Instr.slice,Instr.sliceBounds,Instr.sliceBound,asIntOf,run_sizeOf d,zA,u,B]
   | some y=>
    obtain⟨k,r⟩:=j
    simp only[execOp,c.ev q,Ŕ,Ĥ,c.ev r,c.ev i,c.ev s]
    simp[Instr.sliceAt,đ p,Instr.slice,Instr.sliceBounds,Instr.sliceBound,asIntOf,run_sizeOf d,zA,A,u,B,<- f]
theorem Y0.Lz{t e:TypeId}{x y:Operand}{b n cap sz l:Nat}{k:IntKind}(h:P.underlying t=some (.slice e))(a:(P.info? e).map (·.size)=some sz)(i:fr.ev x=some (.slice (some ⟨b,0,none⟩) n cap))(j:fr.ev y=some (.int k (l:Int)))(c:l<=n)(d:n<=cap)(f:¬ cap=l):
  Y0 P N ⟨dst,.slice t x (some y) none none,ty,pos,af,g⟩ fr S (.slice (some ⟨b,l*sz,none⟩) (n-l) (cap-l)):=by
 have:=Y0.FQ (P:=P) (N:=N) (S:=S) (dst:=dst) (ty:=ty) (pos:=pos) (af:=af) (g:=g) (lo:=some y) (hi:=none) (mx:=none) h a i rfl ⟨rfl,rfl⟩ ⟨k,j⟩ c d (č _)
 rwa [Ā f,ļ] at this
theorem Y0.B6{x:Operand}{t e:TypeId}{p:ŀ Addr}{n c:Nat}(f:P.underlying t=some (.slice e))(h:fr.ev x=some (.slice p n c)):Y0 P N ⟨dst,.call ⟨.builtin .cap,#[x],#[t]⟩,ty,pos,af,g⟩ fr S (.int .i64 (c:Int)):=λa w d _=>by
 simp[execOp,resolve,invoke,builtin,d.ev h,Builtin.cap_,đ f,goInt]
theorem Y0.mU{x:Operand}{t e:TypeId}{p:ŀ Addr}{n c:Nat}(f:P.underlying t=some (.slice e))(h:fr.ev x=some (.slice p n c)):Y0 P N ⟨dst,.call ⟨.builtin .len,#[x],#[t]⟩,ty,pos,af,g⟩ fr S (.int .i64 (n:Int)):=λa w d _=>by
 simp[execOp,resolve,invoke,builtin,d.ev h,Builtin.len_,đ f,goInt]
theorem T0(w:World)(t u ty e:TypeId)(i:TypeInfo)(z:Value)(F:IntKind)(C:P.underlying t=some (.slice e))(s:P.underlying u=some (.int F))(hi:P.info? e=some i)(E:i.zero=some z)(B:0<i.size)(base:ŀ Addr)(n cap m:Nat)(a:Ŀ Value)
  (j:(Builtin.firstCells i.size n (.slice base n cap)).run P w.drew = .ok a.toArray w.drew) (G:0<m) (v:cap<n+m) (A:n+m<=1000000000) (g:i.bytes<=100000) :
  (Builtin.append_ #[t,u] ty #[.slice base n cap,.int .i64 (m:Int)]).run P w =
   .ok (.slice (some ⟨w.heap.size,0,none⟩) (n+m) (grownCap w (n+m) cap e)) (w.drew.alloc (.cells (a.toArray++Builtin.zeroCells z.cells m++Builtin.zeroCells z.cells (grownCap w (n+m) cap e-(n+m))) e)):=by
 have D:i64.wrap (m:Int)=m:=by rw[Į]; omega
 have h:¬ ((m:Int)<0):=by omega
 have r:¬ (m*i.size=0):=Nat.mul_ne_zero (by omega) (by omega)
 have y:m*i.bytes<=100000000000000:=by
  have:m*i.bytes<=1000000000*100000:=aa6 (by omega) g
  omega
 have d:¬ (281474976710656<(m:Int)*(i.bytes:Int)):=by rw[<- abz]; omega
 have l:¬ (n+m<=cap):=by omega
 have f:¬ (9223372036854775807<((n:Int)+(m:Int))):=by omega
 have q:(n+m)*i.bytes<=140737488355328:=by
  have:(n+m)*i.bytes<=1000000000*100000:=aa6 A g
  omega
 have c:¬ (281474976710656<Builtin.nextslicecap (n+m) cap*i.bytes):=by have:=growslice_fits v q; omega
 have p:m≠0:=by omega
 simp[Builtin.append_,đ C,đ s,sizeOf,typeInfo,zeroValue,hi,E,asInt,asIntOf,D,p,h,r,d,l,f,c,Question.forced,j,newRow,grownCap]
theorem Y0.Ly{t e:TypeId}{x y:Operand}{p:ŀ Addr}{n cap sz:Nat}{l:Nat}{k:IntKind}(h:P.underlying t=some (.slice e))(c:(P.info? e).map (·.size)=some sz)(i:fr.ev x=some (.slice p n cap))(j:fr.ev y=some (.int k (l:Int)))(f:l<=n):
  Y0 P N ⟨dst,.slice t x (some y) none none,ty,pos,af,g⟩ fr S (.slice (if cap=l then p else p.map (·.add (l*sz))) (n-l) (cap-l)):=λa w d _=>by
 have m:(l:Int)<=(n:Int):=by omega
 simp only[execOp,d.ev i,Ŕ,Ĥ,d.ev j]
 simp[Instr.sliceAt,đ h,Instr.slice,Instr.sliceBounds,Instr.sliceBound,asIntOf,run_sizeOf c,f]
end
def Cq.pick{α β:Type}(R:Ŀ α)(c:Cq β)(k:α->Ŀ α->Cq β):Cq β:=
 ⟨λp=>(R=[]->c.wp p)/\∀ d a f,R=d++a::f->(k a (d++f)).wp p,λh ⟨g,i⟩=>⟨λe=>c.mono h (g e),λd a f e=>(k a _).mono h (i d a f e)⟩,λn=>if R.isEmpty then c.ev n else none,λn b h p hp=>by
  cases R with
  | nil=>exact⟨λ_=>c.sound n b h p hp,λd a f e=>by cases d <;> cases e⟩
  | cons x R=>simp at h⟩
section
variable {P:Program}{N:Nat}{Q:õ}{fr:Fr}{S:Υ}{ops:Array Oper}{l:Ŀ Oper}{dst:ŀ Nat}{ty:TypeId}{pos:String}{af:Array Edge}{g:ŀ (Nat×Bool)}{w0:Bs}{G0 G:Mem}{L:Lo}
variable {α:Type}{r:Rp α}{e:TypeId}
theorem WL.vO{t e':TypeId}{x y:Operand}{k:IntKind}{hi:Int}{p:ŀ Addr}{n c sz:Nat}{xs:Ŀ α}{tk:ŀ Ow}(F:κ ops fr ⟨dst,.slice t x none (some y) none,ty,pos,af,g⟩ true)(E:è N dst)(J:P.underlying t=some (.slice e'))(s:(P.info? e').map (·.size)=some sz)(W:sz=r.size)(h:Η r e G (.slice p n c) xs tk)
  (K:fr.ev x=some (.slice p n c)) (L:fr.ev y=some (.int k hi)) (Y:0<=(0:Int)/\(0:Int)<=hi/\hi<=(xs.length:Int))
  (kk:Η r e G (.slice p hi.toNat c) (xs.take hi.toNat) tk->WL P N ops Q l (ξ dst (.slice p hi.toNat c) fr) S):WL P N ops Q (⟨dst,.slice t x none (some y) none,ty,pos,af,g⟩::l) fr S:=by
 obtain⟨m,rfl⟩:∃ m:Nat,hi=m:=⟨hi.toNat,by omega⟩
 have H:m<=xs.length:=by omega
 rw[ģ] at kk
 cases tk with
 | none=>
  obtain⟨rfl,q,B,U⟩:=h
  cases B
  have:m=0:=by simpa using H
  subst this
  refine WL.mZ F (v:=.slice p 0 0) (λa w D _=>?_) E (kk ⟨rfl,p,rfl,U⟩)
  simp only[execOp,D.ev K,Ŕ,Ĥ,D.ev L]
  simp[Instr.sliceAt,đ J,Instr.slice,Instr.sliceBounds,Instr.sliceBound,asIntOf,run_sizeOf s]
 | some y0=>
  obtain⟨X,cs,rest,B,I,i,j,f,u,T⟩:=h
  cases B
  obtain⟨b,Z,mk⟩:=y0
  dsimp only at I i
  subst I i
  obtain⟨O,R,d,A,V⟩:=Ã.split (l:=xs.take m) (m:=xs.drop m) (by rw[Ő]; exact j)
  subst d
  have C:=Y0.FQ (P:=P) (N:=N) (S:=S) (dst:=dst) (ty:=ty) (pos:=pos) (af:=af) (g:=g) (lo:=none) (hi:=some y) (mx:=none) (l:=0) (h:=m) (m:=c) J s K rfl ⟨_,L⟩ rfl (ġ _) (by omega) (č _)
  simp only[fT,ŷ,ite_self,fP] at C
  refine WL.mZ F C E (kk ⟨c,O,R++rest,by rw[Đ,aae H],by rw[ď],rfl,A,by rw[<- ď]; exact f,u,by rw[Đ]; omega⟩)
theorem WL.sq{t:TypeId}{x y:Operand}{k:IntKind}{lo:Int}{p:ŀ Addr}{n c d sz bytes:Nat}{xs:Ŀ α}{tk:ŀ Ow}{z:Value}{zx:α}{y1 y2:TypeId}{p1 p2:String}{a1 a2:Array Edge}(key:Nat)(hd:è N (some d))(Z:P.underlying t=some (.slice e))(hE:mP P e z sz bytes)(W:z.cells.size=sz)(g:sz=r.size)(aa:∀ v ∈ z.cells.toList,v.oneCell'=true)(h0:0<sz)
  (ae:r.jJ G z.cells.toList zx) (h:Η r e G (.slice p n c) xs tk) (J:L.get key=tk) (hx:fr.ev x=some (.slice p n c)) (hy:fr.ev y=some (.int k lo)) (hb:0<=lo/\lo<=(xs.length:Int)/\(xs.length:Int)<=(xs.length:Int))
  (kk:∀ v X,Η r e G (.slice p n c) (xs.take lo.toNat++List.replicate (xs.length-lo.toNat) zx) X->WL P N ops Q l ((d,v)::fr) (St w0 G0 G ((key,X)::L))) :
  WL P N ops Q (⟨some d,.slice t x (some y) none none,y1,p1,a1,none⟩::⟨none,.call ⟨.builtin .clear,#[.tmp d],#[t]⟩,y2,p2,a2,none⟩::l) fr (St w0 G0 G L):=by
 obtain⟨m,rfl⟩:∃ m:Nat,lo=m:=⟨lo.toNat,by omega⟩
 have hm:m<=xs.length:=by omega
 rw[ģ] at kk
 have H:∀ (v:Value),Fr.ev ((d,v)::fr) (.tmp d)=some v:=λv=>by simp[Fr.ev,Fr.get]
 obtain⟨i,A,O,K,_⟩:=hE.parts
 have V:(P.info? e).map (·.size)=some sz:=by rw[A]; simp[K]
 cases tk with
 | none=>
  obtain⟨rfl,q,C,hq⟩:=h
  cases C
  have:m=0:=by simpa using hm
  subst this
  refine WL.mZ Zf (Y0.Ly Z V hx hy (by simp)) hd ?_
  refine WL.mZ Zf (v:=.tuple #[]) (λa w u _=>?_) trivial ?_
  .simp only[execOp,resolve,invoke,builtin]
   have C:=u.ev (H _)
   simp only[abn,ė,ĵ]
   cases p <;> simp[Act.eval] at C ⊢ <;> simp[C,Builtin.clear_,đ Z]
  have:=kk (.slice (if 0=0 then p else p.map (·.add (0*sz))) (0-0) (0-0)) none ⟨by simp,p,rfl,hq⟩
  exact λa w u Y=>this a w u (Y.weaken (Lo.Fl (Lo.tg _)))
 | some y0=>
  obtain⟨c1,cs,rest,C,ho,S,U,j,ac,ah⟩:=h
  cases C
  obtain⟨b,ob,mk⟩:=y0
  dsimp only at ho S
  subst ho S
  obtain⟨f,s,E,T,ad⟩:=Ã.split (l:=xs.take m) (m:=xs.drop m) (by rw[Ő]; exact U)
  subst E
  have R:=T.len
  have B:=ad.len
  rw[Đ,aae hm,<- g] at R
  rw[Ž,<- g] at B
  rw[<- g] at j
  simp only[ā] at j
  refine WL.mZ Zf (Y0.FQ (l:=m) (h:=xs.length) (m:=c) (b:=b) (o:=0) Z V hx rfl ⟨rfl,rfl⟩ ⟨_,hy⟩ hm (by omega) (č _)) hd ?_
  have hz:(P.info? e).map (·.zero)=some (some z):=by rw[A]; simp[O]
  have I:(if c=m then 0 else 0+m*sz)+(xs.length-m)*z.cells.size<=(f++s++rest).length:=by
   simp only[ā]
   rw[W]
   split
   .rename_i e0; subst e0; rw[show xs.length-c=0 by omega]; omega
   omega
  refine WL.yr (Φ:=λv w=>v = .tuple #[]/\St w0 G0 G ((key,some ⟨b,.cells (FR (f++s++rest) (if c=m then 0 else 0+m*sz) (List.replicate (xs.length-m) z.cells.toList).flatten).toArray e (0,0),0⟩)::L) w) Zf (λa w u Y=>?_) trivial (λv a w u ⟨_,h2⟩=>?_)
  .have D:=(Y.loc key _ J).1
   have ag:∀ w,(zeroValue e).run P w = .ok z w:=λw=>by simp[zeroValue,typeInfo,A,O]
   obtain⟨ds,hl,hr⟩:=VK (P:=P) w t e y2 z Z ag aa (by omega) b (if c=m then 0 else 0+m*sz) (xs.length-m) (c-m) (f++s++rest).toArray e D (by simpa using I)
   subst hl
   have:(execOp a.eval ⟨none,.call ⟨.builtin .clear,#[.tmp d],#[t]⟩,y2,p2,a2,none⟩).run P w = .ok (.value (.tuple #[])) (w.setRow b ((f++s++rest).toArray.toList.take (if c=m then 0 else 0+m*sz)++(List.replicate (xs.length-m) z.cells.toList).flatten++(f++s++rest).toArray.toList.drop ((if c=m then 0 else 0+m*sz)+(List.replicate (xs.length-m) z.cells.toList).flatten.length)).toArray):=by
    simp only[execOp,resolve,invoke,builtin]
    simp only[abn,ė,ĵ,u.ev (H _),aaD,hr,gf,Sem.run_pure]
   rw[this]
   exact⟨rfl,Y.setRow J _⟩
  have F:(List.replicate (xs.length-m) z.cells.toList).flatten.length=(xs.length-m)*sz:=by simp[W]
  have e4:FR (f++s++rest) (if c=m then 0 else 0+m*sz) (List.replicate (xs.length-m) z.cells.toList).flatten=f++(List.replicate (xs.length-m) z.cells.toList).flatten++rest:=by
   by_cases e0:c=m
   .have:xs.length-m=0:=by omega
    have ab:s=[]:=ő (by rw[B,this]; simp)
    rw[this,ab]
    simp[FR]
   rw[Ā e0,ļ,<- R,ď]
   simp only[FR,abI]
   rw[F,<- List.drop_drop,abJ,<- B,abJ]
  rw[e4] at h2
  refine kk _ (some ⟨b,.cells (f++(List.replicate (xs.length-m) z.cells.toList).flatten++rest).toArray e (0,0),0⟩) ⟨c,f++(List.replicate (xs.length-m) z.cells.toList).flatten,rest,?_,rfl,rfl,T.append (Ã.replicate ae _),?_,ac,?_⟩ a w u h2
  .congr 1; simp only[ā,Đ,aag]; omega
  .rw[<- g]; simp only[ā]; rw[F]; omega
  simp only[ā,Đ,aag]; omega
theorem WL.wR{t:TypeId}{z:Value}{x y:Operand}{bytes:Nat}{k k':IntKind}{n:Int}(key:Nat)(D:κ ops fr ⟨dst,.makeSlice t x y,ty,pos,af,g⟩ true)(C:è N dst)(H:P.underlying t=some (.slice e))(u:mP P e z r.size bytes)(O:z.cells.size=r.size)(B:bytes<=100000)
  (I:fr.ev x=some (.int k 0)) (J:fr.ev y=some (.int k' n)) (j:0<=n/\n<=1000000)
  (kk:∀ p c tk,Η r e G (.slice p 0 c) ([]:Ŀ α) tk->WL P N ops Q l (ξ dst (.slice p 0 c) fr) (St w0 G0 G ((key,tk)::L))):WL P N ops Q (⟨dst,.makeSlice t x y,ty,pos,af,g⟩::l) fr (St w0 G0 G L):=by
 obtain⟨i,hi,K,m,A⟩:=u.parts
 refine WL.yr (Φ:=λv w=>∃ p c tk,v = .slice p 0 c/\Η r e G (.slice p 0 c) ([]:Ŀ α) tk/\St w0 G0 G ((key,tk)::L) w) D (λa w d F=>?_) C (λv a w d ⟨p,c,tk,f,q,s⟩=>by subst f; exact kk p c tk q a w d s)
 have h:(i.bytes:Int)*n<=281474976710656:=by
  have f:(i.bytes:Int)<=100000:=by omega
  have:(i.bytes:Int)*n<=100000*1000000:=Int.mul_le_mul f j.2 j.1 (by omega)
  omega
 have E:=run_make w t e i z H hi K k k' 0 n (ň _) j.1 h (by omega)
 have:(execOp a.eval ⟨dst,.makeSlice t x y,ty,pos,af,g⟩).run P w = .ok (.value (.slice (some ⟨w.heap.size,0,none⟩) 0 n.toNat)) (w.alloc (.cells (madeCells z.cells (n.toNat*i.size)) e)):=by
  simp[execOp,d.ev I,d.ev J,E]
 rw[this]
 refine⟨_,_,some ⟨w.heap.size,.cells (madeCells z.cells (n.toNat*i.size)) e (0,0),0⟩,rfl,?_,F.push key _⟩
 refine⟨n.toNat,[],(madeCells z.cells (n.toNat*i.size)).toList,rfl,by simp,rfl,rfl,by simp[madeCells,m],by simp only[maxLen]; omega,by simp⟩
theorem St.rj{w:World}{key b:Nat}{i:Obj}(h:St w0 G0 G L w)(c:L.get key=some ⟨b,i,0⟩)(d:Obj):St w0 G0 G ((key,some ⟨b,d,0⟩)::L) (ChangeMaps.setBlock w b d):=by
 have a:=(h.loc key _ c).1
 dsimp only at a
 have g:=(Ĉ.1 a).1
 refine h.sJ c ?_ (č _) (λk _ f _=>absurd f (ō k)) (λk f=>?_) rfl rfl rfl rfl (by simp[ChangeMaps.setBlock])
 .simp only[ChangeMaps.setBlock]
  rw[ŗ g]
 simp only[ChangeMaps.setBlock]
 rw[Ŋ (λe=>f e.symm)]
theorem WL.yH{t:TypeId}{x:Operand}{s:Ĳ}(key:Nat)(h:κ ops fr ⟨dst,.range t x,ty,pos,af,g⟩ true)(f:è N dst)(j:P.underlying t=some .string)(m:fr.ev x=some (.string s))
  (k:∀ b,WL P N ops Q l (ξ dst (.pointer (some ⟨b,0,none⟩)) fr) (St w0 G0 G ((key,some ⟨b,.stringIter s 0,0⟩)::L))):WL P N ops Q (⟨dst,.range t x,ty,pos,af,g⟩::l) fr (St w0 G0 G L):=by
 refine WL.yr (Φ:=λv w=>∃ b,v = .pointer (some ⟨b,0,none⟩)/\St w0 G0 G ((key,some ⟨b,.stringIter s 0,0⟩)::L) w) h (λa w c i=>?_) f (λv a w c ⟨b,d,e⟩=>by subst d; exact k b a w c e)
 have:(execOp a.eval ⟨dst,.range t x,ty,pos,af,g⟩).run P w = .ok (.value (.pointer (some ⟨w.heap.size,0,none⟩))) (w.alloc (.stringIter s 0)):=by
  simp[execOp,c.ev m,Instr.range,đ j,newObj,Sem.run,Result.andThen]
 rw[this]
 exact⟨_,rfl,i.push key _⟩
theorem WL.CO{h:Operand}{b:Nat}{s:Ĳ}{i:Nat}(key:Nat)(q:κ ops fr ⟨dst,.next h true,ty,pos,af,g⟩ true)(p:è N dst)(e:L.get key=some ⟨b,.stringIter s i,0⟩)(r:fr.ev h=some (.pointer (some ⟨b,0,none⟩)))
  (u:i<s.size->WL P N ops Q l (ξ dst (.tuple #[.bool true,.int .i64 (i:Int),.int .i32 ((Utf8.decode s i).1:Int)]) fr) (St w0 G0 G ((key,some ⟨b,.stringIter s (i+(Utf8.decode s i).2),0⟩)::L)))
  (y:¬ i<s.size->WL P N ops Q l (ξ dst (.tuple #[.bool false]) fr) (St w0 G0 G L)):WL P N ops Q (⟨dst,.next h true,ty,pos,af,g⟩::l) fr (St w0 G0 G L):=by
 by_cases j:i<s.size
 .refine WL.yr (Φ:=λv w=>v = .tuple #[.bool true,.int .i64 (i:Int),.int .i32 ((Utf8.decode s i).1:Int)]/\St w0 G0 G ((key,some ⟨b,.stringIter s (i+(Utf8.decode s i).2),0⟩)::L) w) q (λa w d f=>?_) p (λv a w d ⟨m,n⟩=>by subst m; exact u j a w d n)
  have c:=(f.loc key _ e).1
  dsimp only at c
  have t:=(Ĉ.1 c).1
  have:(execOp a.eval ⟨dst,.next h true,ty,pos,af,g⟩).run P w = .ok (.value (.tuple #[.bool true,.int .i64 (i:Int),.int .i32 ((Utf8.decode s i).1:Int)])) (ChangeMaps.setBlock w b (.stringIter s (i+(Utf8.decode s i).2))):=by
   simp[execOp,d.ev r,Instr.next,getObj,Sem.run,c,j,setObj,Result.andThen,goInt,ChangeMaps.setBlock]
  rw[this]
  exact⟨rfl,f.rj e _⟩
 refine WL.yr (Φ:=λv w=>v = .tuple #[.bool false]/\St w0 G0 G L w) q (λa w d f=>?_) p (λv a w d ⟨m,n⟩=>by subst m; exact y j a w d n)
 have c:=(f.loc key _ e).1
 dsimp only at c
 have:(execOp a.eval ⟨dst,.next h true,ty,pos,af,g⟩).run P w = .ok (.value (.tuple #[.bool false])) w:=by
  simp[execOp,d.ev r,Instr.next,getObj,Sem.run,c,j,Result.andThen]
 rw[this]
 exact⟨rfl,f⟩
end
section
variable {P:Program}{kt:TypeId}{K V:Type}{ky:Ky P kt K}{Rv Rv':K->Value->V->Prop}
variable {N:Nat}{Q:õ}{fr:Fr}{S:Υ}{ops:Array Oper}{l:Ŀ Oper}{dst:ŀ Nat}{ty:TypeId}{pos:String}{af:Array Edge}{g:ŀ (Nat×Bool)}{w0:Bs}{G0 G:Mem}{L:Lo}
def je(ky:Ky P kt K)(Rv:K->Value->V->Prop)(c:ŀ Ow)(v:Value)(R:Ŀ (K×V))(last:ŀ (K×V))(tk:ŀ Ow):Prop:=
 ∃ b es clock r seen c0,c=some ⟨b,.map es clock,0⟩/\v = .pointer (some ⟨r,0,none⟩)/\tk=some ⟨r,.mapIter (some b) clock seen c0,0⟩/\clock<=c0/\Stamped es clock/\ib ky.enc Rv (leftOf es seen).toList R/\(∀ p ∈ R,ky.ok p.1)/\
  ∀ q,last=some q->ky.ok q.1/\∃ a ∈ es.toList,a.key=ky.enc q.1/\Rv q.1 a.val q.2/\c0=clock/\∃ s:Array Nat,seen=s.push a.born
theorem je.imp{a tk:ŀ Ow}{v:Value}{R:Ŀ (K×V)}{last:ŀ (K×V)}(h:je ky Rv a v R last tk)(hi:∀ k u x,Rv k u x->Rv' k u x):je ky Rv' a v R last tk:=by
 obtain⟨b,es,clock,r,seen,c0,d,e,f,g,i,j,l,m⟩:=h
 exact⟨b,es,clock,r,seen,c0,d,e,f,g,i,j.imp (λp _ u s=>hi _ _ _ s),l,λq n=>by
  obtain⟨t,c,w,y,A,B⟩:=m q n
  exact⟨t,c,w,y,hi _ _ _ A,B⟩⟩
theorem je.forget{a tk:ŀ Ow}{v:Value}{R:Ŀ (K×V)}{last:ŀ (K×V)}(h:je ky Rv a v R last tk):je ky Rv a v R none tk:=by
 obtain⟨b,es,clock,r,seen,c0,c,d,e,f,g,i,j,m⟩:=h
 exact⟨b,es,clock,r,seen,c0,c,d,e,f,g,i,j,λq l=>by cases l⟩
theorem ib.split{enc:K->Value}:∀ {es:Ŀ MapEntry}{D:Ŀ (K×V)},ib enc Rv es D->∀ {d:Ŀ MapEntry}{a:MapEntry}{c:Ŀ MapEntry},es=d++a::c->∃ f p g,D=f++p::g/\a.key=enc p.1/\Rv p.1 a.val p.2/\ib enc Rv (d++c) (f++g)
 | _,[],h,[],a,c,e=>by subst e; cases h
 | _,p::D,h,[],a,c,e=>by
  subst e
  exact⟨[],p,D,rfl,h.1,h.2.1,h.2.2⟩
 | _,[],h,x::d,a,c,e=>by subst e; cases h
 | _,q::D,h,x::d,a,c,e=>by
  subst e
  obtain⟨f,p,g,i,j,l,m⟩:=ib.split (es:=d++a::c) h.2.2 rfl
  exact⟨q::f,p,g,by rw[i]; rfl,j,l,h.1,h.2.1,m⟩
theorem Zsf{es:Array MapEntry}{clock:Nat}{seen:Array Nat}(u:Stamped es clock){a:MapEntry}(n:a ∈ (leftOf es seen).toList):∃ c d,(leftOf es seen).toList=c++a::d/\(leftOf es (seen.push a.born)).toList=c++d/\a ∈ es.toList:=by
 have r:=((stamped_iff es clock).1 u).2.1
 have f:a ∈ es.toList:=by simp only[leftOf,ŵ,Ė] at n; exact n.1
 have s:seen.contains a.born=false:=by simp only[leftOf,ŵ,Ė] at n; simpa using n.2
 simp only[leftOf,ŵ]
 have key:∀ l:Ŀ MapEntry,(l.map (·.born)).Nodup->a ∈ l->∃ c d,l.filter (λe=>!seen.contains e.born)=c++a::d/\l.filter (λe=>!(seen.push a.born).contains e.born)=c++d:=by
  intro l
  induction l with
  | nil=>intro _ h; cases h
  | cons x l w=>
   intro q p
   simp only[ė,ų,ă,not_exists,not_and] at q
   rcases ą.1 p with rfl|p
   .refine⟨[],l.filter (λe=>!seen.contains e.born),by rw[Œ,Ă (by rw[s]; rfl)]; rfl,?_⟩
    have:(seen.push a.born).contains a.born=true:=by simp
    rw[Œ,Ā (by rw[this]; simp)]
    refine List.filter_congr λy v=>?_
    have g:y.born≠a.born:=q.1 y v
    simp[x5,g]
   obtain⟨c,d,j,m⟩:=w q.2 p
   have g:x.born≠a.born:=λe=>q.1 a p e.symm
   by_cases t:seen.contains x.born=true
   .refine⟨c,d,by rw[Œ,Ā (by rw[t]; simp)]; exact j,?_⟩
    have:(seen.push a.born).contains x.born=true:=by simp only[x5,t,Bool.true_or]
    rw[Œ,Ā (by rw[this]; simp)]
    exact m
   have i:seen.contains x.born=false:=by simpa using t
   refine⟨x::c,d,by rw[Œ,Ă (by rw[i]; rfl),j]; rfl,?_⟩
   have:(seen.push a.born).contains x.born=false:=by rw[x5,i]; simpa using g
   rw[Œ,Ă (by rw[this]; rfl),m]; rfl
 obtain⟨c,d,j,m⟩:=key es.toList r f
 exact⟨c,d,j,m,f⟩
theorem WL.uf{t e:TypeId}{x:Operand}{v:Value}{D:Ŀ (K×V)}{c:ŀ Ow}(m key:Nat)(B:κ ops fr ⟨dst,.range t x,ty,pos,af,g⟩ true)(A:è N dst)(E:P.underlying t=some (.map kt e))(h:ü ky Rv v D c)(f:L.get m=c)(F:fr.ev x=some v)
  (k:∀ u tk,je ky Rv c u D none tk->WL P N ops Q l (ξ dst u fr) (St w0 G0 G ((key,tk)::L))):WL P N ops Q (⟨dst,.range t x,ty,pos,af,g⟩::l) fr (St w0 G0 G L):=by
 refine WL.yr (Φ:=λu w=>∃ tk,je ky Rv c u D none tk/\St w0 G0 G ((key,tk)::L) w) B (λa w d j=>?_) A (λu a w d ⟨tk,n,p⟩=>k u tk n a w d p)
 obtain⟨b,es,clock,rfl,rfl,r,s,y,H⟩:=h
 have i:=(j.loc m _ f).1
 dsimp only at i
 have:(execOp a.eval ⟨dst,.range t x,ty,pos,af,g⟩).run P w = .ok (.value (.pointer (some ⟨w.heap.size,0,none⟩))) (w.alloc (.mapIter (some b) clock #[] clock)):=by
  simp[execOp,d.ev F,Instr.range,đ E,getObj,Sem.run,i,newObj,Result.andThen]
 rw[this]
 refine⟨_,⟨b,es,clock,w.heap.size,#[],clock,rfl,rfl,rfl,č _,r,?_,s,λq C=>by cases C⟩,j.push key _⟩
 have:leftOf es #[]=es:=by simp[leftOf]
 rw[this]; exact y
theorem WL.wS{A:Operand}{v:Value}{R:Ŀ (K×V)}{m tk:ŀ Ow}{O:ŀ (K×V)}(W key:Nat)(hg:κ ops fr ⟨dst,.next A false,ty,pos,af,g⟩ true)(hd:è N dst)(h:je ky Rv m v R O tk)(hm:L.get W=m)(j:L.get key=tk)(hx:fr.ev A=some v)
  (k1:∀ e q f c,R=e++q::f->je ky Rv m v (e++f) (some q) c->∀ s t,WL P N ops Q l (ξ dst (.tuple #[.bool true,s,t]) fr) (St w0 G0 G ((key,c)::L)))
  (k2:R=[]->WL P N ops Q l (ξ dst (.tuple #[.bool false]) fr) (St w0 G0 G L)):WL P N ops Q (⟨dst,.next A false,ty,pos,af,g⟩::l) fr (St w0 G0 G L):=by
 obtain⟨b,es,clock,r,seen,c0,rfl,rfl,rfl,Z,D,E,S,h8⟩:=h
 refine WL.yr (Φ:=λu w=>(u = .tuple #[.bool false]/\R=[]/\St w0 G0 G L w)\/∃ e q f c s t,u = .tuple #[.bool true,s,t]/\R=e++q::f/\je ky Rv (some ⟨b,.map es clock,0⟩) (.pointer (some ⟨r,0,none⟩)) (e++f) (some q) c/\St w0 G0 G ((key,c)::L) w) hg (λa w y n=>?_) hd (λu a w y hh=>?_)
 .have T:=(n.loc W _ hm).1
  have U:=(n.loc key _ j).1
  dsimp only at T U
  have hS:=(stamped_iff es clock).1 D
  have d:∀ (x:Value) (w':World),(Instr.next (.pointer (some ⟨r,0,none⟩)) false ty).run P w = .ok x w'->(execOp a.eval ⟨dst,.next A false,ty,pos,af,g⟩).run P w = .ok (.value x) w':=λx w' he=>by
   simp[execOp,y.ev hx,he]
  rcases run_next_at (P:=P) w ty r b clock c0 seen es clock U T hS.1 Z with ⟨X,i⟩|⟨B,H,w1,J,i⟩
  .rw[d _ _ i]
   refine .inl ⟨rfl,?_,n⟩
   have:(leftOf es seen).toList=[]:=by simpa using aaR X
   rw[this] at E
   cases R with
   | nil=>rfl
   | cons p R=>cases E
  rw[d _ _ i]
  obtain⟨e1,e2,q1,q2,q3⟩:=Zsf D H
  obtain⟨e,q,f,r1,r2,r3,r4⟩:=ib.split E q1
  subst r1
  refine .inr ⟨e,q,f,some ⟨r,.mapIter (some b) clock (seen.push B.born) clock,0⟩,_,_,rfl,rfl,⟨b,es,clock,r,seen.push B.born,clock,rfl,rfl,rfl,č _,D,by rw[q2]; exact r4,λp hp=>S p (by rcases ĉ.1 hp with hp|hp <;> simp[hp]),λq' I=>?_⟩,?_⟩
  .cases I
   exact⟨S _ (by simp),B,q3,r2,r3,rfl,seen,rfl⟩
  rcases J with rfl|rfl
  .exact n.rj j _
  have F:St w0 G0 G L w.drew:=n.drew
  exact F.rj j _
 rcases hh with ⟨rfl,i,C⟩|⟨e,q,f,c,s,t,rfl,i,C,Y⟩
 .exact k2 i a w y C
 exact k1 e q f c i C s t a w y Y
theorem WL.tR{i:Operand}{v:Value}{R:Ŀ (K×V)}{d tk:ŀ Ow}{q:K×V}(p key:Nat)(C:κ ops fr ⟨dst,.entry i,ty,pos,af,g⟩ true)(A:è N dst)(h:je ky Rv d v R (some q) tk)(D:L.get p=d)(e:L.get key=tk)(F:fr.ev i=some v)
  (k:∀ u,Rv q.1 u q.2->ky.ok q.1->WL P N ops Q l (ξ dst (.tuple #[ky.enc q.1,u]) fr) (St w0 G0 G L)):WL P N ops Q (⟨dst,.entry i,ty,pos,af,g⟩::l) fr (St w0 G0 G L):=by
 obtain⟨b,es,clock,r,seen,c0,rfl,rfl,rfl,O,s,S,T,t⟩:=h
 obtain⟨f,c,H,I,J,rfl,U,rfl⟩:=t q rfl
 refine WL.mZ C (v:=.tuple #[ky.enc q.1,c.val]) (λa w y n=>?_) A (k _ J f)
 have j:=(n.loc p _ D).1
 have m:=(n.loc key _ e).1
 dsimp only at j m
 have E:=((stamped_iff es _).1 s).2.1
 have B:es.find? (·.born == c.born)=some c:=by rw[<- Array.find?_toList]; exact find_born c es.toList E H
 have:(Instr.entry (.pointer (some ⟨r,0,none⟩))).run P w = .ok (.tuple #[c.key,c.val]) w:=by
  simp only[Instr.entry,getObj,aaD,Sem.run,m,j,Result.andThen,Array.back?_push,bne_self_eq_false,Ŏ,aad,B]
  rfl
 rw[I] at this
 simp[execOp,y.ev F,this]
theorem Y0.K8{t e:TypeId}{x:Operand}{v:Value}{D:Ŀ (K×V)}{tk:ŀ Ow}(key:Nat)(m:P.underlying t=some (.map kt e))(h:ü ky Rv v D tk)(c:L.get key=tk)(n:fr.ev x=some v):
  Y0 P N ⟨dst,.call ⟨.builtin .len,#[x],#[t]⟩,ty,pos,af,g⟩ fr (St w0 G0 G L) (.int .i64 (D.length:Int)):=λa w j l=>by
 obtain⟨b,es,clock,rfl,rfl,p,q,i,r⟩:=h
 have d:=(l.loc key _ c).1
 dsimp only at d
 have f:=i.length
 rw[Ĭ] at f
 simp[execOp,resolve,invoke,builtin,j.ev n,Builtin.len_,đ m,getObj,Sem.run,d,goInt,Result.andThen,f]
def kp{K V:Type}(r:Rp V)(G:Mem):K->Value->V->Prop:=λ_ u x=>∃ cs,u = .agg cs.toArray/\r.jJ G cs x
theorem kp.mono{K V:Type}{r:Rp V}{G G':Mem}{k:K}{u:Value}{x:V}(a:Mem.le G G')(h:kp r G k u x):kp r G' k u x:=by
 obtain⟨cs,c,d⟩:=h
 exact⟨cs,c,r.mono a d⟩
theorem ü.rP{r:Rp V}{G G':Mem}{v:Value}{D:Ŀ (K×V)}{tk:ŀ Ow}(h:ü ky (kp r G) v D tk)(a:Mem.le G G'):ü ky (kp r G') v D tk:=h.imp λ_ _ _ h=>h.mono a
theorem je.rP{r:Rp V}{G G':Mem}{a tk:ŀ Ow}{v:Value}{R:Ŀ (K×V)}{last:ŀ (K×V)}(h:je ky (kp r G) a v R last tk)(c:Mem.le G G'):je ky (kp r G') a v R last tk:=h.imp λ_ _ _ h=>h.mono c
end
section
variable {P:Program}{N:Nat}{Q:õ}{fr:Fr}{ops:Array Oper}{l:Ŀ Oper}{dst:ŀ Nat}{ty:TypeId}{pos:String}{af:Array Edge}{g:ŀ (Nat×Bool)}{w0:Bs}{G0 G:Mem}{L:Lo}
theorem Y0.Lg{S:Υ}{t e:TypeId}{x y:Operand}{sz:Nat}{k:IntKind}(f:P.underlying t=some (.slice e))(c:(P.info? e).map (·.size)=some sz)(h:fr.ev x=some (.slice none 0 0))(i:fr.ev y=some (.int k ((0:Nat):Int))):Y0 P N ⟨dst,.slice t x none (some y) none,ty,pos,af,g⟩ fr S (.slice none 0 0):=λa w d _=>by
 simp only[execOp,d.ev h,Ŕ,Ĥ,d.ev i]
 simp[Instr.sliceAt,đ f,Instr.slice,Instr.sliceBounds,Instr.sliceBound,asIntOf,run_sizeOf c]
theorem WL.tr{t n e:TypeId}{x y:Operand}{z:Value}{D:IntKind}{m bytes sz:Nat}(d:Nat)(S:κ ops fr ⟨dst,.call ⟨.builtin .append,#[x,y],#[t,n]⟩,ty,pos,af,g⟩ true)(R:è N dst)(Y:P.underlying t=some (.slice e))(u:P.underlying n=some (.int D))
  (J:mP P e z sz bytes) (A:z.cells.size=sz) (W:0<sz) (O:bytes<=100000) (Z:fr.ev x=some (.slice none 0 0)) (hy:fr.ev y=some (.int .i64 (m:Int))) (U:0<m) (s:m<=small)
  (k:∀ f c h,c<=maxLen->(h:Ŀ Value).length=c*sz->WL P N ops Q l (ξ dst (.slice (some ⟨f,0,none⟩) m c) fr) (St w0 G0 G ((d,some ⟨f,.cells h.toArray e (0,0),0⟩)::L))):WL P N ops Q (⟨dst,.call ⟨.builtin .append,#[x,y],#[t,n]⟩,ty,pos,af,g⟩::l) fr (St w0 G0 G L):=by
 refine WL.yr (Φ:=λv w=>∃ f c h,v = .slice (some ⟨f,0,none⟩) m c/\c<=maxLen/\(h:Ŀ Value).length=c*sz/\St w0 G0 G ((d,some ⟨f,.cells h.toArray e (0,0),0⟩)::L) w) S (λa w p V=>?_) R (λv a w p ⟨f,c,h,E,F,H,I⟩=>by subst E; exact k f c h F H a w p I)
 obtain⟨i,hi,hz,X,K⟩:=J.parts
 have j:(Builtin.firstCells i.size 0 (.slice none 0 0)).run P w.drew = .ok ([]:Ŀ Value).toArray w.drew:=aaW _ _ _ _ _
 have C:=T0 (P:=P) w t n ty e i z D Y u hi hz (by omega) none 0 0 m [] j U (by omega) (by simpa [small] using s) (by omega)
 rw[ļ] at C
 have:(execOp a.eval ⟨dst,.call ⟨.builtin .append,#[x,y],#[t,n]⟩,ty,pos,af,g⟩).run P w = .ok (.value (.slice (some ⟨w.heap.size,0,none⟩) m (grownCap w m 0 e))) (w.drew.alloc (.cells (([]:Ŀ Value).toArray++Builtin.zeroCells z.cells m++Builtin.zeroCells z.cells (grownCap w m 0 e-m)) e)):=by
  simp only[execOp,resolve,invoke,builtin]
  simp only[abn,ė,ĵ,p.ev Z,p.ev hy,aaD,C,gf,Sem.run_pure]
 rw[this]
 have T:=grownCap_ge w m 0 e
 have r:=aa8 w m 0 e (by simp only[small,maxLen] at *; omega)
 refine⟨_,_,(Builtin.zeroCells z.cells m++Builtin.zeroCells z.cells (grownCap w m 0 e-m)).toList,rfl,r,?_,?_⟩
 .rw[Ĭ,aaC,aa7,aa7,A,<- ŋ]
  congr 1; omega
 have q:St w0 G0 G L w.drew:=V.drew
 have hp:=q.push d (.cells (([]:Ŀ Value).toArray++Builtin.zeroCells z.cells m++Builtin.zeroCells z.cells (grownCap w m 0 e-m)) e)
 have B:(([]:Ŀ Value).toArray++Builtin.zeroCells z.cells m++Builtin.zeroCells z.cells (grownCap w m 0 e-m))=(Builtin.zeroCells z.cells m++Builtin.zeroCells z.cells (grownCap w m 0 e-m)).toList.toArray:=by
  apply fj; simp
 rw[B] at hp
 rw[B]
 exact hp
end
section
variable {P:Program}{N:Nat}{Q:õ}{fr:Fr}{S Bt:Υ}{w0:Bs}{G0 G:Mem}{L LF:Lo}{ops:Array Oper}{dst:ŀ Nat}{op:Op}{ty:TypeId}{pos:String}{af:Array Edge}{g:ŀ (Nat×Bool)}{fs:Ŀ Bool}{l:Ŀ Oper}{Χ:Fr}
theorem jc.y0{v:Value}(e:∀ w,S w->Bt w)(i:κ ops fr ⟨dst,op,ty,pos,af,g⟩ true)(h:Y0 P N ⟨dst,op,ty,pos,af,g⟩ fr S v)(f:è N dst)(k:jc P N ops Bt Q l (ξ dst v fr) S):jc P N ops Bt Q (⟨dst,op,ty,pos,af,g⟩::l) fr S:=λa w c d=>by
 refine⟨e w d,?_⟩
 rw[Ă (c.wanted i)]
 simp only[Oper.wp,h a w c d,Oper.upon]
 exact k _ w (c.ξ v f) d
theorem jc.nil(d:∀ w,S w->Bt w)(h:WE N Q .normal fr S):jc P N ops Bt Q [] fr S:=λa w e c=>⟨d w c,h a w e c⟩
theorem jc.iE{t t':TypeId}{x y:Operand}{b off:Nat}{c:Array Value}{v:Value}(r:∀ w,St w0 G0 G L w->Bt w)(i:Nat)(c':Array Value)(u:κ ops fr ⟨none,.store t x y,ty,pos,af,g⟩ true)(B:(P.info? t).map (·.size)=some 1)
  (C:fr.ev x=some (.pointer (some ⟨b,off,none⟩))) (D:fr.ev y=some v) (hi:L.get i=some ⟨b,.cells c t' (0,0),0⟩) (A:off<c.size) (p:v.oneCell'=true) (h:c.setIfInBounds off v=c')
  (k:jc P N ops Bt Q l fr (St w0 G0 G ((i,some ⟨b,.cells c' t' (0,0),0⟩)::L))):jc P N ops Bt Q (⟨none,.store t x y,ty,pos,af,g⟩::l) fr (St w0 G0 G L):=λa w e n=>by
 subst h
 refine⟨r w n,?_⟩
 rw[Ă (e.wanted u)]
 have f:=(n.loc i _ hi).1
 have q:=ŧ w b off c t' (0,0) f
 rw[Ń A] at q
 have s:=frozen_of_row w b off c t' f
 have j:v.cells = #[v]:=by cases v <;> first|rfl|simp[Value.oneCell'] at p
 have:(execOp a.eval ⟨none,.store t x y,ty,pos,af,g⟩).run P w = .ok .skip (w.setCell ⟨b,off,none⟩ v):=by
  simp[execOp,e.ev C,e.ev D,Instr.storeAt,Instr.sureAddr,storeVar,run_sizeOf B,j,storeCells,run_store P w _ v _ p,rD,q,s]
 simp only[Oper.wp,this,Oper.upon]
 exact k _ _ (e.ξ (d:=none) undef trivial) (n.sJ hi (Nv f) (č _) (λk _ m _=>absurd m (ō k)) (λk m=>Below.heap_setCell w ⟨b,off,none⟩ v k m) rfl rfl rfl rfl (by simp))
theorem η.k8{o:Oper}{c:Value}(a:κ ops (Χ++fr) o true)(h:Y0 P N o (Χ++fr) Bt c)(k:η P N Q fr w0 G0 G L ops Bt fs l (ξ o.dst c Χ) []):
  η P N Q fr w0 G0 G L ops Bt (true::fs) (o::l) Χ []:=.inl ⟨c,λ_ _ _ _=>⟨a,h⟩,k⟩
theorem η.lE(e:Mem.le G0 G)(k:jc P N ops Bt (NX Q) l (Χ++fr) (St w0 G0 G L)):η P N Q fr w0 G0 G L ops Bt [] l Χ []:=λ_ _ c _ a w d f=>k a w d (f.st.jt e c.1)
theorem WC.nv{id:Nat}(LF:Lo)(a:Lo.sub LF L)(fl:Ŀ Bool)(f:P.follows .mixedOrders=true)(d:mm N l fl=true)(h:Mem.le G0 G->η P N Q fr w0 G0 G L l.toArray (St w0 G0 G LF) fl l [] []):
  WC P N (.region id l.toArray true) Q fr (St w0 G0 G L):=WC.tO (λe _ _ c g=>(g.st.jt e c.1).weaken a) fl f d h
end
section
variable {α:Type}{r:Rp α}{G:Mem}
abbrev hP(r:Rp α)(G:Mem):={q:Ŀ Value×α // r.jJ G q.1 q.2}
def hP.enc(a:hP r G):Ŀ Value:=a.1.1
theorem Ã.elts:∀ {l:Ŀ α}{cs:Ŀ Value},Ã r G cs l->∃ d:Ŀ (hP r G),cs=d.flatMap hP.enc/\d.map (λa=>a.1.2)=l
 | [],cs,h=>⟨[],h,rfl⟩
 | x::l,cs,h=>by
  obtain⟨c,d,rfl,e,f⟩:=h
  obtain⟨es,g,i⟩:=Ã.elts f
  exact⟨⟨(c,x),e⟩::es,by rw[g]; rfl,by rw[ė,i]⟩
theorem Ã.rf:∀ d:Ŀ (hP r G),Ã r G (d.flatMap hP.enc) (d.map (λa=>a.1.2))
 | []=>rfl
 | a::d=>⟨a.1.1,d.flatMap hP.enc,rfl,a.2,Ã.rf d⟩
end
variable {P:Program}{ρ:Go.Shelf.Ren}
set_option maxHeartbeats 1000000 in
theorem Lm{α:Type}{r:Rp α}{sz:Nat}(am:r.size=sz)(h0:0<sz){N:α->α->Int}(T:Go.Sort.SWO (Go.Proofs.ltOf N))(S:Go.Proofs.SlLaysF0.n14 P ρ){f g:Nat}(hf:ρ.f 14=f)(aE:∀ w,(isAgg (ρ.t 24)).run P w = .ok true w)(zE:∀ w,(Go.sizeOf (ρ.t 24)).run P w = .ok sz w)
  (hg:∀ (x y:α) (cx cy:Ŀ Value),ä P g #[.agg cx.toArray,.agg cy.toArray] (λG=>r.jJ G cx x/\r.jJ G cy y) (λ_ v=>v = .int .i64 (N x y))) (eg:∀ args w,(callFunc g args).run P w = .ok (.enter g args) w)
  (e:TypeId) (p:ŀ Addr) (n c:Nat) (l:Ŀ α) (tk:ŀ Ow) (D:Nat) (ac:D<4611686018427387904) (ao:l.length<=1000000000) :
  ò P f #[.slice p n c,.int .i64 0,.int .i64 (l.length:Int),.int .i64 (D:Int),.func (.func g) #[] #[]] [(5000,tk)] (λG=>Η r e G (.slice p n c) l tk)
   (λG L v=>∃ ys ah,L=[(5000,ah)]/\v = .tuple #[]/\Η r e G (.slice p n c) ys ah/\ys.Perm l/\ys.Pairwise (λa b=>Go.Proofs.ltOf N b a=false)):=by
 subst hf
 intro w G hi q
 by_cases H:l=[]
 .subst H
  obtain⟨p',c',K⟩:=q.form
  cases K
  refine (aat S p c (D:Int) _ w).mono ?_
  rintro en w' ⟨rfl,rfl⟩
  exact⟨_,G,[(5000,tk)],rfl,hi.st.mE,[],tk,rfl,rfl,q,ů _,List.Pairwise.nil⟩
 cases tk with
 | none=>exact absurd q.1 H
 | some y=>
  obtain⟨cap,cs,rest,h1,h2,h3,h4,h5,h6,h7⟩:=q
  obtain⟨b,o,m⟩:=y
  dsimp only at h1 h2 h3
  subst h2 h3
  cases h1
  obtain⟨d,ai,hd⟩:=Ã.elts h4
  subst ai
  have Y:d.length=l.length:=by rw[<- hd,Č]
  haveI:Inhabited (hP r G):=⟨d[0]'(by have:=Ŷ.2 H; omega)⟩
  have hl:∀ x:hP r G,(hP.enc x).length=sz:=λx=>by rw[<- am]; exact r.len x.2
  have ae:∀ x:hP r G,∀ v ∈ hP.enc x,v.oneCell'=true:=λx=>r.one x.2
  let cf:hP r G->hP r G->Int:=λx y=>N x.1.2 y.1.2
  have hO:Go.Sort.SWO (Go.Proofs.ltOf cf):=⟨λx=>T.irrefl x.1.2,λx y z=>T.trans x.1.2 y.1.2 z.1.2,λx y z=>T.ntrans x.1.2 y.1.2 z.1.2⟩
  have E:Lo.get [(5000,some ⟨b,Obj.cells (d.flatMap hP.enc++rest).toArray e (0,0),0⟩)] 5000=some ⟨b,.cells (d.flatMap hP.enc++rest).toArray e (0,0),0⟩:=by simp[Lo.get]
  obtain⟨W,O⟩:=hi.loc 5000 _ E
  dsimp only at W O
  have X:b<w.heap.size:=(Ĉ.1 W).1
  have aa:∀ (m:Nat) (os:Array Obj) (V:Array (hP r G)),sa G (Go.Proofs.sortWorldK hP.enc sz w b 0 m V os):=by
   intro m os V b' o' v K
   have s:b'≠b:=λe=>by subst e; rw[O o' (ġ _)] at K; cases K
   have Q:=hi.ls b' o' v K
   have al:b'<w.heap.size:=sa.lt hi.ls K
   have hh:(Go.Proofs.sortWorldK hP.enc sz w b 0 m V os).heap[b']? = w.heap[b']?:=by
    simp only[Go.Proofs.sortWorldK,Go.Sort.putRowK,Go.Sort.grow,Go.Sort.putRow,Go.Sort.mapBlock,Go.Sort.ahead]
    rw[ı (by simpa using al),ħ,Ā (λe=>s e.symm)]
   unfold World.cell? at Q ⊢
   dsimp only at Q ⊢
   rw[hh]; exact Q
  have Q:Go.Proofs.CmpLays P g #[] hP.enc sz cf b 0 d.toArray.size w:=by
   intro m os V _ x y
   refine (hg x.1.2 y.1.2 x.1.1 y.1.1 _ G ⟨aa m os V,λi x u=>by simp[Lo.get] at u,λi j x y _ u=>by simp[Lo.get] at u⟩ ⟨x.2,y.2⟩).mono ?_
   rintro en w' ⟨r',G',L',he,u,rfl⟩
   exact⟨he,Od u.os u.tape u.output u.drawn u.size λk F=>u.block k F (λ_ _ h=>by simp[Lo.get] at h)⟩
  have hH:Go.Sort.HoldsK hP.enc sz w b 0 d.toArray:=by
   unfold Go.Sort.HoldsK
   rw[NC hl h0]
   intro j U
   simp only[ĥ] at U
   have:(d.flatMap hP.enc)[j]? = some (d.flatMap hP.enc)[j]:=Ą U
   constructor
   .simp only[World.cell?,W,ļ,aba,Ŏ,aad,ę]
    rw[ĕ U,this]
    rw[š _ _ (by simpa using U)]; simp
   simp[World.frozen?,W]
  have hS:=Go.Proofs.AnyQ.pdqsortCmpFunc_all S sz aE zE hP.enc cf g #[] hO b 0 c d.toArray w eg Q ⟨hl,ae,hH,X⟩ (d.toArray.size+1) 0 d.toArray.size D d.toArray w (by omega) rfl (Go.Proofs.SWK.start hH) (ġ _) (č _) (by simp; omega) ac (Or.inl rfl)
  have C:=Go.Sort.pdq_sorts (Go.Proofs.ltOf cf) hO d.toArray 0 d.toArray.size D true true (ġ _) (č _) (Or.inl rfl)
  generalize Go.Sort.pdq (Go.Proofs.ltOf cf) d.toArray 0 d.toArray.size D true true=d' at hS C
  obtain⟨⟨ag,_,I⟩,J⟩:=C
  have B:d'.toList.Perm d:=by
   have e1:(d'.extract 0 d.toArray.size).toList=d'.toList:=by rw[<- ag,Array.extract_size]
   have e2:(d.toArray.extract 0 d.toArray.size).toList=d:=by simp
   rw[e1,e2] at I; exact I
  rw[show (d.toArray.size:Nat)=l.length by simpa using Y] at hS
  refine aas (by simpa using hS) ?_
  rintro en w' ⟨rfl,n,os,hw⟩
  have R:d'.toList.length=d.length:=B.length_eq
  have t:w'=Go.Sort.grow (Go.Sort.putRow id (Go.Sort.ahead w n) b 0 (d'.toList.flatMap hP.enc).toArray) os:=by
   rw[hw]; simp only[Go.Proofs.sortWorldK,Go.Sort.putRowK]
   have:=NC hl h0 d'.toList
   rw[Array.toArray_toList] at this
   rw[this]
  have A:∀ k,k<w.heap.size->k≠b->w'.heap[k]? = w.heap[k]?:=by
   intro k F s
   rw[t]
   simp only[Go.Sort.grow,Go.Sort.putRow,Go.Sort.mapBlock,Go.Sort.ahead]
   rw[ı (by simpa using F),ħ,Ā (λe=>s e.symm)]
  have Z:(d'.toList.flatMap hP.enc).length=(d.flatMap hP.enc).length:=by rw[A0 hl,A0 hl,R]
  have q:w'.heap[b]? = some (.cells (d'.toList.flatMap hP.enc++rest).toArray e (0,0)):=by
   rw[t]
   simp only[Go.Sort.grow,Go.Sort.putRow,Go.Sort.mapBlock,Go.Sort.ahead]
   rw[ı (by simpa using X),ħ,Ă rfl,W]
   simp only[Ĥ,Go.Sort.onCells,Ď,abA,and_true]
   apply aab
   intro k
   simp only[Go.Sort.putCells,aaN,ę,ġ,true_and,ļ,fP,ĥ,id]
   by_cases F:k<(d.flatMap hP.enc).length
   .rw[ĕ F,ĕ (by omega),Ą F,Ą (by omega:k<(d'.toList.flatMap hP.enc).length)]
    simp only[Ĥ,Ă (show k<(d'.toList.flatMap hP.enc).length by omega)]
    rw[š _ _ (by simp only[ĥ]; omega)]; simp
   rw[Ī (by omega),Ī (by omega),Z]
   cases rest[k-(d.flatMap hP.enc).length]? with
   | none=>rfl
   | some v=>simp only[Ĥ,Ā F]
  have an:w.heap.size<=w'.heap.size:=by
   rw[t]; simp[Go.Sort.grow,Go.Sort.putRow,Go.Sort.mapBlock,Go.Sort.ahead]
  have one:∀ j x,Lo.get [(5000,some (⟨b,Obj.cells (d'.toList.flatMap hP.enc++rest).toArray e (0,0),0⟩:Ow))] j=some x->x=⟨b,Obj.cells (d'.toList.flatMap hP.enc++rest).toArray e (0,0),0⟩/\5000=j:=by
   intro j x u
   rw[Lo.Zn] at u
   split at u
   .rename_i e'; cases u; exact⟨rfl,e'⟩
   simp[Lo.get] at u
  have ad:(d'.toList.map (λa=>a.1.2)).length=l.length:=by rw[Č,R,Y]
  refine⟨_,G,[(5000,some ⟨b,.cells (d'.toList.flatMap hP.enc++rest).toArray e (0,0),0⟩)],rfl,⟨by rw[t]; rfl,by rw[t]; rfl,by rw[t]; rfl,by rw[t]; simp[Go.Sort.grow,Go.Sort.putRow,Go.Sort.mapBlock,Go.Sort.ahead],an,?_,Mem.le_refl _,?_,λ_ _ _ h=>.inl h,?_,?_⟩,d'.toList.map (λa=>a.1.2),_,rfl,rfl,?_,?_,?_⟩
  .intro k F hn
   exact A k F λe=>by subst e; exact hn 5000 _ E rfl
  .intro k o v K
   have Q:=hi.ls k o v K
   have s:k≠b:=λe=>by subst e; rw[O o (ġ _)] at K; cases K
   have F:k<w.heap.size:=x9 w _ Q
   simp only[World.cell?,A k F s] at Q ⊢
   exact Q
  .intro j x U
   obtain⟨rfl,rfl⟩:=one j x U
   exact⟨q,.inl ⟨_,E,rfl⟩,O⟩
  .intro j k x y s h1 h2
   exact absurd ((one j x h1).2.symm.trans (one k y h2).2) s
  .refine⟨c,d'.toList.flatMap hP.enc,rest,by rw[ad],rfl,rfl,Ã.rf _,?_,h6,by rw[ad]; exact h7⟩
   rw[ā,Z,<- ā]; exact h5
  .have:=B.map (λa=>a.1.2)
   rwa [hd] at this
  rw[Ľ]
  rw[Ę]
  intro i j aj ab ak
  have hs:=J i j (ġ _) ak (by simp only[Ĭ] at ab; omega)
  rw[š _ _ (by simpa using ab),š _ _ (by simpa using aj)] at hs
  simp only[aaT]
  exact hs
section
variable {P:Program}{kt:TypeId}{K V:Type} [DecidableEq K] {ky:Ky P kt K}{Rv Rv':K->Value->V->Prop}
variable {N:Nat}{Q:õ}{fr:Fr}{S:Υ}{ops:Array Oper}{l:Ŀ Oper}{dst:ŀ Nat}{ty:TypeId}{pos:String}{af:Array Edge}{g:ŀ (Nat×Bool)}{w0:Bs}{G0 G:Mem}{L:Lo}
variable {fs:Ŀ Bool}{Χ:Fr}{Ω:mK}{d:Nat}{op:Op}
omit [DecidableEq K] in
end
section
variable {P:Program}{N:Nat}{Q:õ}{fr:Fr}{w0:Bs}{G0 G:Mem}{L:Lo}{ops:Array Oper}{ty:TypeId}{pos:String}{af:Array Edge}{g:ŀ (Nat×Bool)}{fs:Ŀ Bool}{l:Ŀ Oper}{Χ:Fr}{Ω:mK}{d:Nat}{op:Op}{φ:Mem->Value->Prop}
variable {α:Type}{r:Rp α}{e:TypeId}
theorem η.yW{d0 d1 d2 d3 d4 d5 d6 d7:Nat}{c d e f h i j m:Value->Gx->Prop}(k:∀ p q r s t v w y (G':Gx),Mem.le G G'.m->c p G'->d q G'->e r G'->f s G'->h t G'->i v G'->j w G'->m y G'->WL P N ops (NX Q) l ((d0,p)::(d1,q)::(d2,r)::(d3,s)::(d4,t)::(d5,v)::(d6,w)::(d7,y)::(Χ++fr)) (jO w0 G0 G' L)):η P N Q fr w0 G0 G L ops (λ_=>True) [] l Χ [(d0,c),(d1,d),(d2,e),(d3,f),(d4,h),(d5,i),(d6,j),(d7,m)]:=λu g n a=>jc.of (k (u d0) (u d1) (u d2) (u d3) (u d4) (u d5) (u d6) (u d7) g n.1 a.1 a.2.1 a.2.2.1 a.2.2.2.1 a.2.2.2.2.1 a.2.2.2.2.2.1 a.2.2.2.2.2.2.1 a.2.2.2.2.2.2.2.1)
theorem η.yX{d0 d1 d2 d3 d4 d5 d6 d7 d8:Nat}{c d e f h i j m n:Value->Gx->Prop}(k:∀ q r s t v w y A B (G':Gx),Mem.le G G'.m->c q G'->d r G'->e s G'->f t G'->h v G'->i w G'->j y G'->m A G'->n B G'->WL P N ops (NX Q) l ((d0,q)::(d1,r)::(d2,s)::(d3,t)::(d4,v)::(d5,w)::(d6,y)::(d7,A)::(d8,B)::(Χ++fr)) (jO w0 G0 G' L)):η P N Q fr w0 G0 G L ops (λ_=>True) [] l Χ [(d0,c),(d1,d),(d2,e),(d3,f),(d4,h),(d5,i),(d6,j),(d7,m),(d8,n)]:=λu g p a=>jc.of (k (u d0) (u d1) (u d2) (u d3) (u d4) (u d5) (u d6) (u d7) (u d8) g p.1 a.1 a.2.1 a.2.2.1 a.2.2.2.1 a.2.2.2.2.1 a.2.2.2.2.2.1 a.2.2.2.2.2.2.1 a.2.2.2.2.2.2.2.1 a.2.2.2.2.2.2.2.2.1)
end
theorem Oper.ZvC{P:Program}{o:Oper}{a:Act}{w:World}{K:Act->World->Prop}{Q Q':õ}(h:o.wp P a w K (NX Q)):o.wp P a w K (NX Q'):=by
 unfold Oper.wp at h ⊢
 generalize (execOp a.eval o).run P w=r at h ⊢
 cases r with
 | ok x w'=>
  cases x <;> simp only[Oper.upon] at h ⊢
  case value v=>exact h
  case skip=>exact h
  case defer d=>exact h
  case enter f args=>
   refine aas h λe i g=>?_
   cases e with
   | returned v=>exact g
   | panicked c=>exact g
   | outgrown=>obtain⟨_,_,g⟩:=g; exact g.elim
  case row row args=>exact h
 | halt x w'=>cases x <;> simp only[Oper.upon] at h ⊢; exact h
section
variable {P:Program}{N:Nat}{Q:õ}{fr:Fr}{S Bt:Υ}{w0:Bs}{G0 G:Mem}{L:Lo}{ops:Array Oper}{ty:TypeId}{pos:String}{af:Array Edge}{g:ŀ (Nat×Bool)}{l:Ŀ Oper}{o:Oper}
theorem jc.one(g:∀ w,S w->Bt w)(h:WL P N ops (NX λ_ a w=>jQ P ops Bt (NX Q) l a w) [o] fr S):jc P N ops Bt (NX Q) (o::l) fr S:=λa w i e=>by
 refine⟨g w e,?_⟩
 have h:=h a w i e
 unfold wpList at h
 split at h
 .rename_i c
  rw[Ă c]
  rcases h with h|⟨_,d,f,j⟩
  .exact Oper.ZvC h
  exact j.elim
 rename_i c
 rw[Ā c]
 exact h
theorem jc.back{sx:Fr}{S':Υ}(h:jc P N ops Bt (NX Q) l sx S'):WL P N ops (NX λ_ a w=>jQ P ops Bt (NX Q) l a w) [] sx S':=λa w c d=>h a w c d
end
section
variable {P:Program}{N:Nat}{dst:ŀ Nat}{ty:TypeId}{pos:String}{af:Array Edge}{g:ŀ (Nat×Bool)}{G:Mem}{α:Type}{r:Rp α}
theorem ë.cut{t e:TypeId}{n cap sz:Nat}{p:ŀ Addr}{xs:Ŀ α}{lo hi:Int}(low high:ŀ Value)(s:(P.info? e).map (·.size)=some sz)(q:sz=r.size)(A:P.underlying t=some (.slice e))(h:ë r G (.slice p n cap) xs)
  (m:low=none/\lo=0\/∃ k,low=some (.int k lo)) (l:high=none/\hi=(xs.length:Int)\/∃ k,high=some (.int k hi)) (E:0<=lo/\lo<=hi/\hi<=(xs.length:Int)) :
  ∃ p' c,ë r G (.slice p' ((xs.take hi.toNat).drop lo.toNat).length c) ((xs.take hi.toNat).drop lo.toNat)/\∀ w,(Instr.slice t (.slice p n cap) low high none).run P w = .ok (.slice p' ((xs.take hi.toNat).drop lo.toNat).length c) w:=by
 have y:n=xs.length:=by obtain⟨p',c,cs,d,_⟩:=h; cases d; rfl
 have v:n<=cap/\cap<=9223372036854775807:=by obtain⟨p',c,cs,d,i,_⟩:=h; cases d; exact i
 have g:∀ a,p=some a->0<cap->a.spot=none:=by obtain⟨p',c,cs,d,_,i,_⟩:=h; cases d; exact i
 have f:((xs.take hi.toNat).drop lo.toNat).length=hi.toNat-lo.toNat:=by simp; omega
 refine⟨if cap=lo.toNat then p else p.map (·.add (lo.toNat*sz)),cap-lo.toNat,?_,λw=>?_⟩
 .rw[f]
  refine h.take (by omega) (by omega) ?_ (by omega)
  by_cases u:cap=lo.toNat
  .right
   rw[Ă u]
   exact⟨by omega,rfl,by omega⟩
  left
  rw[Ā u]
  cases p with
  | none=>rfl
  | some a=>
   obtain⟨B,C,D⟩:=a
   have:=g _ rfl (by omega)
   dsimp only at this
   subst this
   simp only[Ĥ,rD,q]
 have j:(Instr.sliceBounds true n cap low high none).run P w = .ok (lo.toNat,hi.toNat,cap) w:=by
  rcases m with ⟨rfl,rfl⟩|⟨k,rfl⟩ <;> rcases l with ⟨rfl,rfl⟩|⟨k',rfl⟩
  .simp[Instr.sliceBounds,y]
  .have d:0<=hi/\hi<=(cap:Int):=by omega
   simp[Instr.sliceBounds,Instr.sliceBound,asIntOf,d]
  .have d:0<=lo/\lo<=(n:Int):=by omega
   simp[Instr.sliceBounds,Instr.sliceBound,asIntOf,d,y]
   intro h; omega
  have d:0<=hi/\hi<=(cap:Int):=by omega
  have i:0<=lo/\lo<=((hi.toNat:Nat):Int):=by omega
  simp[Instr.sliceBounds,Instr.sliceBound,asIntOf,d,i]
  intro h; omega
 rw[f]
 simp[Instr.slice,đ A,j,run_sizeOf s]
theorem Y0.B9{S:Υ}{F:Fr}{t e:TypeId}{x f:Operand}{d:IntKind}{lo:Int}{u v:Value}(j:P.underlying t=some (.slice e))(h:∀ w,(Instr.slice t u (some (.int d lo)) none none).run P w = .ok v w)(l:F.ev x=some u)(i:F.ev f=some (.int d lo)):
  Y0 P N ⟨dst,.slice t x (some f) none none,ty,pos,af,g⟩ F S v:=λa w c _=>by
 simp only[execOp,c.ev l,c.ev i,Ŕ,Ĥ]
 simp[Instr.sliceAt,đ j,h w]
theorem Y0.B8{S:Υ}{F:Fr}{t e:TypeId}{x f:Operand}{d:IntKind}{hi:Int}{u v:Value}(j:P.underlying t=some (.slice e))(h:∀ w,(Instr.slice t u none (some (.int d hi)) none).run P w = .ok v w)(l:F.ev x=some u)(i:F.ev f=some (.int d hi)):
  Y0 P N ⟨dst,.slice t x none (some f) none,ty,pos,af,g⟩ F S v:=λa w c _=>by
 simp only[execOp,c.ev l,c.ev i,Ŕ,Ĥ]
 simp[Instr.sliceAt,đ j,h w]
end
section
variable {P:Program}{N:Nat}{Q:õ}{fr:Fr}{S:Υ}{ops:Array Oper}{l:Ŀ Oper}{dst:ŀ Nat}{ty:TypeId}{pos:String}{af:Array Edge}{g:ŀ (Nat×Bool)}{w0:Bs}{G0 G:Mem}{L L':Lo}
variable {α:Type}{A B:Cq α}{Φ:α->Prop}{p:Prop} [Decidable p] {b:Bool}
theorem z{α:Sort _}{a:α}:a=a:=rfl
abbrev mx:=@Mem.le_trans
abbrev fc:=@Fr.Ze
abbrev lc:=@Lo.Ze
abbrev lw:=@Lo.Fl
theorem wk(h:Lo.sub L' L):∀ w,St w0 G0 G L w->St w0 G0 G L' w:=λ_ a=>a.weaken h
theorem ln:Lo.sub [] L:=Lo.Zs L
theorem fn{fr:Fr}:Fr.sub [] fr:=Fr.Zs fr
theorem mr:Mem.le G G:=Mem.le_refl G
theorem WC.cr{c:Operand}{x y:Code}(a:(if p then A else B).wp Φ)(d:fr.ev c=some (.bool (decide p)))(f:p->A.wp Φ->WC P N x Q fr S)(e:¬ p->B.wp Φ->WC P N y Q fr S):WC P N (.cond c x y) Q fr S:=
 WC.iD d (λh=>f h (by rwa [Ă h] at a)) (λh=>e h (by rwa [Ā h] at a))
theorem WC.crB{c:Operand}{x y:Code}(a:(if b=true then A else B).wp Φ)(d:fr.ev c=some (.bool b))(f:b=true->A.wp Φ->WC P N x Q fr S)(e:b=false->B.wp Φ->WC P N y Q fr S):WC P N (.cond c x y) Q fr S:=
 WC.cond d (λh=>f h (by rwa [Ă h] at a)) (λh=>e h (by rwa [Ā (by rw[h]; decide)] at a))
theorem WL.cr{op:Op}(a:(if p then A else B).wp Φ)(d:κ ops fr ⟨dst,op,ty,pos,af,g⟩ true)(h:Y0 P N ⟨dst,op,ty,pos,af,g⟩ fr S (.bool (decide p)))(c:è N dst)
  (kt:p->A.wp Φ->WL P N ops Q l (ξ dst (.bool true) fr) S) (e:¬ p->B.wp Φ->WL P N ops Q l (ξ dst (.bool false) fr) S):WL P N ops Q (⟨dst,op,ty,pos,af,g⟩::l) fr S:=
 WL.pO d h c (λh=>kt h (by rwa [Ă h] at a)) (λh=>e h (by rwa [Ā h] at a))
theorem η.cr{Bt:Υ}{fs:Ŀ Bool}{r:Ŀ Oper}{Χ:Fr}{o:Oper}(a:(if p then A else B).wp Φ)(c:κ ops (Χ++fr) o true)(h:∀ G',Mem.le G G'->Y0 P N o (Χ++fr) (St w0 G0 G' L) (.bool (decide p)))
  (kt:p->A.wp Φ->η P N Q fr w0 G0 G L ops Bt fs r (ξ o.dst (.bool true) Χ) []) (d:¬ p->B.wp Φ->η P N Q fr w0 G0 G L ops Bt fs r (ξ o.dst (.bool false) Χ) []):η P N Q fr w0 G0 G L ops Bt (false::fs) (o::r) Χ []:=
 η.pO c h (λh=>kt h (by rwa [Ă h] at a)) (λh=>d h (by rwa [Ā h] at a))
theorem cs{Bt:Υ}{fs:Ŀ Bool}{Χ:Fr}{op:Op}{j d:Nat}{c:Bool}(a:(ops[j]?).bind (·.dst)=some d)(e:(Χ++fr).get d=some undef)(k:η P N Q fr w0 G0 G L ops Bt fs l (ξ dst undef Χ) []):η P N Q fr w0 G0 G L ops Bt (false::fs) (⟨dst,op,ty,pos,af,some (j,c)⟩::l) Χ []:=η.skip (ND a e) k
theorem ct{Bt:Υ}{fs:Ŀ Bool}{Χ:Fr}{op:Op}{j d:Nat}(a:(ops[j]?).bind (·.dst)=some d)(c:(Χ++fr).get d=some (.bool false))(k:η P N Q fr w0 G0 G L ops Bt fs l (ξ dst undef Χ) []):η P N Q fr w0 G0 G L ops Bt (false::fs) (⟨dst,op,ty,pos,af,some (j,true)⟩::l) Χ []:=η.skip (I6 a c) k
theorem cf{Bt:Υ}{fs:Ŀ Bool}{Χ:Fr}{op:Op}{j d:Nat}(a:(ops[j]?).bind (·.dst)=some d)(c:(Χ++fr).get d=some (.bool true))(k:η P N Q fr w0 G0 G L ops Bt fs l (ξ dst undef Χ) []):η P N Q fr w0 G0 G L ops Bt (false::fs) (⟨dst,op,ty,pos,af,some (j,false)⟩::l) Χ []:=η.skip (Pv a c) k
theorem cy{Bt:Υ}{fs:Ŀ Bool}{Χ:Fr}{op:Op}{v:Value}{j d:Nat}{c:Bool}(a:(ops[j]?).bind (·.dst)=some d)(e:(Χ++fr).get d=some (.bool c))(h:∀ G',Mem.le G G'->Y0 P N ⟨dst,op,ty,pos,af,some (j,c)⟩ (Χ++fr) (St w0 G0 G' L) v)(k:η P N Q fr w0 G0 G L ops Bt fs l (ξ dst v Χ) []):η P N Q fr w0 G0 G L ops Bt (false::fs) (⟨dst,op,ty,pos,af,some (j,c)⟩::l) Χ []:=η.y0 (I7 a e) h k
end
def Rp.arr{α:Type}(r:Rp α)(n:Nat):Rp (Ŀ α) where
 size:=n*r.size
 jJ G cs xs:=Ã r G cs xs/\xs.length=n
 len:=λ⟨h,e⟩=>by rw[h.len,e]
 mono:=λa ⟨h,e⟩=>⟨h.mono a,e⟩
 one:=λ⟨h,_⟩=>h.one
def iz{α:Type}(r:Rp α)(n:Nat)(G:Mem)(cs:Ŀ Value)(_:Unit)(xs:Ŀ α):Prop:=(Rp.arr r n).jJ G cs xs
section
variable {α:Type}{r:Rp α}{n:Nat}{G:Mem}{cs:Ŀ Value}{u:Unit}{xs:Ŀ α}
theorem iz.mono{G':Mem}(h:iz r n G cs u xs)(a:Mem.le G G'):iz r n G' cs u xs:=(Rp.arr r n).mono a h
theorem iz.size(h:iz r n G cs u xs):cs.toArray.size=n*r.size:=by rw[ĥ]; exact (Rp.arr r n).len h
theorem iz.lt{z:α}{i:Int}(h:iz r n G cs u xs)(hi:0<=i/\xs[i.toNat]? = some z):0<=i/\i<(n:Int):=by
 have:=(Ć.1 hi.2).1
 have e:=h.2
 omega
theorem iz.at{z:α}{i:Int}(h:iz r n G cs u xs)(hi:0<=i/\xs[i.toNat]? = some z):AtK r G (λo v=>cs.toArray[o]? = some v) (i.toNat*r.size) z:=by
 obtain⟨c,a,d⟩:=h.1.get hi.2
 exact⟨c,a,λj v e=>by show cs.toArray[_]? = some v; rw[ę]; exact d j v e⟩
theorem iz.zero{zc:Ŀ Value}{z:α}(h:r.jJ G zc z):iz r n G (List.replicate n zc).flatten () (List.replicate n z):=by
 refine⟨?_,aag⟩
 induction n with
 | zero=>exact rfl
 | succ n a=>exact⟨zc,_,by simp[gL],h,a⟩
end
section
variable {P:Program}{N:Nat}{Q:õ}{fr:Fr}{S:Υ}{dst:ŀ Nat}{ops:Array Oper}{l:Ŀ Oper}{ty:TypeId}{pos:String}{af:Array Edge}{g:ŀ (Nat×Bool)}{w0:Bs}{G0 G:Mem}{L:Lo}{α:Type}{r:Rp α}
theorem Y0.qF{t e:TypeId}{x y:Operand}{len b sz:Nat}{k:IntKind}{i:Int}(c:P.underlying t=some (.array len e))(a:(P.info? e).map (·.size)=some sz)
  (d:fr.ev x=some (.pointer (some ⟨b,0,none⟩))) (f:fr.ev y=some (.int k i)) (hi:0<=i/\i<len):Y0 P N ⟨dst,.indexAddr t x y,ty,pos,af,g⟩ fr S (.pointer (some ⟨b,i.toNat*sz,none⟩)):=
 (Y0.oQ c a d f hi).eq (by simp)
theorem WL.vL{t t':TypeId}{x y:Operand}{b n sz:Nat}{val:Value}{cs cs':Ŀ Value}{i:Int}{xs:Ŀ α}{z z':α}{u:Unit}(key:Nat)(I:κ ops fr ⟨none,.store t x y,ty,pos,af,g⟩ true)(R:(P.info? t).map (·.size)=some sz)(s:sz=r.size)
  (K:n<=maxLen) (h:iz r n G cs u xs) (m:L.get key=some ⟨b,.cells cs.toArray t' (0,0),0⟩) (S:fr.ev x=some (.pointer (some ⟨b,i.toNat*sz,none⟩))) (T:fr.ev y=some val) (d:val.cells=cs'.toArray) (c:r.jJ G cs' z') (hi:0<=i/\xs[i.toNat]? = some z)
  (k:∀ w,iz r n G w u (xs.set i.toNat z')->WL P N ops Q l fr (St w0 G0 G ((key,some ⟨b,.cells w.toArray t' (0,0),0⟩)::L))):WL P N ops Q (⟨none,.store t x y,ty,pos,af,g⟩::l) fr (St w0 G0 G L):=by
 obtain⟨D,j⟩:=h
 have O:Η r t' G (.slice (some ⟨b,0,none⟩) n n) xs (some ⟨b,.cells cs.toArray t' (0,0),0⟩):=
  ⟨n,cs,[],by rw[j],by simp,rfl,D,by simp[D.len,j],K,by omega⟩
 refine WL.storeT (p:=some ⟨b,0,none⟩) (n:=n) (cap:=n) key I R s O m S T d c hi λv a=>?_
 cases v with
 | none=>
  obtain⟨e,_⟩:=a
  have J:(xs.set i.toNat z').length=0:=by rw[e]; rfl
  rw[Ũ] at J
  have:=(Ć.1 hi.2).1
  omega
 | some q=>
  obtain⟨cap,f,rest,F,A,B,C,H,_⟩:=a
  obtain⟨qb,W,V⟩:=q
  dsimp only at A B
  subst A B
  cases F
  have E:=C.len
  rw[Ũ,j] at E
  have U:rest=[]:=ő (by rw[ā,E] at H; omega)
  subst U
  simp only[ğ]
  exact k f ⟨C,by rw[Ũ]⟩
end
end Go.EL

namespace Go.EL
open Go.IntKind (i8 i16 i32 i64 u8 u16 u32 u64)
open Go Go.RowKit Go.Proofs Go.ChangeShapes Go.WideShapes Go.ChangeAt
theorem Nn{H:Type}{enc:TypeId×Value->H}{P:Program}(i:laidOutB P=true){W W':World}(g:Below W.heap.size W W'):∀ {c:Ŀ TypeId}{vs:Ŀ Value}{e:Ŀ (DataW H)}{ps:Ŀ MemPlace},
  (c.all λt=>P.readableRec t && decide (t<P.types.size))=true->DataW.TrodAll enc P W 0 (λ_=>true) true c vs e ps->DataW.TrodAll enc P W' 0 (λb=>decide (b<W.heap.size)) true c vs e ps
 | [],[],[],_,_,h=>h
 | t::c,v::vs,d::e,ps,a,h=>by
  have f:=DataW.TrodAll.lt h
  obtain⟨p,q,j,l,rfl⟩:=h
  simp only[abl,Ē,Ģ] at a
  exact⟨p,q,Below.trod i a.1.1 a.1.2 j g (λx m=>f x (by simp[m])),Nn i g a.2 l,rfl⟩
 | [],[],_::_,_,_,h=>h.elim
 | [],_::_,_,_,_,h=>h.elim
 | _::_,[],_,_,_,h=>h.elim
 | _::_,_::_,[],_,_,h=>h.elim
theorem NR{H:Type}{enc:TypeId×Value->H}{P:Program}{w:World}{b:Nat}{f:Nat->Bool}{held:Bool}:∀ {c:Ŀ TypeId}{vs:Ŀ Value}{a:Ŀ (DataW H)}{ps:Ŀ MemPlace},DataW.TrodAll enc P w b f held c vs a ps->a.length=c.length
 | [],[],[],_,_=>rfl
 | t::c,v::vs,d::a,ps,h=>by
  obtain⟨p,q,g,e,rfl⟩:=h
  simp[NR e]
 | [],[],_::_,_,h=>h.elim
 | [],_::_,_,_,h=>h.elim
 | _::_,[],_,_,h=>h.elim
 | _::_,_::_,[],_,h=>h.elim
theorem Ext.below{w w':World}{G G':Mem}{L':Lo}(h:Ext w G [] w' G' L'):Below w.heap.size w w':=⟨h.os,h.tape,h.output,h.size,λk a=>h.block k a (λ_ _ e=>(by simp[Lo.get] at e))⟩
def qw{H:Type}(enc:TypeId×Value->H)(P:Program)(f:FuncId)(a:Ŀ TypeId):Prop:=
 ∀ (W:World) (base:Nat) (args:Array Value) (c:Ŀ (DataW H)) (p:Ŀ MemPlace),(∀ (j:Nat) t v,a[j]? = some t->args[j]? = some v->Value.okWide P W .any base t v)->
  DataW.TrodAll enc P W 0 (λ_=>true) true a args.toList c p->Calls P f args W λe w'=>e = .returned (.bool true)/\Below W.heap.size W w'
theorem Yy{C:Checked}{os:Os}{f:FuncId}{fn:Func}{s:ChangeSpec}{a:Ŀ PathCond}{G:TypeId}{H:Type}{enc:TypeId×Value->H}
  (own:ownKnob C.prog.godebug=none) (d:os.Started) (m:C.prog.inits.idxOf? f=none) (F:C.prog.funcs[f]? = some fn)
  (g:∃ (w:World) (tape:Tape) (i:Input),w.os=os/\(w.forCall tape i).Shaped C.prog/\i.vars=[]/\Input.okWide C.prog (w.forCall tape i) .any w.heap.size f i/\
   s.pre6 enc C.prog fn a false (w.forCall tape i).memory i.args/\({}:Assume).holds C.prog (lone (Frame.enter C.prog f i.args .normal) [] (w.forCall tape i)))
  (R:laidOutB C.prog=true) (T:(fn.params.toList.all λt=>C.prog.readableRec t && decide (t<C.prog.types.size))=true) (r:fn.resultTypes = #[G]) (E:C.prog.underlying G=some .bool) (L:s.vars=[])
  (U:∀ l:Ŀ (DataW H),l.length=fn.params.toList.length->s.fn H l = { results:=[.lit (.bool true)],args:=l })
  (y:qw enc C.prog f fn.params.toList) :
  ReturnsInHanded {} C os f .any (s.pre6 enc C.prog fn a false) (s.post enc C.prog fn false true false false):=by
 refine returnsInHanded_of_change own d m F g ?_
 intro W base args l V A u J _ _
 have D:=J
 obtain⟨p,q,B,I,rfl,Q,S⟩:=J
 rw[L] at I
 obtain⟨rfl,rfl⟩:=trodVars_none I
 refine (y W base args l p (λj t v N O=>u j t v (by simpa using N) O) B).mono λe w' ⟨P,K⟩=>?_
 subst P
 have n:=NR B
 have c:s.fn H (l++[]) = { results:=[.lit (.bool true)],args:=l }:=by rw[ğ]; exact U l n
 refine⟨_,rfl,l,[],p++[],[],p,[],D,?_,?_,?_,Below.frame K _,λh=>by cases h⟩
 .rw[c,r]
  exact trodAll_mk1 (shut_bool E true)
 .rw[c]
  exact Nn R K T B
 rw[c,L]; rfl
theorem wf_u8{x:Int}(h:(Lit.int .u8 x).wf=true):0<=x/\x<=255:=by
 simp only[Lit.wf,Ē,Ģ] at h
 have a:u8.min=0:=by decide
 have c:u8.max=255:=by decide
 omega
theorem ä.law{P:Program}{f:FuncId}{args:Array Value}{a:Mem->Prop}(h:ä P f args a (λ_ r=>r = .bool true))(W:World)(G:Mem)(hi:sa G W)(hp:a G):Calls P f args W λe w'=>e = .returned (.bool true)/\Below W.heap.size W w':=
 (h W G ⟨hi,(by intro _ _ h; simp[Lo.get] at h),(by intro _ _ _ _ _ h; simp[Lo.get] at h)⟩ hp).mono λ_ _ ⟨_,_,_,c,d,g⟩=>⟨by rw[c,g],d.below⟩
def lN(W:World):Mem:=λb o=>W.cell? ⟨b,o,none⟩
theorem ZuL(W:World):sa (lN W) W:=by intro _ _ _ h; exact h
theorem Pk(a:Addr)(n:Nat)(h:a.spot=none):a.add n=⟨a.block,a.off+n,none⟩:=by
 unfold Addr.add
 split
 .rename_i c; subst c; cases a; simp_all
 rfl
structure gX {α:Type}(P:Program) (W:World) (t:TypeId) (r:Rp α) (ok:α->Prop):Prop where
 go:∀ {H:Type}{enc:TypeId×Value->H}{b:Nat}{held:Bool}{fuel:Nat}{cs:Ŀ Value}{x:DataW H×Ŀ MemPlace},DataW.trod enc P W b (λ_=>true) held fuel t cs=some x->∃ y,r.jJ (lN W) cs y/\ok y
section
variable {P:Program}{W:World}
theorem gX.int{t:TypeId}{k:IntKind}(d:P.underlying t=some (.int k)):gX P W t (Rp.int k) (λy=>(Lit.int k y).wf=true):=by
 constructor
 intro H enc b held fuel cs x h
 obtain⟨n,a,_,c⟩:=DataW.trod_int d h
 exact⟨n,a,c⟩
theorem gX.vec{t e:TypeId}{k:IntKind}{n:Nat}(u:P.underlying t=some (.array n e))(s:P.underlying e=some (.int k))(y:P.cellsOf t=n)(d:P.cellsOf e=1):gX P W t (Rp.vec k n) (λf=>∀ i,(Lit.int k (f i)).wf=true):=by
 constructor
 intro H enc b held fuel cs x h
 obtain⟨xs,m,_,_,A,w,v⟩:=DataW.trod_array u h
 have a:∀ i:Fin n,∃ z,cs[i.val]? = some (.int k z)/\(Lit.int k z).wf=true:=by
  intro i
  have g:=v i.val i.isLt
  rw[Ą (by omega),d] at g
  obtain⟨z,q,_,r⟩:=DataW.trod_int s g
  refine⟨z,?_,r⟩
  have l:((cs.drop (i.val*1)).take 1)[0]? = some (.int k z):=by rw[q]; rfl
  rw[Ň,Ă (by decide),List.getElem?_drop] at l
  simpa using l
 have c:=λi=>(a i).choose_spec
 refine⟨λi=>(a i).choose,?_,λi=>(c i).2⟩
 show cs=í (Value.int k) n _
 apply fF
 intro j
 by_cases p:j<n
 .rw[th _ _ _ p]; exact (c ⟨j,p⟩).1
 rw[Ĺ (by omega),Ĺ (by rw[uG]; omega)]
theorem ZtG{α:Type}{r:Rp α}{ok:α->Prop}{t e:TypeId}{H:Type}{enc:TypeId×Value->H}{b:Nat}{held:Bool}{fuel:Nat}{cs:Ŀ Value}{x:DataW H×Ŀ MemPlace}
  (Z:P.underlying t=some (.slice e)) (K:P.cellsOf e=r.size) (v:0<r.size) (U:gX P W e r ok) (h:DataW.trod enc P W b (λ_=>true) held fuel t cs=some x) :
  ∃ p cap l,cs=[.slice p (List.length l) cap]/\ë r (lN W) (.slice p l.length cap) l/\∀ y ∈ l,ok y:=by
 rcases Go.Deep.open_slice Z h with ⟨i,_⟩|⟨a,len,cap,m,n,D,Pl,i,_,X,q,L,_,O⟩
 .exact⟨none,0,[],i,ë.nil _ _,by simp⟩
 rw[Ă rfl] at L
 subst L
 have N:0<m->a.spot=none:=λi=>by
  obtain⟨cs',w,_⟩:=O 0 i
  obtain⟨_,s,c⟩:=World.cells?_some w
  have d:=c 0 (by rw[K]; exact v)
  rw[fT] at d
  cases J:cs'[0]? with
  | none=>rw[aan] at J; omega
  | some u=>
   rw[J] at d
   have:=World.cell?_spot d
   unfold Addr.add at this
   simpa using this
 have G:∀ k,k<=len->∃ (C:Ŀ Value) (l:Ŀ α),l.length=k/\Ã r (lN W) C l/\(∀ y ∈ l,ok y)/\∀ j u,C[j]? = some u->W.cell? ⟨a.block,a.off+j,none⟩=some u:=by
  intro k
  induction k with
  | zero=>exact λ_=>⟨[],[],rfl,rfl,by simp,λj u h=>by simp at h⟩
  | succ k ih=>
   intro hk
   obtain⟨C,l,A,B,E,F⟩:=ih (by omega)
   obtain⟨cs',w,Q⟩:=O k (by omega)
   rw[K] at w
   obtain⟨_,s,c⟩:=World.cells?_some w
   obtain⟨y,R,S⟩:=U.go Q
   refine⟨C++cs',l++[y],by simp[A],B.append (Ã.single R),λz g=>?_,λj u f=>?_⟩
   .rcases ĉ.1 g with g|g
    .exact E z g
    simp at g; subst g; exact S
   by_cases V:j<C.length
   .rw[ĕ V] at f; exact F j u f
   rw[Ī (by omega)] at f
   have Y:=(Ć.1 f).1
   have T:=B.len
   rw[A] at T
   have d:=c (j-C.length) (by omega)
   rw[Pk a _ (N (by omega)),Pk _ _ rfl,f] at d
   have e:a.off+k*r.size+(j-C.length)=a.off+j:=by omega
   simp only[e] at d
   exact d
 obtain⟨C,l,A,B,E,F⟩:=G len (č _)
 subst A
 refine⟨some a,m,l,i,⟨some a,m,C,rfl,⟨X,by simpa [maxLen] using q⟩,λa' e I=>?_,λ_=>rfl,B,λj u f=>F j u f⟩,E⟩
 cases e; exact N I
theorem gX.sl{α:Type}{r:Rp α}{ok:α->Prop}{t e:TypeId}(j:P.underlying t=some (.slice e))(g:P.cellsOf e=r.size)(a:0<r.size)(i:gX P W e r ok):gX P W t (Rp.sl r) (λl=>∀ y ∈ l,ok y):=by
 constructor
 intro H enc b held fuel cs x h
 obtain⟨p,cap,l,c,d,f⟩:=ZtG j g a i h
 exact⟨l,⟨_,c,d⟩,f⟩
structure iQ {α:Type}(P:Program) (W:World) (fs:Ŀ Field) (o:Nat) (r:Rp α) (ok:α->Prop):Prop where
 go:∀ {H:Type}{enc:TypeId×Value->H}{b:Nat}{held:Bool}{fuel:Nat}{cs:Ŀ Value},cs.length=o+r.size->(∀ f ∈ fs,∃ x,DataW.trod enc P W b (λ_=>true) held fuel f.type ((cs.drop f.offset).take (P.cellsOf f.type))=some x)->∃ y,r.jJ (lN W) (cs.drop o) y/\ok y
theorem iQ.last{α:Type}{r:Rp α}{ok:α->Prop}{f:Field}{o:Nat}(e:f.offset=o)(c:P.cellsOf f.type=r.size)(h:gX P W f.type r ok):iQ P W [f] o r ok:=by
 constructor
 intro H enc b held fuel cs g d
 obtain⟨x,a⟩:=d f (by simp)
 rw[e,c,ľ (by rw[Ž]; omega)] at a
 exact h.go a
theorem iQ.cons{α β:Type}{r:Rp α}{q:Rp β}{ok:α->Prop}{a:β->Prop}{f:Field}{fs:Ŀ Field}{o:Nat}(t:f.offset=o)(m:P.cellsOf f.type=r.size)(h:gX P W f.type r ok)(u:iQ P W fs (o+r.size) q a):iQ P W (f::fs) o (Rp.pair r q) (λx=>ok x.1/\a x.2):=by
 constructor
 intro H enc b held fuel cs p c
 have s:cs.length=o+(r.size+q.size):=p
 obtain⟨x,d⟩:=c f (by simp)
 rw[t,m] at d
 obtain⟨y,e,i⟩:=h.go d
 obtain⟨z,j,l⟩:=u.go (by omega) (λg n=>c g (by simp[n]))
 refine⟨(y,z),⟨_,_,?_,e,j⟩,i,l⟩
 rw[<- List.drop_drop,Ő]
theorem gX.struct{α β:Type}{r:Rp α}{ok:α->Prop}{t:TypeId}{fs:Array Field}(m:P.underlying t=some (.struct fs))(v:P.cellsOf t=r.size)(h:iQ P W fs.toList 0 r ok)(f:β->α)(g:α->β)(c:∀ x,f (g x)=x):gX P W t (Rp.via r f) (λy=>ok (f y)):=by
 constructor
 intro H enc b held fuel cs x q
 obtain⟨xs,n,_,_,w,s,l⟩:=DataW.trod_struct m q
 obtain⟨y,d,j⟩:=h.go (enc:=enc) (b:=b) (held:=held) (fuel:=n) (cs:=cs) (by omega) (λu p=>by
  obtain⟨i,hi,e⟩:=Ĩ.1 p
  have a:i<fs.size:=by simpa using hi
  have:=l i u (by rw[Ń a]; simpa using e)
  rw[Ą (by omega)] at this
  exact⟨_,this⟩)
 exact⟨g y,by show r.jJ _ cs (f (g y)); rw[c]; exact d,by show ok (f (g y)); rw[c]; exact j⟩
theorem WA{α:Type}{r:Rp α}{ok:α->Prop}{t:TypeId}{fs:Array Field}{base:Nat}{v:Value}{H:Type}{enc:TypeId×Value->H}{b:Nat}{held:Bool}{d:DataW H}{ps:Ŀ MemPlace}
  (j:P.underlying t=some (.struct fs)) (i:gX P W t r ok) (c:Value.okWide P W .any base t v) (h:DataW.Trod enc P W b (λ_=>true) held t v d ps) :
  ∃ cs y,v = .agg (cs:Ŀ Value).toArray/\r.jJ (lN W) cs y/\ok y:=by
 obtain⟨cs,rfl,_,_⟩:∃ cs,v = .agg cs/\cs.size=P.cellsOf t/\Row.okWide P W .any base t cs:=by simpa [Value.okWide,j] using c
 obtain⟨fuel,e⟩:=h
 have a:(Value.agg cs).cells.toList=cs.toList:=rfl
 rw[a] at e
 obtain⟨y,f,g⟩:=i.go e
 exact⟨cs.toList,y,by simp,f,g⟩
theorem Zta{α:Type}{r:Rp α}{G:Mem}{cs:Ŀ Value}{x:α}(h:r.jJ G cs x){a:Ŀ Value}(f:a.length=r.size)(e:∀ j u,a.toArray[j]? = some u->cs[0+j]? = some u):cs=a:=by
 have g:=r.len h
 refine List.ext_getElem (by omega) λi c d=>?_
 have:=e i a[i] (by rw[ę,Ą d])
 rw[ļ,Ą c] at this
 exact Ŵ this
theorem YZ{α:Type}{r:Rp α}{G:Mem}{cs:Ŀ Value}{x:α}(h:r.jJ G cs x):AtK r G (λj u=>cs[j]? = some u) 0 x:=⟨cs,h,λj u a=>by rw[ļ]; exact a⟩
theorem wf_i8{x:Int}(h:(Lit.int .i8 x).wf=true):-128<=x/\x<=127:=by
 simp only[Lit.wf,Ē,Ģ] at h
 have a:i8.min = -128:=by decide
 have c:i8.max=127:=by decide
 omega
end
end Go.EL

