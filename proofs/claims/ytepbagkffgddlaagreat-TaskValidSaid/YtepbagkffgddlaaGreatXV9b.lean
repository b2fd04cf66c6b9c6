/- The law TaskValid holds for every input: a part of its proof (fY the code does, plain models, and fY they return). No condition. -/
import Derived.Test.YtepbagkffgddlaaGreatXV9a
set_option linter.unusedVariables false
set_option linter.unusedSimpArgs false
namespace Go.EL
open Go.IntKind (i8 i16 i32 i64 u8 u16 u32 u64)
open Go Go.RowKit Go.Proofs Go.MapKept
def mN{K V:Type}(r:Rp V)(G:Mem):K->Value->V->Prop:=λ_ u x=>r.er G [u] x
def jE(x:Int):Nat:=8000000+(if 0<=x then 2*x.toNat else 2*(-x).toNat+1)
theorem TF(x:Int):8000000<=jE x:=abt _ _
theorem Zw8{x y:Int}(h:jE x=jE y):x=y:=by unfold jE at h;split at h<;>split at h<;>omega
def Yy{α:Type}(r:Rp α)(e:TypeId)(T:Lo)(G:Mem):Int->Value->Ŀ α->Prop:=λk u l=>Δ r G u l/\Tok r.size e u l.length (T.get (jE k))
structure rT {α:Type}(T:Lo) (D:Ŀ (Int×Ŀ α)):Prop where
 high:∀i x,T.get i=some x->8000000<=i
 none:∀k,fi D k=none->T.get (jE k)=none
theorem rT.nil{α:Type}:rT [] ([]:Ŀ (Int×Ŀ α)):=⟨λi x h=>by simp[Lo.get]at h,λ_ _=>rfl⟩
section
variable {P:Program}{kt:TypeId}{K V:Type}{ky:Ky P kt K}{r:Rp V}{G G':Mem}
theorem Ù.mono{v:Value}{D:Ŀ (K×V)}{tk:ŀ Ow}(h:Ù ky (mN r G) v D tk)(a:Mem.le G G'):Ù ky (mN r G') v D tk:=h.imp λ_ _ _ h=>r.mono a h
end
section
variable {P:Program}{kt:TypeId}{α:Type}{ky:Ky P kt Int}{r:Rp α}{e:TypeId}{G G':Mem}{T:Lo}
theorem Ù.drop{v:Value}{D:Ŀ (Int×Ŀ α)}{tk:ŀ Ow}(h:Ù ky (Yy r e T G) v D tk):Ù ky (mN (Rp.sl r) G) v D tk:=h.imp λ_ _ u h=>⟨u,rfl,h.1⟩
variable {N:Nat}{Q:ï}{fr:Fr}{ops:Array Oper}{l:Ŀ Oper}{dst:ŀ Nat}{ty:TypeId}{pos:String}{af:Array Edge}{g:ŀ (Nat×Bool)}{w0:Bs}{G0:Mem}{L:Lo}
theorem y7{K V:Type}[DecidableEq K]:∀(D:Ŀ (K×V)) (k:K) (x:V) (j:K),fi (eV D k x) j=if k=j then some x else fi D j
 |[],k,x,j=>by simp only[eV,fi]
 |p::D,k,x,j=>by
  simp only[eV];split
  .rename_i h;subst h;simp only[fi];split<;>simp_all
  rename_i h;simp only[fi,y7 D k x j];split
  .rename_i h2;subst h2;rw[ā (λe=>h e.symm)]
  rfl
theorem rT.put{D:Ŀ (Int×Ŀ α)}(d:rT T D){k:Int}{c:ŀ Ow}{y:Ŀ α}:rT ((jE k,c)::T) (eV D k y):=by
 refine⟨λi x h=>?_,λj a=>?_⟩
 .rw[Lo.Zp]at h;split at h
  .rename_i e;rw[<-e];exact TF k
  exact d.high i x h
 rw[y7]at a;split at a
 .cases a
 rename_i h;rw[Lo.Zp,ā (λe=>h (Zw8 e))];exact d.none j a
end
theorem Zy6{α:Type}{mk:α->Value}(c:∀x y,mk x=mk y->x=y){n:Nat}{f g:Fin n->α}(h:õ mk n f=õ mk n g):f=g:=by funext i;have a:=xK mk n f i.isLt;have h2:=xK mk n g i.isLt;rw[h,h2]at a;exact(c _ _ (Ŧ a)).symm
theorem mapM_some{α β:Type}{f:α->ŀ β}:∀{l:Ŀ α},(∀x∈l,∃y,f x=some y)->∃ys,l.mapM f=some ys
 |[],_=>⟨[],rfl⟩
 |x::l,h=>by obtain⟨y,c⟩:=h x ß;obtain⟨ys,a⟩:=mapM_some (l:=l) (λz d=>h z (by simp[d]));exact⟨y::ys,by simp[List.mapM_cons,c,a]⟩
def Ky.int{P:Program}{kt:TypeId}{a:IntKind}(c:P.underlying kt=some (.int a)):Ky P kt Int where
 enc x:=.int a x
 ok x:=(Lit.int a x).wf=true
 inj h:=by cases h;rfl
 lit h:=⟨_,Go.Maps.keyOf_int_mk c h⟩
 keyed:=Go.Maps.int_keyed c
def Ky.arr{P:Program}{kt e:TypeId}{a:IntKind}{n:Nat}(j:P.underlying kt=some (.array n e))(v:P.underlying e=some (.int a))(q:P.keyType kt=true)(s:P.cellsOf kt=n)(k:P.cellsOf e=1)(B:laidOutB P=true)(f:kt<P.types.size)(p:P.keyTypeAt 2 kt=true):Ky P kt (Fin n->Int) where
 enc m:=.agg (õ (Value.int a) n m).toArray
 ok m:=∀i,(Lit.int a (m i)).wf=true
 inj h:=Zy6 (mk:=Value.int a) (λx y e=>by cases e;rfl) (by simpa using h)
 lit {m} h:=by
  have c:(õ (Value.int a) n m).length=n:=xx _ _ _;have g:(Value.agg (õ (Value.int a) n m).toArray).formed P kt=true:=by simp[Value.formed,j,s,c]
  obtain⟨d,u⟩:∃d,P.types.size=d+1:=⟨P.types.size-1,by have:=Nat.lt_of_le_of_lt (Ĝ _) f;omega⟩;have C:∃ys,(List.range n).mapM (λi=>P.keyLits P.types.size e (((õ (Value.int a) n m).drop (i*P.cellsOf e)).take (P.cellsOf e)))=some ys:=by
   refine mapM_some λi hi=>?_;have hi:i<n:=by simpa using hi
   have A:=xK (Value.int a) n m hi;have t:((õ (Value.int a) n m).drop (i*P.cellsOf e)).take (P.cellsOf e)=[.int a (m ⟨i,hi⟩)]:=by rw[k,lv,List.take_one,List.head?_drop,A];rfl
   rw[t,u];exact⟨[.int a (m ⟨i,hi⟩)],by simp[Program.keyLits,v,h ⟨i,hi⟩]⟩
  obtain⟨ys,r⟩:=C;refine⟨.string (keyBytes ys.flatten),?_⟩;have l:P.keyLits (P.types.size+1) kt (õ (Value.int a) n m)=some ys.flatten:=by simp only[Program.keyLits,j,s,c,if_true,r,Ğ]
  simp[keyOf,j,q,g,Value.cells,l]
 keyed:=Go.Maps.Keyed.of_law (deep_law_laid B (m:=2) ŉ f p (by rw[j]))
def eS(s:Ĳ)(i:Int):Int:=((s.data.getD i.toNat 0).toNat:Int)
def bytesOf(l:Ŀ Int):Ĳ:=l.foldl (λr n=>r.push (UInt8.ofNat n.toNat)) ByteArray.empty
section
variable {P:Program}{N:Nat}{fr:Fr}{S:Ξ}{dst:ŀ Nat}{ty:TypeId}{pos:String}{af:Array Edge}{g:ŀ (Nat×Bool)}{w0:Bs}{G0 G:Mem}{L:Lo}
theorem Y0.sE{t:TypeId}{x y:Operand}{s:Ĳ}{k:IntKind}{i:Int}(h:P.underlying t=some .string)(j:fr.ev x=some (.string s))(l:fr.ev y=some (.int k i))(hi:0<=i/\i<(s.size:Int)):
  Y0 P N ⟨dst,.index t x y,ty,pos,af,g⟩ fr S (.int .u8 (eS s i)):=λa w e _=>by
 have c:i.toNat<s.size:=ŉ
 have f:s[i.toNat]?=some (s.data.getD i.toNat 0):=by rw[getElem?_pos s i.toNat c];have d:i.toNat<s.data.size:=c;simp only[Array.getD,ŷ d];rfl
 simp[execOp,e.ev j,e.ev l,Instr.index,asIntOf,ē h,hi.1,f,eS]
theorem Vf(a b:Ĳ):(a.toList == b.toList)=decide (a=b):=by
 rw[ByteArray.toList_eq,ByteArray.toList_eq];obtain⟨⟨a⟩⟩:=a;obtain⟨⟨b⟩⟩:=b;by_cases h:a=b
 .subst h;simp
 have h2:¬(⟨⟨a⟩⟩:Ĳ)=⟨⟨b⟩⟩:=λe=>h (by cases e;rfl);simp[h]
theorem Y0.uD{t:TypeId}{x y:Operand}{s u:Ĳ}{b:TypeId}(d:P.underlying t=some .string)(a:fr.ev x=some (.string s))(c:fr.ev y=some (.string u)):Y0 P N ⟨dst,.binOp .eql t x y b,ty,pos,af,g⟩ fr S (.bool (decide (s=u))):=
 Y0.bin a c (ET _ _ _ _ _ _) λw=>by simp[binOp,Op.stringOp,Vf]
theorem Y0.Oy{t:TypeId}{x y:Operand}{s u:Ĳ}{b:TypeId}(d:P.underlying t=some .string)(a:fr.ev x=some (.string s))(c:fr.ev y=some (.string u)):Y0 P N ⟨dst,.binOp .neq t x y b,ty,pos,af,g⟩ fr S (.bool (decide (¬s=u))):=
 Y0.bin a c (ET _ _ _ _ _ _) λw=>by simp[binOp,Op.stringOp,Vf]
theorem ÿ.ints{k:IntKind}:∀{xs:Ŀ Int}{cs:Ŀ Value},ÿ (Rp.int k) G cs xs->cs=xs.map (Value.int k)
 |[],cs,h=>by simpa[ÿ]using h
 |y::ys,_,⟨c,d,e,a,f⟩=>by have a:c=[.int k y]:=a;rw[e,a,ÿ.ints f];rfl
theorem Y0.kQ{t d e:TypeId}{x:Operand}{v:Value}{xs:Ŀ Int}(C:P.underlying t=some (.slice e))(A:P.underlying e=some (.int .u8))(u:P.underlying d=some .string)(h:Δ (Rp.int .u8) G v xs)(D:fr.ev x=some v):
  Y0 P N ⟨dst,.convert t d x,ty,pos,af,g⟩ fr (St w0 G0 G L) (.string (bytesOf xs)):=λa w s B=>by
 obtain⟨p,cap,cs,rfl,c,h2,h3,q,r⟩:=h
 have i:=q.ints
 subst i
 have hr:(convert t d (.slice p xs.length cap)).run P w=.ok (.string (bytesOf xs)) w:=by
  rw[run_convert_bytes_string w t d e p xs.length cap C A u];cases p with
  |none=>
   have:xs=[]:=by
    cases xs with
    |nil=>rfl
    |cons y ys=>have:=h3 ß;cases this
   subst this;simp[Conv.bytesToString,bytesOf]
  |some n=>
   obtain⟨l,m,f⟩:=n;cases xs with
   |nil=>exact run_bytesToString w _ _ _ [] (by have:=aa2 (P:=P) w ⟨l,m,f⟩ [] (λj v k=>by simp at k);simpa using this)
   |cons y ys=>
   have:=h2 _ rfl (by simp only[Ę]at c;omega);dsimp only at this;subst this;refine run_bytesToString w _ _ _ (y::ys) ?_;have:=aa2 (P:=P) w ⟨l,m,none⟩ ((y::ys).map (Value.int .u8)) (λj v k=>by rw[oy];exact B.jj _ _ _ (r j v k));simpa using this
 simp[execOp,s.ev D,hr]
end
theorem Lx{z:Array Value}(c:0<z.size):∀n:Nat,(madeCells z (n*z.size)).toList=(List.replicate n z.toList).flatten
 |0=>by simp[madeCells]
 |n+1=>by
  rw[List.replicate_succ',List.flatten_append,List.flatten_cons,List.flatten_nil,ę,<-Lx c n];apply Ÿ;intro i;have a:(madeCells z (n*z.size)).toList.length=n*z.size:=by simp[madeCells]
  rw[List.getElem?_append,a];split
  .rename_i h;have d:i<(n+1)*z.size:=by rw[ō];omega
   simp[madeCells,h,d]
  rename_i h;by_cases h2:i<(n+1)*z.size
  .have h3:i-n*z.size<z.size:=by rw[ō]at h2;omega
   have e:i % z.size=i-n*z.size:=by
    have:i=(i-n*z.size)+z.size*n:=by rw[abA z.size n];omega
    rw[this,Nat.add_mul_mod_self_left,Nat.mod_eq_of_lt ŉ];rw[abA z.size n];omega
   simp[madeCells,h2,e,h3]
  have h3:¬i-n*z.size<z.size:=by rw[ō]at h2;omega
  rw[ń (by simp[madeCells];omega),ń ab0]
theorem ÿ.replicate{α:Type}{r:Rp α}{G:Mem}{c:Ŀ Value}{x:α}(h:r.er G c x):∀n:Nat,ÿ r G (List.replicate n c).flatten (List.replicate n x)
 |0=>rfl
 |n+1=>by rw[aam,aam,List.flatten_cons];exact⟨c,_,rfl,h,ÿ.replicate h n⟩
section
variable {P:Program}{N:Nat}{Q:ï}{fr:Fr}{ops:Array Oper}{l:Ŀ Oper}{dst:ŀ Nat}{ty:TypeId}{pos:String}{af:Array Edge}{g:ŀ (Nat×Bool)}
variable {w0:Bs}{G0 G:Mem}{L:Lo}{α:Type}{r:Rp α}{e:TypeId}{w:World}
theorem WL.wo{t:TypeId}{z:Value}{x y:Operand}{bytes:Nat}{k k':IntKind}{n:Int}{zx:α}(key:Nat)(C:ξ ops fr ⟨dst,.makeSlice t x y,ty,pos,af,g⟩ true)(B:Ω N dst)(E:P.underlying t=some (.slice e))(s:jo P e z r.size bytes)(d:z.cells.size=r.size)(A:bytes<=100000)(J:0<r.size)
  (c:r.er G z.cells.toList zx) (F:fr.ev x=some (.int k n)) (H:fr.ev y=some (.int k' n)) (m:0<=n/\n<=1000000)
  (kk:∀p tk,Β r e G (.slice p n.toNat n.toNat) (List.replicate n.toNat zx) tk->WL P N ops Q l (θ dst (.slice p n.toNat n.toNat) fr) (St w0 G0 G ((key,tk)::L))):WL P N ops Q (⟨dst,.makeSlice t x y,ty,pos,af,g⟩::l) fr (St w0 G0 G L):=by
 obtain⟨i,hi,I,q,u⟩:=s.parts
 refine WL.yr (Φ:=λv w=>∃p tk,v=.slice p n.toNat n.toNat/\Β r e G (.slice p n.toNat n.toNat) (List.replicate n.toNat zx) tk/\St w0 G0 G ((key,tk)::L) w) C (λa w f D=>?_) B (λv a w f ⟨p,tk,h,h2,h3⟩=>by subst h;exact kk p tk h2 a w f h3)
 have j:(i.bytes:Int)*n<=281474976710656:=by have h:(i.bytes:Int)<=100000:=ŉ;have:(i.bytes:Int)*n<=100000*1000000:=Int.mul_le_mul h m.2 m.1 ŉ;omega
 have hr:=run_make w t e i z E hi I k k' n n m.1 (ŝ _) j ŉ
 have:(execOp a.eval ⟨dst,.makeSlice t x y,ty,pos,af,g⟩).run P w=.ok (.value (.slice (some ⟨w.heap.size,0,none⟩) n.toNat n.toNat)) (w.alloc (.cells (madeCells z.cells (n.toNat*i.size)) e)):=by simp[execOp,f.ev F,f.ev H,hr]
 rw[this]
 refine⟨_,some ⟨w.heap.size,.cells (madeCells z.cells (n.toNat*i.size)) e (0,0),0⟩,rfl,?_,D.push key _⟩
 rw[q,<-d]
 refine⟨n.toNat,(madeCells z.cells (n.toNat*z.cells.size)).toList,[],ß,ß,rfl,?_,by simp[madeCells,d],by simp only[maxLen];omega,ß⟩
 rw[Lx ŉ]
 exact ÿ.replicate c _
theorem Y0.nilCheck{S:Ξ}{x:Operand}{a:Addr}(d:fr.ev x=some (.pointer (some a))):Y0 P N ⟨dst,.nilCheck x,ty,pos,af,g⟩ fr S (.pointer (some a)):=λb w c _=>by simp[execOp,c.ev d]
theorem St.CT{i b m n:Nat}{c:Array Value}{t:TypeId}(h:St w0 G0 G L w)(hi:L.get i=some ⟨b,.cells c t (0,0),m⟩)(D:w0.L.zero)(s:m<=n):
  St w0 G0 (Mem.row G b c m n) ((i,some ⟨b,.cells c t (0,0),n⟩)::L) w/\Mem.le G (Mem.row G b c m n):=by
 obtain⟨x,A,B⟩:=h.loc i _ hi
 have q:=Mem.VA (c:=c) (n:=n) B
 refine⟨⟨h.os,h.tape,h.output,h.drawn,h.size,h.block,Mem.le_trans h.base q,λb' o v f=>?_,λb' o v f=>?_,λj y l=>?_,λj k y z u d g=>?_⟩,q⟩
 .unfold Mem.row at f
  split at f
  .rename_i e
   obtain⟨d,_,_⟩:=e
   subst d
   rw[ŵ w b' o c t (0,0) x];exact f
  exact h.jj b' o v f
 .unfold Mem.row at f
  split at f
  .rename_i e
   obtain⟨d,_,_⟩:=e
   subst d
   exact .inr (A.elim (λ⟨y,e,C⟩=>.inr ⟨i,y,e,C,by rw[Lo.Bu D e];exact Ĝ _⟩) (λh=>.inl h))
  exact h.fresh b' o v f
 .rw[Lo.Zp]at l
  split at l
  .rename_i a
   subst a
   simp only[Đ]at l
   subst l
   refine⟨x,A,λk r=>?_⟩
   unfold Mem.row
   rw[if_neg (by dsimp only at r⊢;omega)]
   exact B k (ŋ s r)
  rename_i a
  obtain⟨F,H,I⟩:=h.loc j y l
  refine⟨F,H,λk r=>?_⟩
  have E:y.b≠b:=λe=>h.Ú i j _ y a hi l e.symm
  unfold Mem.row
  rw[ā (λe=>E e.1)]
  exact I k r
 rw[Lo.Zp]at d g
 split at d<;>split at g
 .omega
 .rename_i a p
  simp only[Đ]at d
  subst d
  exact h.Ú i k ⟨b,.cells c t (0,0),m⟩ z p hi g
 .rename_i a p
  simp only[Đ]at g
  subst g
  exact h.Ú j i y ⟨b,.cells c t (0,0),m⟩ (λe=>a e.symm) d hi
 exact h.Ú j k _ _ u d g
theorem Β.qc{v:Value}{xs:Ŀ α}{tk:ŀ Ow}{key:Nat}(h:Β r e G v xs tk)(c:L.get key=tk)(A:w0.L.zero){w:World}(f:St w0 G0 G L w):
  ∃G' d,Mem.le G G'/\Δ r G' v xs/\Tok r.size e v xs.length d/\St w0 G0 G' ((key,d)::L) w/\(∀Gx L' w',Mem.le G Gx->Mem.le G' Gx->St w0 G0 Gx ((key,d)::L') w'->St w0 G0 G ((key,tk)::L') w'):=by
 cases tk with
 |none=>
  obtain⟨rfl,p,rfl,hp⟩:=h
  exact⟨G,none,Mem.le_refl _,⟨p,0,[],rfl,ß,hp,λh=>by simp at h,rfl,λj u h=>by simp at h⟩,⟨p,rfl⟩,f.weaken (Lo.Zi c (Lo.vB _)),λGx L' w' B _ h2=>h2.eI f.base B⟩
 |some x=>
  obtain⟨cap,cs,rest,rfl,h2,h3,l,C,m,h7⟩:=h
  obtain⟨g,J,I⟩:=x
  dsimp only at h2 h3
  subst h2 h3
  have E:=l.len
  obtain⟨F,k2⟩:=f.CT (i:=key) (n:=xs.length*r.size) c A (Ĝ _)
  refine⟨_,some ⟨g,.cells (cs++rest).toArray e (0,0),xs.length*r.size⟩,k2,⟨_,cap,cs,rfl,by simp only[maxLen]at m;omega,λa D _=>by cases D;rfl,λ_=>rfl,l.mono k2,λj u s=>?_⟩,⟨cap,_,rfl,rfl,rfl,by simpa using C,m,h7⟩,F,λGx L' w' t H y=>?_⟩
  .have q:=(ċ.1 s).1
   show Mem.row G g _ 0 _ g (0+j)=some u
   rw[ņ,Mem.zy (Ĝ _) (by rw[<-E];exact q),Ġ,Ė q]
   exact s
  exact(y.eI f.base t).tp (λk=>(f.loc key _ c).2.2 k (Ĝ _))
theorem WL.Dk{op:Op}{v c:Value}{xs:Ŀ α}{tk:ŀ Ow}(key:Nat)(L':Lo)(h:Β r e G v xs tk)(m:L.get key=tk)(p:w0.L.zero)(x:ξ ops fr ⟨dst,op,ty,pos,af,g⟩ true)(t:Ω N dst)
  (A:∀f G',Mem.le G G'->Δ r G' v xs->YR P N ⟨dst,op,ty,pos,af,g⟩ fr (St w0 G0 G' ((key,f)::L)) (λu w'=>u=c/\∃d,Mem.le G' d/\St w0 G0 d ((key,f)::L') w'))
  (k:WL P N ops Q l (θ dst c fr) (St w0 G0 G ((key,tk)::L'))):WL P N ops Q (⟨dst,op,ty,pos,af,g⟩::l) fr (St w0 G0 G L):=by
 refine WL.yr (Φ:=λu w'=>u=c/\St w0 G0 G ((key,tk)::L') w') x (λa w j y=>?_) t (λu a w j ⟨i,h2⟩=>by subst i;exact k a w j h2)
 obtain⟨G',f,i,h2,h3,q,s⟩:=h.qc m p y
 exact(A f G' i h2 a w j q).mono λu w' ⟨B,d,n,C⟩=>⟨B,s d L' w' (Mem.le_trans i n) n C⟩
theorem WL.uV{op:Op}{f:FuncId}{args j:Array Value}{m:Lo}{pre:Mem->Prop}{v c:Value}{xs:Ŀ α}{tk:ŀ Ow}(key:Nat)(p:Β r e G v xs tk)(n:L.get key=tk)(C:w0.L.zero)(H:ξ ops fr ⟨dst,op,ty,pos,af,g⟩ true)(F:Ω N dst)
  (h:∀S,YC P N ⟨dst,op,ty,pos,af,g⟩ fr S f j) (R:eR P f args m pre (λ_ L' v=>L'=m/\v=c)) (e':j=args) (hp:∀G',Mem.le G G'->Δ r G' v xs->pre G')
  (D:Lo.sub m L) (d:∀i,i∈m.map (·.1)->m.get i=L.get i/\key≠i) (I:w0.L.zero)
  (k:WL P N ops Q l (θ dst c fr) (St w0 G0 G L)):WL P N ops Q (⟨dst,op,ty,pos,af,g⟩::l) fr (St w0 G0 G L):=by
 refine WL.Dk key L p n C H F (λT G' t A a w E y=>?_) (WL.ö (λw y=>y.weaken (λi x q=>?_)) k)
 .exact (YC.D2 (h _) R e' (hp G' t A) (λi x q=>by
   have hi:=Lo.Fb q;rw[Lo.Zp,ā (d i hi).2];exact D i x q) (λi hi=>by rw[Lo.Zp,ā (d i hi).2];exact(d i hi).1) I a w E y).mono λu w' ⟨s,J,K,O⟩=>⟨O,s,J,K⟩
 rw[Lo.Zp]
 split
 .rename_i B;subst B;rw[<-n];exact q
 exact q
end
section
variable {P:Program}{N:Nat}{Q:ï}{fr:Fr}{S:Ξ}{ops:Array Oper}{l:Ŀ Oper}{dst:ŀ Nat}{ty:TypeId}{pos:String}{af:Array Edge}{id:Nat}{y:Code}{op:Op}{v:Value}{x:Operand}
theorem nx(h:WC P N y Q fr S):WL P N ops (Exit.then (y.wp P Q) Q) [] fr S:=h
theorem sr(h:WL P N l.toArray (Exit.then (y.wp P Q) Q) l fr S):WC P N (.seq (.region id l.toArray false) y) Q fr S:=WC.seq (WC.region h)
theorem nr(h:WL P N l.toArray (Exit.then (y.wp P Q) Q) l fr S):WL P N ops (Exit.then ((Code.seq (.region id l.toArray false) y).wp P Q) Q) [] fr S:=nx (sr h)
theorem yy(h:Y0 P N ⟨dst,op,ty,pos,af,none⟩ fr S v)(a:Ω N dst)(k:WL P N ops Q l (θ dst v fr) S):WL P N ops Q (⟨dst,op,ty,pos,af,none⟩::l) fr S:=WL.rf Zh h a k
theorem mv(h:fr.ev x=some v)(a:Ω N dst)(k:WL P N ops Q l (θ dst v fr) S):WL P N ops Q (⟨dst,.move x,ty,pos,af,none⟩::l) fr S:=yy (Y0.move h) a k
theorem sg(h:fr.ev x=some v)(a:Ω N dst)(k:WL P N ops Q l (θ dst v fr) S):WL P N ops Q (⟨dst,.assign x,ty,pos,af,none⟩::l) fr S:=yy (Y0.assign h) a k
theorem sf{j d:Nat}(a:(ops[j]?).bind (·.dst)=some d)(h2:fr.get d=some (.bool true))(c:Ω N dst)(k:WL P N ops Q l (θ dst undef fr) S):WL P N ops Q (⟨dst,op,ty,pos,af,some (j,false)⟩::l) fr S:=WL.skip (Bc a h2) c k
theorem gy{j d:Nat}{c:Bool}(a:(ops[j]?).bind (·.dst)=some d)(h2:fr.get d=some (.bool c))(h:Y0 P N ⟨dst,op,ty,pos,af,some (j,c)⟩ fr S v)(e:Ω N dst)(k:WL P N ops Q l (θ dst v fr) S):WL P N ops Q (⟨dst,op,ty,pos,af,some (j,c)⟩::l) fr S:=WL.rf (rV a h2) h e k
theorem cn{Bt:Ξ}{w0:Bs}{G0 G:Mem}{L:Lo}{fs:Ŀ Bool}{Ι:Fr}(h:∀G',Mem.le G G'->Y0 P N ⟨dst,op,ty,pos,af,none⟩ (Ι++fr) (St w0 G0 G' L) v)(k:γ P N Q fr w0 G0 G L ops Bt fs l (θ dst v Ι) []):γ P N Q fr w0 G0 G L ops Bt (false::fs) (⟨dst,op,ty,pos,af,none⟩::l) Ι []:=γ.y0 Zh h k
theorem cu{Bt:Ξ}{w0:Bs}{G0 G:Mem}{L:Lo}{fs:Ŀ Bool}{Ι:Fr}{Ρ:jr}(h:∀u G',Mem.le G G'->Y0 P N ⟨dst,op,ty,pos,af,none⟩ (ς Ρ u++(Ι++fr)) (St w0 G0 G' L) v)(k:γ P N Q fr w0 G0 G L ops Bt fs l (θ dst v Ι) Ρ):γ P N Q fr w0 G0 G L ops Bt (false::fs) (⟨dst,op,ty,pos,af,none⟩::l) Ι Ρ:=γ.OY (λ_=>Zh) h k
theorem sk{j d:Nat}(a:(ops[j]?).bind (·.dst)=some d)(h2:fr.get d=some (.bool false))(c:Ω N dst)(k:WL P N ops Q l (θ dst undef fr) S):WL P N ops Q (⟨dst,op,ty,pos,af,some (j,true)⟩::l) fr S:=WL.skip (K6 a h2) c k
end
section
variable {P:Program}{N:Nat}{Q:ï}{fr:Fr}{ops:Array Oper}{l:Ŀ Oper}{dst:ŀ Nat}{ty:TypeId}{pos:String}{af:Array Edge}{g:ŀ (Nat×Bool)}{w0:Bs}{G0 G:Mem}{L:Lo}
theorem ÿ.C8{k:IntKind}:∀xs:Ŀ Int,ÿ (Rp.int k) G (xs.map (Value.int k)) xs
 |[]=>rfl
 |x::xs=>⟨[.int k x],xs.map (Value.int k),rfl,rfl,ÿ.C8 xs⟩
end
theorem UZ(pre sub post:Ŀ Value):∀j v,sub.toArray[j]?=some v->(pre++(sub++post)).toArray[pre.length+j]?=some v:=λj v h=>by rw[Ġ]at h⊢;rw[ģ ŉ,aat,Ė (ċ.1 h).1];exact h
section
variable {P:Program}{N:Nat}{Q:ï}{fr:Fr}{w0:Bs}{G0 G:Mem}{L:Lo}{ops:Array Oper}{ty:TypeId}{pos:String}{af:Array Edge}{g:ŀ (Nat×Bool)}{fs:Ŀ Bool}{l:Ŀ Oper}{Ι:Fr}{Ρ:jr}{d:Nat}{op:Op}{φ:Mem->Value->Prop}
theorem γ.r9{Bt:Ξ}{f:FuncId}(n:∀u,ξ ops (ς Ρ u++(Ι++fr)) ⟨some d,op,ty,pos,af,g⟩ true)(p:∀v c e,Mem.le c e->φ c v->φ e v)
  (h:∀u (G':Gx),Mem.le G G'.m->ñ ops ⟨some d,op,ty,pos,af,g⟩ Ρ u G'->∃args a pre,(∀S,YC P N ⟨some d,op,ty,pos,af,g⟩ (ς Ρ u++(Ι++fr)) S f a)/\iC P f args pre φ/\a=args/\pre G'.m)
  (k:γ P N Q fr w0 G0 G L ops Bt fs l Ι ((d,λv g=>φ g.m v)::Ρ)):γ P N Q fr w0 G0 G L ops Bt (false::fs) (⟨some d,op,ty,pos,af,g⟩::l) Ι Ρ:=
 γ.oW d _ rfl (λv _ _ h=>p v _ _ h.1) (λu G' i q=>by
  obtain⟨args,a,pre,j,h2,h3,m⟩:=h u G' i.1 q;exact gE.call (n u) (j _) h2 h3 m) k
theorem γ.tv{Bt:Ξ}(p:∀u,ξ ops (ς Ρ u++(Ι++fr)) ⟨some d,op,ty,pos,af,g⟩ true)(q:∀v e f,Mem.le e f->φ e v->φ f v)
  (h:∀u (G':Gx),Mem.le G G'.m->ñ ops ⟨some d,op,ty,pos,af,g⟩ Ρ u G'->∃c,Y0 P N ⟨some d,op,ty,pos,af,g⟩ (ς Ρ u++(Ι++fr)) (St w0 G0 G'.m L) c/\φ G'.m c)
  (k:γ P N Q fr w0 G0 G L ops Bt fs l Ι ((d,λv g=>φ g.m v)::Ρ)):γ P N Q fr w0 G0 G L ops Bt (false::fs) (⟨some d,op,ty,pos,af,g⟩::l) Ι Ρ:=
 γ.oW d _ rfl (λv _ _ h=>q v _ _ h.1) (λu G' i r=>by
  obtain⟨c,m,h2⟩:=h u G' i.1 r;exact .inr ⟨p u,λa w n j=>by rw[m a w n j.st];exact⟨G',Gx.le_refl _,j,h2⟩⟩) k
theorem γ.D0{Bt:Ξ}{o:Oper}{c:Value}(d:∀u,ξ ops (ς Ρ u++(Ι++fr)) o true)
  (h:∀u (G':Gx),Mem.le G G'.m->ñ ops o Ρ u G'->Y0 P N o (ς Ρ u++(Ι++fr)) (St w0 G0 G'.m L) c)
  (k:γ P N Q fr w0 G0 G L ops Bt fs l (θ o.dst c Ι) Ρ):γ P N Q fr w0 G0 G L ops Bt (false::fs) (o::l) Ι Ρ:=
 γ.Na (λu G' a e=>gE.y0 (d u) (h u G' a.1 e)) k
theorem γ.nt{Bt:Ξ}{o:Oper}{c:Value}(f:∀u,ξ ops (ς Ρ u++(Ι++fr)) o true)
  (h:∀u (G':Gx),Mem.le G G'.m->ñ ops o Ρ u G'->Y0 P N o (ς Ρ u++(Ι++fr)) (λ_=>True) c)
  (k:γ P N Q fr w0 G0 G L ops Bt fs l (θ o.dst c Ι) Ρ):γ P N Q fr w0 G0 G L ops Bt (true::fs) (o::l) Ι Ρ:=.inl ⟨c,λu G' d g=>⟨f u,λa w e _=>h u G' d.1 g a w e trivial⟩,k⟩
def tn(v:Value)(i:Nat):Value:=match v with|.tuple vs=>vs.getD i undef|v=>v
theorem γ.ns{Bt:Ξ}{x:Operand}{i kk:Nat}(p:((⟨some d,.extract x i,ty,pos,af,g⟩:Oper).looksAt ops).contains kk=true)(n:∀u,ξ ops (ς Ρ u++(Ι++fr)) ⟨some d,.extract x i,ty,pos,af,g⟩ true)(q:∀v a c,Mem.le a c->φ a v->φ c v)
  (h:∀u (G':Gx),Mem.le G G'.m->ñ ops ⟨some d,.extract x i,ty,pos,af,g⟩ Ρ u G'->∃vs v,u kk=.tuple vs/\(ς Ρ u++(Ι++fr)).ev x=some (.tuple vs)/\vs[i]?=some v/\φ G'.m v)
  (k:γ P N Q fr w0 G0 G L ops Bt fs l Ι ((d,λv g=>φ g.m v)::Ρ)):γ P N Q fr w0 G0 G L ops Bt (true::fs) (⟨some d,.extract x i,ty,pos,af,g⟩::l) Ι Ρ:=
 .inr ⟨d,_,λu=>tn (u kk) i,rfl,λv _ _ h=>q v _ _ h.1,λu u' h=>by simp only;rw[h kk (by simpa using p)],λu G' f r=>by
  obtain⟨vs,v,j,h2,h3,m⟩:=h u G' f.1 r;have e:tn (u kk) i=v:=by rw[j];simp only[tn,ž,h3,Ś]
  dsimp only;rw[e];exact⟨n u,Y0.extract h2 h3,m⟩,k⟩
theorem WL.mQ{g':Gx}{b:Nat}{c:Obj}(f:g'.x b=some (d,c))(k:WL P N ops Q l fr (gr w0 G0 ⟨g'.m,λk=>if k=b then none else g'.x k⟩ ((d,some ⟨b,c,0⟩)::L))):WL P N ops Q l fr (gr w0 G0 g' L):=λa w e g=>k a w e (g.mQ f)
theorem WL.DR{g':Gx}(k:WL P N ops Q l fr (St w0 G0 g'.m L)):WL P N ops Q l fr (gr w0 G0 g' L):=λa w c d=>k a w c d.st
theorem γ.nF{d0 d1:Nat}{a c:Value->Gx->Prop}(k:∀f h (G':Gx),Mem.le G G'.m->a f G'->c h G'->WL P N ops (NX Q) l ((d0,f)::(d1,h)::(Ι++fr)) (gr w0 G0 G' L)):γ P N Q fr w0 G0 G L ops (λ_=>True) [] l Ι [(d0,a),(d1,c)]:=λu g d e=>eY.of (k (u d0) (u d1) g d.1 e.1 e.2.1)
theorem γ.yD{d0 d1 d2:Nat}{a c d:Value->Gx->Prop}(k:∀h i j (G':Gx),Mem.le G G'.m->a h G'->c i G'->d j G'->WL P N ops (NX Q) l ((d0,h)::(d1,i)::(d2,j)::(Ι++fr)) (gr w0 G0 G' L)):γ P N Q fr w0 G0 G L ops (λ_=>True) [] l Ι [(d0,a),(d1,c),(d2,d)]:=λu g e f=>eY.of (k (u d0) (u d1) (u d2) g e.1 f.1 f.2.1 f.2.2.1)
theorem γ.tj{d0 d1 d2 d3:Nat}{a c d e:Value->Gx->Prop}(k:∀i j m n (G':Gx),Mem.le G G'.m->a i G'->c j G'->d m G'->e n G'->WL P N ops (NX Q) l ((d0,i)::(d1,j)::(d2,m)::(d3,n)::(Ι++fr)) (gr w0 G0 G' L)):γ P N Q fr w0 G0 G L ops (λ_=>True) [] l Ι [(d0,a),(d1,c),(d2,d),(d3,e)]:=λu g h f=>eY.of (k (u d0) (u d1) (u d2) (u d3) g h.1 f.1 f.2.1 f.2.2.1 f.2.2.2.1)
theorem γ.yE{d0 d1 d2 d3 d4:Nat}{c d e f h:Value->Gx->Prop}(k:∀j m n p q (G':Gx),Mem.le G G'.m->c j G'->d m G'->e n G'->f p G'->h q G'->WL P N ops (NX Q) l ((d0,j)::(d1,m)::(d2,n)::(d3,p)::(d4,q)::(Ι++fr)) (gr w0 G0 G' L)):γ P N Q fr w0 G0 G L ops (λ_=>True) [] l Ι [(d0,c),(d1,d),(d2,e),(d3,f),(d4,h)]:=λu g i a=>eY.of (k (u d0) (u d1) (u d2) (u d3) (u d4) g i.1 a.1 a.2.1 a.2.2.1 a.2.2.2.1 a.2.2.2.2.1)
theorem γ.nG{d0 d1 d2 d3 d4 d5:Nat}{c d e f h i:Value->Gx->Prop}(k:∀m n p q r s (G':Gx),Mem.le G G'.m->c m G'->d n G'->e p G'->f q G'->h r G'->i s G'->WL P N ops (NX Q) l ((d0,m)::(d1,n)::(d2,p)::(d3,q)::(d4,r)::(d5,s)::(Ι++fr)) (gr w0 G0 G' L)):γ P N Q fr w0 G0 G L ops (λ_=>True) [] l Ι [(d0,c),(d1,d),(d2,e),(d3,f),(d4,h),(d5,i)]:=λu g j a=>eY.of (k (u d0) (u d1) (u d2) (u d3) (u d4) (u d5) g j.1 a.1 a.2.1 a.2.2.1 a.2.2.2.1 a.2.2.2.2.1 a.2.2.2.2.2.1)
theorem Sx{a:Act}{F:Fr}{parts:Array (Nat×Operand)}{vs:Array (Nat×Value)}(h:Rel N F a)(d:F.iy (parts.toList.map (·.2))=some (vs.toList.map (·.2)))(c:parts.toList.map (·.1)=vs.toList.map (·.1)):(parts.map λp=>(p.1,a.eval p.2))=vs:=by
 have f:=h.iy _ _ d;apply ź;simp only[aaJ];have g:parts.toList.length=vs.toList.length:=by have:=Ē List.length c;simpa using this
 generalize parts.toList=ps at *;generalize vs.toList=e at *;clear d;induction ps generalizing e with
 |nil=>cases e<;>simp_all
 |cons p ps i=>
  cases e with
  |nil=>simp at g
  |cons q e=>
   simp only[ġ,Œ]at c f⊢;exact⟨abV c.1 f.1,i e c.2 f.2 (by simpa using g)⟩
def jq{α:Type}(r:Rp α)(G:Mem)(v:Value)(_:Unit)(xs:Ŀ α):Prop:=Δ r G v xs
theorem jq.mono{α:Type}{r:Rp α}{G G':Mem}{v:Value}{u:Unit}{xs:Ŀ α}(h:jq r G v u xs)(a:Mem.le G G'):jq r G' v u xs:=Δ.mono h a
theorem γ.CY{Bt:Ξ}{α:Type}{r:Rp α}{t e:TypeId}{len:Nat}{parts:Array (Nat×Operand)}(xs:Ŀ α)(H:∀u,ξ ops (ς Ρ u++(Ι++fr)) ⟨some d,.buildSlice t len parts,ty,pos,af,g⟩ true)(m:xs.length=len)(A:len<=small)
  (h:∀u (G':Gx),Mem.le G G'.m->ñ ops ⟨some d,.buildSlice t len parts,ty,pos,af,g⟩ Ρ u G'->∃vs:Array (Nat×Value),∃cs:Ŀ Value,(ς Ρ u++(Ι++fr)).iy (parts.toList.map (·.2))=some (vs.toList.map (·.2))/\parts.toList.map (·.1)=vs.toList.map (·.1)/\
   (∀w,(Instr.buildSlice t len vs).run P w=.ok (.slice (some ⟨w.heap.size,0,none⟩) len len) (w.alloc (.cells cs.toArray e)))/\ÿ r G'.m cs xs)
  (k:γ P N Q fr w0 G0 G L ops Bt fs l Ι ((d,λv g=>∃p u,v=.slice p len len/\jq r g.m (.slice p len len) u xs)::Ρ)):γ P N Q fr w0 G0 G L ops Bt (false::fs) (⟨some d,.buildSlice t len parts,ty,pos,af,g⟩::l) Ι Ρ:=
 γ.oW d _ rfl (λv _ _ f ⟨p,c,s,h2⟩=>⟨p,c,s,h2.mono f.1⟩) (λu G' f q=>by
  obtain⟨vs,cs,s,h2,h3,B⟩:=h u G' f.1 q;refine .inr ⟨H u,λa w y C=>?_⟩;have E:(parts.map λ(i,x)=>(i,a.eval x))=vs:=Sx y s h2;have:(execOp a.eval ⟨some d,.buildSlice t len parts,ty,pos,af,g⟩).run P w=.ok (.value (.slice (some ⟨w.heap.size,0,none⟩) len len)) (w.alloc (.cells cs.toArray e)):=by simp only[execOp,E];simp[h3 w]
  rw[this];have F:=B.len;have J:St ⟨w,[]⟩ G'.m G'.m [] w:=Hp.st (C.st.hp (Lo.Zq _));have K:=J.push 0 (.cells cs.toArray e);obtain⟨O,D⟩:=K.qW (i:=0) (n:=cs.length) rfl rfl (Ĝ _);have R:=(O.weaken (Lo.Zq _)).kH;refine⟨⟨_,G'.x⟩,⟨D,λ_ _ h=>h⟩,C.ext R,some ⟨w.heap.size,0,none⟩,(),rfl,?_⟩;refine⟨some ⟨w.heap.size,0,none⟩,len,cs,by rw[m],⟨ŉ,by simp only[small]at A;omega⟩,λa y _=>by cases y;rfl,λ_=>rfl,B.mono D,λj u q=>?_⟩;have I:=(ċ.1 q).1;show Mem.row G'.m w.heap.size _ 0 _ w.heap.size (0+j)=some u;rw[ņ,Mem.zy (Ĝ _) I,Ġ];exact q) k
theorem γ.ti{l:Ŀ Oper}{Ι:Fr}{d0 d1 d2 d3:Nat}{post0 post1 post2 post3:Mem->Value->Prop}(k:∀e f h i G',Mem.le G G'->post0 G' e->post1 G' f->post2 G' h->post3 G' i->WL P N ops (NX Q) l ((d0,e)::(d1,f)::(d2,h)::(d3,i)::(Ι++fr)) (St w0 G0 G' L)):γ P N Q fr w0 G0 G L ops (λ_=>True) [] l Ι [(d0,λv g=>post0 g.m v),(d1,λv g=>post1 g.m v),(d2,λv g=>post2 g.m v),(d3,λv g=>post3 g.m v)]:=λu g d c=>eY.of λa w j m=>
 k (u d0) (u d1) (u d2) (u d3) g.m d.1 c.1 c.2.1 c.2.2.1 c.2.2.2.1 a w j m.st
end
def Ak{α β:Type}(P:Program)(A:Mem->Ŀ Value->α->Prop)(R:Mem->Value->β->Prop)(G:Mem)(v:Value)(m:α->Cq β):Prop:=
 ∃f cap,v=.func (.func f) #[] cap/\Enters P f/\∀vs a x,(m a).ω x->iC P f (vs.toArray++cap) (λG'=>Mem.le G G'/\A G' vs a) (λG' u=>R G' u x)
section
variable {α β:Type}{P:Program}{A:Mem->Ŀ Value->α->Prop}{R:Mem->Value->β->Prop}{G G':Mem}{v:Value}{m:α->Cq β}
theorem Ak.mono(h:Ak P A R G v m)(c:Mem.le G G'):Ak P A R G' v m:=by obtain⟨f,cap,e,h2,h3⟩:=h;exact⟨f,cap,e,h2,λvs a x g w d hi hp=>h3 vs a x g w d hi ⟨Mem.le_trans c hp.1,hp.2⟩⟩
end
section
variable {α β:Type}{P:Program}{N:Nat}{Q:ï}{fr:Fr}{ops:Array Oper}{l:Ŀ Oper}{dst:ŀ Nat}{ty:TypeId}{pos:String}{af:Array Edge}{g:ŀ (Nat×Bool)}{w0:Bs}{G0 G:Mem}{L:Lo}
variable {A:Mem->Ŀ Value->α->Prop}{R:Mem->Value->β->Prop}{v:Value}{m:α->Cq β}
theorem St.gA{key b:Nat}{c:Array Value}{t:TypeId}{w:World}(h:St w0 G0 G L w)(a:L.get key=some ⟨b,.cells c t (0,0),0⟩)(e:w0.L.get key=none):
  ∃G',Mem.le G G'/\(∀j u,c[j]?=some u->G' b j=some u)/\(∀j,G b j=none)/\St w0 G0 G' ((key,some ⟨b,.cells c t (0,0),c.size⟩)::L) w:=by
 obtain⟨g,k2⟩:=h.qW (i:=key) (n:=c.size) a e (Ĝ _)
 refine⟨_,k2,λj u d=>?_,λj=>(h.loc key _ a).2.2 j (Ĝ _),g⟩
 have f:=(ĕ.1 d).1
 rw[Mem.zy (Ĝ _) f]
 exact d
theorem WC.gA{c':Code}{b:Nat}{c:Array Value}{t:TypeId}(key:Nat)(d:L.get key=some ⟨b,.cells c t (0,0),0⟩)(e:w0.L.get key=none)
  (k:∀G',Mem.le G G'->(∀j u,c[j]?=some u->G' b j=some u)->(∀j,G b j=none)->WC P N c' Q fr (St w0 G0 G' ((key,some ⟨b,.cells c t (0,0),c.size⟩)::L))):WC P N c' Q fr (St w0 G0 G L):=λa w h i=>by
 obtain⟨G',f,h2,h3,g⟩:=i.gA d e
 exact k G' f h2 h3 a w h g
theorem At.box{r:Rp α}{b:Nat}{cs:Ŀ Value}{x:α}{c:Array Value}(a:∀j u,c[j]?=some u->G b j=some u)(e:c=cs.toArray)(h:r.er G cs x):At r G b 0 x:=⟨cs,h,λj u d=>by
 subst e;rw[ņ];exact a j u (by rw[Ġ];exact d)⟩
end
def wS{α β:Type}(P:Program)(A:Mem->Ŀ Value->α->Prop)(R:Mem->Value->β->Prop)(G:Mem)(v:Value)(_:Unit)(m:α->Cq β):Prop:=Ak P A R G v m
theorem wS.mono{α β:Type}{P:Program}{A:Mem->Ŀ Value->α->Prop}{R:Mem->Value->β->Prop}{G G':Mem}{v:Value}{u:Unit}{m:α->Cq β}(h:wS P A R G v u m)(a:Mem.le G G'):wS P A R G' v u m:=Ak.mono h a
theorem cells_one{v:Value}(h:v.oneCell'=true):v.cells = #[v]:=by
 cases v<;>first|rfl|(simp[Value.oneCell']at h)
theorem iC.pre{P:Program}{f:FuncId}{args:Array Value}{pre a:Mem->Prop}{post:Mem->Value->Prop}(h:iC P f args pre post)(hp:∀G,a G->pre G):iC P f args a post:=λw G hi c=>h w G hi (hp G c)
section
variable {P:Program}{N:Nat}{Q:ï}{fr:Fr}{ops:Array Oper}{l:Ŀ Oper}{dst:ŀ Nat}{ty:TypeId}{pos:String}{af:Array Edge}{g:ŀ (Nat×Bool)}{w0:Bs}{G0 G:Mem}{L:Lo}
theorem WL.ik{t:TypeId}{x:Operand}{v:Value}(i:Nat)(d:v.oneCell'=true)(c:ξ ops fr ⟨dst,.box t x,ty,pos,af,g⟩ true)(e:fr.ev x=some v)(a:Ω N dst)
  (k:∀b,WL P N ops Q l (θ dst (.pointer (some ⟨b,0,none⟩)) fr) (St w0 G0 G ((i,some ⟨b,.cells [v].toArray t (0,0),0⟩)::L))):WL P N ops Q (⟨dst,.box t x,ty,pos,af,g⟩::l) fr (St w0 G0 G L):=
 WL.box i c e a λb=>by rw[cells_one d];exact k b
end
def Ky.str{P:Program}{kt:TypeId}(a:P.underlying kt=some .string):Ky P kt Ĳ where
 enc x:=.string x
 ok x:=x.size<=1000000
 inj h:=by cases h;rfl
 lit h:=⟨_,Go.WideMaps.keyOf_string_mk a (by simp only[maxLen];omega)⟩
 keyed:=Go.Maps.string_keyed a
section
variable {P:Program}{kt:TypeId}{K V:Type} [DecidableEq K] {ky:Ky P kt K}{N:Nat}{fr:Fr}{dst:ŀ Nat}{ty:TypeId}{pos:String}{af:Array Edge}{g:ŀ (Nat×Bool)}{w0:Bs}{G0 G:Mem}{L:Lo}
theorem Y0.lE{r:Rp V}{mk:V->Value}{t e:TypeId}{m x:Operand}{v:Value}{D:Ŀ (K×V)}{tk:ŀ Ow}{k:K}(key:Nat)(zx:V)(f:∀{val y},r.er G [val] y->val=mk y)(s:P.underlying t=some (.map kt e))(A:∀w,(zeroValue e).run P w=.ok (mk zx) w)(h:Ù ky (mN r G) v D tk)(d:L.get key=tk)
  (p:fr.ev m=some v) (u:fr.ev x=some (ky.enc k)) (n:ky.ok k):Y0 P N ⟨dst,.lookup t m x false,ty,pos,af,g⟩ fr (St w0 G0 G L) (mk ((fi D k).getD zx)):=λa w i q=>by
 obtain⟨val,hr,l⟩:=run_get false s A h d n w q
 have:(execOp a.eval ⟨dst,.lookup t m x false,ty,pos,af,g⟩).run P w=.ok (.value val) w:=by simp[execOp,i.ev p,i.ev u,hr]
 rw[this]
 rcases l with ⟨c,rfl⟩|⟨y,c,j⟩
 .rw[c];rfl
 rw[c,f j];rfl
theorem LU{G:Mem}{val:Value}{y:Bool}(h:Rp.bool.er G [val] y):val=.bool y:=by replace h:[val]=[Value.bool y]:=h;simpa using h
theorem U3{G:Mem}{a:IntKind}{val:Value}{y:Int}(h:(Rp.int a).er G [val] y):val=.int a y:=by replace h:[val]=[Value.int a y]:=h;simpa using h
end
def Gx.kn(g:Gx)(k:ŀ Nat)(d:Nat)(tk:ŀ Ow)(G':Mem):Gx:=
 ⟨G',λb=>if tk.any (λy=>Nat.beq y.b b)=true then tk.map (λy=>(d,y.o))else match g.x b with|some p=>if k=some p.1 then none else some p|none=>none⟩
def Gx.drop(g:Gx)(tk:ŀ Ow):Gx:=⟨g.m,λb=>if tk.any (λy=>Nat.beq y.b b)=true then none else g.x b⟩
theorem um{tk:ŀ Ow}{b:Nat}:tk.any (λy=>Nat.beq y.b b)=true↔∃y,tk=some y/\y.b=b:=by
 cases tk with
 |none=>simp
 |some y=>simp
section
variable {w0:Bs}{G0:Mem}{L:Lo}
theorem gr.sA{g:Gx}{G':Mem}{w w':World}{k:ŀ Nat}{n:Lo}{i0 d:Nat}{tk:ŀ Ow}(h:gr w0 G0 g L w)(e:Ext w g.m n w' G' [(i0,tk)])
  (f:∀i y,n.get i=some y->∃j o,k=some j/\g.x y.b=some (j,o)) (Q:∀y,tk=some y->y.m=0):gr w0 G0 (g.kn k d tk G') L w'/\Gx.pc k g (g.kn k d tk G'):=by
 have lt:∀b p,g.x b=some p->b<w.heap.size:=λb p a=>(ĕ.1 (h.own b p.1 p.2 a).1).1
 have I:∀b i o,g.x b=some (i,o)->k≠some i->∀y,tk=some y->y.b≠b:=by
  intro b i o a A y B u;subst u;rcases (e.loc i0 y (by rw[B];simp[Lo.get])).2.1 with ⟨y0,s,h2⟩|s
  .obtain⟨j,o',h3,c⟩:=f i0 y0 s;rw[h2,a]at c;cases c;exact A h3
  have:=lt _ _ a;omega
 have F:Gx.pc k g (g.kn k d tk G'):=⟨e.le,λb i o a A=>by
  have G:¬tk.any (λy=>Nat.beq y.b b)=true:=λE=>by obtain⟨y,s,h2⟩:=um.1 E;exact I b i o a A y s h2
  simp only[Gx.kn,ā G,a,ā A]⟩
 refine⟨⟨?_,λb i o a=>?_⟩,F⟩
 .refine⟨e.os.trans h.st.os,e.tape.trans h.st.tape,e.output.trans h.st.output,ŋ h.st.drawn e.drawn,ŋ h.st.size e.size,λb a G=>?_,Mem.le_trans h.st.base e.le,e.jj,λb o v P=>?_,λi x hi=>?_,h.st.Ú⟩
  .have:=h.st.size
   rw[e.block b ŉ (λi y hi B=>?_)]
   .exact h.st.block b a G
   obtain⟨j,o',_,c⟩:=f i y hi
   have:=(h.own _ _ _ c).2.1
   omega
  .rcases e.fresh b o v P with h'|h'|⟨i,y,hi,H,_⟩
   .exact h.st.fresh b o v h'
   .exact .inr (.inl (ŋ h.st.size h'))
   obtain⟨j,o',_,c⟩:=f i y hi
   exact .inr (.inl (by rw[<-H];exact(h.own _ _ _ c).2.1))
  obtain⟨C,r,D⟩:=h.st.loc i x hi
  have a:=(ĕ.1 C).1
  have l:∀j y,n.get j=some y->y.b≠x.b:=λj y m u=>by obtain⟨j',o',_,c⟩:=f j y m;exact(h.own _ _ _ c).2.2.2 i x hi u.symm
  refine⟨?_,r,λq O=>?_⟩
  .rw[e.block x.b a l];exact C
  cases t:G' x.b q with
  |none=>exact t
  |some v=>
   rcases e.fresh x.b q v t with h'|h'|⟨j,y,m,B,_⟩
   .rw[D q O]at h';cases h'
   .omega
   exact absurd B (l j y m)
 simp only[Gx.kn]at a
 split at a
 .rename_i E
  obtain⟨y,s,h2⟩:=um.1 E
  rw[s]at a
  simp only[Ğ,Đ,dA]at a
  obtain⟨rfl,rfl⟩:=a
  subst h2
  obtain⟨C,r,D⟩:=e.loc i0 y (by rw[s];simp[Lo.get])
  refine⟨C,?_,λq=>D q (by rw[Q y s];omega),λj z m u=>?_⟩
  .rcases r with ⟨y0,J,K⟩|r
   .obtain⟨j,o',_,c⟩:=f i0 y0 J
    rw[<-K];exact(h.own _ _ _ c).2.1
   exact ŋ h.st.size r
  rcases r with ⟨y0,J,K⟩|r
  .obtain⟨j',o',_,c⟩:=f i0 y0 J
   exact(h.own _ _ _ c).2.2.2 j z m (by rw[u,K])
  have:=(ĕ.1 (h.st.loc j z m).1).1
  omega
 cases t:g.x b with
 |none=>rw[t]at a;cases a
 |some p=>
  rw[t]at a
  simp only at a
  split at a
  .cases a
  rename_i A
  simp only[Đ]at a
  subst a
  obtain⟨C,r,D,R⟩:=h.own b i o t
  have a:=lt _ _ t
  have l:∀j y,n.get j=some y->y.b≠b:=λj y m u=>by obtain⟨j',o',h3,c⟩:=f j y m;rw[u,t]at c;cases c;exact A h3
  refine⟨by rw[e.block b a l];exact C,r,λq=>?_,R⟩
  cases N:G' b q with
  |none=>exact N
  |some v=>
   rcases e.fresh b q v N with h'|h'|⟨j,y,m,B,_⟩
   .rw[D q]at h';cases h'
   .omega
   exact absurd B (l j y m)
end
section
variable {α:Type}
def gv(r:Rp α)(e:TypeId)(d:Nat)(xs:Ŀ α):Value->Gx->Prop:=λv g=>∃p c tk,v=.slice p xs.length c/\Β r e g.m (.slice p xs.length c) xs tk/\∀y,tk=some y->g.x y.b=some (d,y.o)
variable {r:Rp α}{e:TypeId}{d:Nat}{xs:Ŀ α}
theorem gv.mono{v:Value}{g g':Gx}(a:Gx.qX d g g'):gv r e d xs v g->gv r e d xs v g':=λ⟨p,c,tk,f,h2,h3⟩=>⟨p,c,tk,f,h2.mono a.1,λy h=>a.2 _ _ (h3 y h)⟩
theorem gv.drop{d':Nat}{v:Value}{g:Gx}{tk:ŀ Ow}(h:gv r e d xs v g)(a:Nat.beq d d'=false)(k:∀y,tk=some y->g.x y.b=some (d',y.o)):gv r e d xs v (g.drop tk):=
 h.mono (g':=g.drop tk) ⟨(λ_ _ _ h=>h:Mem.le g.m g.m),λb o c=>by
  have j:¬tk.any (λy=>Nat.beq y.b b)=true:=λi=>by obtain⟨y,f,h2⟩:=um.1 i;have:=k y f;rw[h2,c]at this;cases this;simp at a
  simp only[Gx.drop,ā j];exact c⟩
theorem Laid.drop{d':Nat}{e:Obj}{v:Value}{g:Gx}{tk:ŀ Ow}(h:Laid d e v g)(a:Nat.beq d d'=false)(k:∀y,tk=some y->g.x y.b=some (d',y.o)):Laid d e v (g.drop tk):=
 Laid.mono _ _ (g.drop tk) ⟨(λ_ _ _ h=>h:Mem.le g.m g.m),λb o c=>by
  have j:¬tk.any (λy=>Nat.beq y.b b)=true:=λi=>by obtain⟨y,f,h2⟩:=um.1 i;have:=k y f;rw[h2,c]at this;cases this;simp at a
  simp only[Gx.drop,ā j];exact c⟩ h
end
section
variable {P:Program}{N:Nat}{Q:ï}{fr:Fr}{w0:Bs}{G0 G:Mem}{L:Lo}{ops:Array Oper}{ty:TypeId}{pos:String}{af:Array Edge}{g:ŀ (Nat×Bool)}{fs:Ŀ Bool}{l:Ŀ Oper}{Ι:Fr}{Ρ:jr}{d:Nat}{op:Op}
variable {α:Type}{r:Rp α}{e:TypeId}
theorem gr.kM{g:Gx}{w:World}{tk:ŀ Ow}(h:gr w0 G0 g L w)(q:∀y,tk=some y->y.m=0)(p:∀y,tk=some y->g.x y.b=some (d,y.o)):gr w0 G0 (g.drop tk) ((d,tk)::L) w:=by
 cases tk with
 |none=>exact⟨h.st.weaken (Lo.GJ (Lo.vB _)),λb i o a=>by
   have a:g.x b=some (i,o):=by simpa[Gx.drop]using a
   obtain⟨l,h2,h3,n⟩:=h.own b i o a;refine⟨l,h2,h3,λj y c=>?_⟩;rw[Lo.Zp]at c;split at c
   .cases c
   exact n j y c⟩
 |some y=>
  obtain⟨b,o,m⟩:=y;have:=q _ rfl;simp only at this;subst this;have k:=h.mQ (p _ rfl);refine⟨k.st,λb' i o' a=>?_⟩;refine k.own b' i o' ?_;simp only[Gx.drop,Option.any_some]at a;split at a
  .cases a
  rename_i f;simp only;rw[ā (λe=>f (by rw[e];simp))];exact a
theorem WL.kM{X:Gx}{v:Value}{xs:Ŀ α}(h:gv r e d xs v X)
  (k:∀p c tk,v=.slice p xs.length c->Β r e X.m (.slice p xs.length c) xs tk->(∀y,tk=some y->X.x y.b=some (d,y.o))->WL P N ops Q l fr (gr w0 G0 (X.drop tk) ((d,tk)::L))):WL P N ops Q l fr (gr w0 G0 X L):=λa w g i=>by
 obtain⟨p,c,tk,f,h2,h3⟩:=h
 exact k p c tk f h2 h3 a w g (i.kM (λy j=>h2.zero j) h3)
theorem γ.pS{Bt:Ξ}{f:FuncId}{xs:Ŀ α}(A:∀u,ξ ops (ς Ρ u++(Ι++fr)) ⟨some d,op,ty,pos,af,g⟩ true)
  (h:∀u (G':Gx),Mem.le G G'.m->ñ ops ⟨some d,op,ty,pos,af,g⟩ Ρ u G'->∃args j pre,(∀S,YC P N ⟨some d,op,ty,pos,af,g⟩ (ς Ρ u++(Ι++fr)) S f j)/\eR P f args [] pre (λG L v=>∃p c tk,L=[(7000,tk)]/\v=.slice p xs.length c/\Β r e G (.slice p xs.length c) xs tk)/\j=args/\pre G'.m)
  (k:γ P N Q fr w0 G0 G L ops Bt fs l Ι ((d,gv r e d xs)::Ρ)):γ P N Q fr w0 G0 G L ops Bt (false::fs) (⟨some d,op,ty,pos,af,g⟩::l) Ι Ρ:=
 γ.oW d (gv r e d xs) rfl (λv _ _ h=>gv.mono h) (λu g n B=>by
  obtain⟨args,j,pre,s,h2,h3,t⟩:=h u g n.1 B;subst h3;refine .inr ⟨A u,λa w x q=>?_⟩;rw[s _ a w x q];refine(h2 w g.m (q.st.hp (Lo.Zq _)) t).mono λe' w' ⟨v,G',L',C,D,p,c,tk,E,q4,q5⟩=>⟨v,C,?_⟩;subst E;obtain⟨F,H⟩:=q.sA (d:=d) (k:=none) D (λi y hi=>by simp[Lo.get]at hi) (λy m=>q5.zero m);refine⟨_,H.le,F,?_⟩;exact⟨p,c,tk,q4,q5,λy m=>by simp only[Gx.kn];rw[ą (um.2 ⟨y,m,rfl⟩),m];rfl⟩) k
theorem γ.nw{Bt:Ξ}{t:TypeId}{len:Nat}{parts:Array (Nat×Operand)}(xs:Ŀ α)(B:∀u,ξ ops (ς Ρ u++(Ι++fr)) ⟨some d,.buildSlice t len parts,ty,pos,af,g⟩ true)(c:xs.length=len)(C:len<=small)
  (h:∀u (G':Gx),Mem.le G G'.m->ñ ops ⟨some d,.buildSlice t len parts,ty,pos,af,g⟩ Ρ u G'->∃vs:Array (Nat×Value),∃cs:Ŀ Value,(ς Ρ u++(Ι++fr)).iy (parts.toList.map (·.2))=some (vs.toList.map (·.2))/\parts.toList.map (·.1)=vs.toList.map (·.1)/\
   (∀w,(Instr.buildSlice t len vs).run P w=.ok (.slice (some ⟨w.heap.size,0,none⟩) len len) (w.alloc (.cells cs.toArray e)))/\ÿ r G'.m cs xs)
  (k:γ P N Q fr w0 G0 G L ops Bt fs l Ι ((d,gv r e d xs)::Ρ)):γ P N Q fr w0 G0 G L ops Bt (false::fs) (⟨some d,.buildSlice t len parts,ty,pos,af,g⟩::l) Ι Ρ:=
 γ.oW d (gv r e d xs) rfl (λv _ _ h=>gv.mono h) (λu G' m D=>by
  obtain⟨vs,cs,s,h2,h3,n⟩:=h u G' m.1 D;refine .inr ⟨B u,λa w A p=>?_⟩;have q:(parts.map λ(i,x)=>(i,a.eval x))=vs:=Sx A s h2;have:(execOp a.eval ⟨some d,.buildSlice t len parts,ty,pos,af,g⟩).run P w=.ok (.value (.slice (some ⟨w.heap.size,0,none⟩) len len)) (w.alloc (.cells cs.toArray e)):=by simp only[execOp,q];simp[h3 w]
  rw[this];have j:=n.len;have E:St ⟨w,[]⟩ G'.m G'.m [] w:=Hp.st (p.st.hp (Lo.Zq _));have F:=(E.push 0 (.cells cs.toArray e)).kH;obtain⟨H,I⟩:=p.sA (d:=d) (k:=none) F (λi y hi=>by simp[Lo.get]at hi) (λy f=>by cases f;rfl);refine⟨_,I.le,H,some ⟨w.heap.size,0,none⟩,len,some ⟨w.heap.size,.cells cs.toArray e,0⟩,by rw[c],⟨len,cs,[],by rw[c],ß,rfl,n,by simp[j,c],by simp only[small,maxLen]at *;omega,ŉ⟩,λy f=>?_⟩;simp only[Gx.kn];rw[ą (um.2 ⟨y,f,rfl⟩),f];rfl) k
theorem γ.mU{Bt:Ξ}{t:TypeId}{z:Value}{s x:Operand}{bytes kk:Nat}{xs:Ŀ α}(ys:Ŀ α)(X:∀u,ξ ops (ς Ρ u++(Ι++fr)) ⟨some d,.call ⟨.builtin .append,#[s,x],#[t,t]⟩,ty,pos,af,g⟩ true)
  (Y:Ρ.any (λp=>Nat.beq p.1 kk)=true) (Z:((⟨some d,.call ⟨.builtin .append,#[s,x],#[t,t]⟩,ty,pos,af,g⟩:Oper).looksAt ops).contains kk=true) (E:lj ops kk=true)
  (ht:P.underlying t=some (.slice e)) (W:jo P e z r.size bytes) (H:z.cells.size=r.size) (A:bytes<=100000) (D:(xs++ys).length<=small)
  (h:∀u (G':Gx),Mem.le G G'.m->ñ ops ⟨some d,.call ⟨.builtin .append,#[s,x],#[t,t]⟩,ty,pos,af,g⟩ Ρ u G'->∃v I,gv r e kk xs v G'/\(ς Ρ u++(Ι++fr)).ev s=some v/\(ς Ρ u++(Ι++fr)).ev x=some I/\Δ r G'.m I ys)
  (k:γ P N Q fr w0 G0 G L ops Bt fs l Ι ((d,gv r e d (xs++ys))::iF (some kk) Ρ)):γ P N Q fr w0 G0 G L ops Bt (false::fs) (⟨some d,.call ⟨.builtin .append,#[s,x],#[t,t]⟩,ty,pos,af,g⟩::l) Ι Ρ:=
 γ.ya d kk (gv r e d (xs++ys)) rfl Y Z E (λv _ _ h=>gv.mono h) (λu G' B hu=>by
  obtain⟨v,I,⟨p,c,tk,f,h2,h3⟩,U,V,J⟩:=h u G' B.1 hu;refine .inr ⟨X u,λa w K C=>?_⟩;obtain⟨p',c',mf⟩:=J.form;have s1:St ⟨w,[(kk,tk)]⟩ G'.m G'.m [(kk,tk)] w:=Hp.st ⟨C.st.jj,λi y hi=>by
   rw[Lo.Zp]at hi;split at hi
   .obtain⟨q1,q2,q3,q4⟩:=C.own _ _ _ (h3 y hi);exact⟨q1,λk _=>q3 k⟩
   .simp[Lo.get]at hi,λi j y y' aa f h2=>by
   rw[Lo.Zp]at f h2;split at f
   .split at h2
    .omega
    simp[Lo.get]at h2
   simp[Lo.get]at f⟩
  subst f mf;obtain⟨v2,m,w',R,q,S⟩:=QP (id:=kk) ty ht W H A h2 (by simp[Lo.Zp]) J D w s1;have:(execOp a.eval ⟨some d,.call ⟨.builtin .append,#[s,x],#[t,t]⟩,ty,pos,af,g⟩).run P w=.ok (.value v2) w':=by simp[execOp,resolve,K.ev U,K.ev V,invoke,builtin,R,aaC]
  rw[this];have T:=(S.weaken (L':=[(kk,m)]) (Lo.Zi (by simp[Lo.Zp]) (Lo.Zq _))).kH;obtain⟨s3,s4⟩:=C.sA (d:=d) (k:=some kk) T (λi y hi=>by
   rw[Lo.Zp]at hi;split at hi
   .exact⟨kk,y.o,rfl,h3 y hi⟩
   simp[Lo.get]at hi) (λy n=>q.zero n)
  obtain⟨p2,O,F⟩:=q.form;subst F;exact⟨_,s4,s3,p2,O,m,rfl,q,λy n=>by simp only[Gx.kn];rw[ą (um.2 ⟨y,n,rfl⟩),n];rfl⟩) k
theorem WL.nf{X:Gx}{v:Value}{c:Obj}(h:Laid d c v X)
  (k:∀b,v=.pointer (some ⟨b,0,none⟩)->(∀y,some (⟨b,c,0⟩:Ow)=some y->X.x y.b=some (d,y.o))->WL P N ops Q l fr (gr w0 G0 (X.drop (some ⟨b,c,0⟩)) ((d,some ⟨b,c,0⟩)::L))):WL P N ops Q l fr (gr w0 G0 X L):=λa w g i=>by
 obtain⟨b,f,h2⟩:=h
 have h3:∀y,some (⟨b,c,0⟩:Ow)=some y->X.x y.b=some (d,y.o):=λy e=>by cases e;exact h2
 exact k b f h3 a w g (i.kM (λy e=>by cases e;rfl) h3)
end
def u4(c:Ŀ Value)(o:Nat)(a:Ŀ Value):Ŀ Value:=c.take o++a++c.drop (o+a.length)
section
variable {P:Program}{w0:Bs}{G0 G:Mem}{L:Lo}
theorem St.setRow{w:World}{key b:Nat}{c:Array Value}{e:TypeId}(g:St w0 G0 G L w)(d:L.get key=some ⟨b,.cells c e (0,0),0⟩)(c':Array Value):St w0 G0 G ((key,some ⟨b,.cells c' e (0,0),0⟩)::L) (w.setRow b c'):=by
 have a:=(g.loc key _ d).1;dsimp only at a;exact g.rJ d (by simp[World.setRow,ĩ,a]) (Ċ _) (λk _ f _=>absurd f (ĵ k)) (λk f=>by
  simp only[World.setRow,ĩ];rw[ā (λe=>f e.symm)]) rfl rfl rfl rfl (by simp[World.setRow])
theorem ZxV{z:Array Value}(a:0<z.size)(n:Nat):(Builtin.zeroCells z n).toList=(List.replicate n z.toList).flatten:=Lx a n
theorem ZoB(w:World)(t e ty:TypeId)(z:Value)(p:P.underlying t=some (.slice e))(x:∀w,(zeroValue e).run P w=.ok z w)(s:∀v∈z.cells.toList,v.oneCell'=true)(r:0<z.cells.size)(g o n c:Nat)(a:Array Value)(tt:TypeId)
  (l:w.heap[g]?=some (.cells a tt (0,0))) (d:o+n*z.cells.size<=a.size) :
  ∃k:Ŀ Value,k=(List.replicate n z.cells.toList).flatten/\(Builtin.clear_ #[t] ty #[.slice (some ⟨g,o,none⟩) n c]).run P w=.ok (.tuple #[]) (w.setRow g (a.toList.take o++k++a.toList.drop (o+k.length)).toArray):=by
 refine⟨_,rfl,?_⟩
 cases n with
 |zero=>
  simp only[List.replicate_zero,List.flatten_nil,ę,ĺ,dV,Ņ,Array.toArray_toList]
  rw[setRow_self w g a tt (0,0) l]
  simp[Builtin.clear_,ē p]
 |succ m=>
  have y:=ZxV r (m+1)
  have h:∀v∈(List.replicate (m+1) z.cells.toList).flatten,v.oneCell'=true:=by intro v mf;obtain⟨q,u,j⟩:=List.mem_flatten.1 mf;rw[List.eq_of_mem_replicate u]at j;exact s v j
  have f:(List.replicate (m+1) z.cells.toList).flatten.length=(m+1)*z.cells.size:=ß
  have i:=abi P g o tt (List.replicate (m+1) z.cells.toList).flatten 0 a w l (by rw[f];simpa using d) h
  simp only[dV]at i
  simp only[Builtin.clear_]
  simp[ē p,x,y,i]
end
section
variable {P:Program}{N:Nat}{Q:ï}{fr:Fr}{S:Ξ}{ops:Array Oper}{l:Ŀ Oper}{dst:ŀ Nat}{ty:TypeId}{pos:String}{af:Array Edge}{g:ŀ (Nat×Bool)}{w0:Bs}{G0 G:Mem}{L:Lo}
theorem za(b o n:Nat):(⟨b,o,none⟩:Addr).add n=⟨b,o+n,none⟩:=oy b o n
theorem Y0.H0{t e:TypeId}{x:Operand}{lo hi mx:ŀ Operand}{b o n cap sz:Nat}{l h m:Nat}(p:P.underlying t=some (.slice e))(d:(P.info? e).map (·.size)=some sz)(q:fr.ev x=some (.slice (some ⟨b,o,none⟩) n cap))
  (A:match mx with|none=>m=cap|some y=>∃k,fr.ev y=some (.int k (m:Int))) (u:match hi with|none=>h=n/\mx=none|some y=>∃k,fr.ev y=some (.int k (h:Int))) (j:match lo with|none=>l=0|some y=>∃k,fr.ev y=some (.int k (l:Int)))
  (v:l<=h) (h2:h<=m) (h3:m<=cap):Y0 P N ⟨dst,.slice t x lo hi mx,ty,pos,af,g⟩ fr S (.slice (some ⟨b,if m=l then o else o+l*sz,none⟩) (h-l) (m-l)):=λa w c _=>by
 have f:(if m=l then some (⟨b,o,none⟩:Addr)else some (⟨b,o+l*sz,none⟩:Addr))=some ⟨b,if m=l then o else o+l*sz,none⟩:=by split<;>rfl
 have C:(l:Int)<=(h:Int):=ŉ
 have D:(h:Int)<=(m:Int):=ŉ
 have E:(m:Int)<=(cap:Int):=ŉ
 have F:(h:Int)<=(cap:Int):=ŉ
 cases mx with
 |none=>
  subst A
  cases hi with
  |none=>
   obtain⟨rfl,_⟩:=u
   cases lo with
   |none=>
    subst j
    simp[execOp,c.ev q,Instr.sliceAt,ē p,Instr.slice,Instr.sliceBounds,run_sizeOf d,za]
   |some y=>
    obtain⟨k,r⟩:=j
    simp only[execOp,c.ev q,ŗ,Ğ,c.ev r]
    simp[Instr.sliceAt,ē p,Instr.slice,Instr.sliceBounds,Instr.sliceBound,asIntOf,run_sizeOf d,za,v,<-f]
  |some B=>
   obtain⟨k2,i⟩:=u
   cases lo with
   |none=>
    subst j
    simp only[execOp,c.ev q,ŗ,Ğ,c.ev i]
    simp[Instr.sliceAt,ē p,Instr.slice,Instr.sliceBounds,Instr.sliceBound,asIntOf,run_sizeOf d,za,h2]
   |some y=>
    obtain⟨k,r⟩:=j
    simp only[execOp,c.ev q,ŗ,Ğ,c.ev r,c.ev i]
    simp[Instr.sliceAt,ē p,Instr.slice,Instr.sliceBounds,Instr.sliceBound,asIntOf,run_sizeOf d,za,v,h2,<-f]
 |some G=>
  obtain⟨k3,s⟩:=A
  cases hi with
  |none=>exact absurd u.2 ß
  |some B=>
   obtain⟨k2,i⟩:=u
   cases lo with
   |none=>
    subst j
    simp only[execOp,c.ev q,ŗ,Ğ,c.ev i,c.ev s]
    simp[Instr.sliceAt,ē p,Instr.slice,Instr.sliceBounds,Instr.sliceBound,asIntOf,run_sizeOf d,za,h2,h3]
   |some y=>
    obtain⟨k,r⟩:=j
    simp only[execOp,c.ev q,ŗ,Ğ,c.ev r,c.ev i,c.ev s]
    simp[Instr.sliceAt,ē p,Instr.slice,Instr.sliceBounds,Instr.sliceBound,asIntOf,run_sizeOf d,za,v,h2,h3,<-f]
theorem Y0.OH{t e:TypeId}{x y:Operand}{b n cap sz l:Nat}{k:IntKind}(d:P.underlying t=some (.slice e))(a:(P.info? e).map (·.size)=some sz)(f:fr.ev x=some (.slice (some ⟨b,0,none⟩) n cap))(h:fr.ev y=some (.int k (l:Int)))(c:l<=n)(h2:n<=cap)(h3:¬cap=l):
  Y0 P N ⟨dst,.slice t x (some y) none none,ty,pos,af,g⟩ fr S (.slice (some ⟨b,l*sz,none⟩) (n-l) (cap-l)):=by
 have:=Y0.H0 (P:=P) (N:=N) (S:=S) (dst:=dst) (ty:=ty) (pos:=pos) (af:=af) (g:=g) (lo:=some y) (hi:=none) (mx:=none) d a f rfl ⟨rfl,rfl⟩ ⟨k,h⟩ c h2 (Ċ _)
 rwa [ā h3,ņ]at this
theorem Y0.BQ{x:Operand}{t e:TypeId}{p:ŀ Addr}{n c:Nat}(f:P.underlying t=some (.slice e))(h:fr.ev x=some (.slice p n c)):Y0 P N ⟨dst,.call ⟨.builtin .cap,#[x],#[t]⟩,ty,pos,af,g⟩ fr S (.int .i64 (c:Int)):=λa w d _=>by simp[execOp,resolve,invoke,builtin,d.ev h,Builtin.cap_,ē f,goInt]
theorem Y0.mE{x:Operand}{t e:TypeId}{p:ŀ Addr}{n c:Nat}(f:P.underlying t=some (.slice e))(h:fr.ev x=some (.slice p n c)):Y0 P N ⟨dst,.call ⟨.builtin .len,#[x],#[t]⟩,ty,pos,af,g⟩ fr S (.int .i64 (n:Int)):=λa w d _=>by simp[execOp,resolve,invoke,builtin,d.ev h,Builtin.len_,ē f,goInt]
theorem ZhK(w:World)(t s ty e:TypeId)(i:TypeInfo)(z:Value)(D:IntKind)(A:P.underlying t=some (.slice e))(r:P.underlying s=some (.int D))(hi:P.info? e=some i)(C:i.zero=some z)(y:0<i.size)(base:ŀ Addr)(n cap m:Nat)(a:Ŀ Value)
  (j:(Builtin.firstCells i.size n (.slice base n cap)).run P w.drew=.ok a.toArray w.drew) (E:0<m) (u:cap<n+m) (x:n+m<=1000000000) (g:i.bytes<=100000) :
  (Builtin.append_ #[t,s] ty #[.slice base n cap,.int .i64 (m:Int)]).run P w =
   .ok (.slice (some ⟨w.heap.size,0,none⟩) (n+m) (grownCap w (n+m) cap e)) (w.drew.alloc (.cells (a.toArray++Builtin.zeroCells z.cells m++Builtin.zeroCells z.cells (grownCap w (n+m) cap e-(n+m))) e)):=by
 have B:i64.wrap (m:Int)=m:=by rw[ī];omega
 have h:¬((m:Int)<0):=ŉ
 have q:¬(m*i.size=0):=Nat.mul_ne_zero ŉ ŉ
 have v:m*i.bytes<=100000000000000:=by have:m*i.bytes<=1000000000*100000:=aa3 ŉ g;omega
 have d:¬(281474976710656<(m:Int)*(i.bytes:Int)):=by rw[<-Int.natCast_mul];omega
 have k:¬(n+m<=cap):=ŉ
 have f:¬(9223372036854775807<((n:Int)+(m:Int))):=ŉ
 have p:(n+m)*i.bytes<=140737488355328:=by have:(n+m)*i.bytes<=1000000000*100000:=aa3 x g;omega
 have c:¬(281474976710656<Builtin.nextslicecap (n+m) cap*i.bytes):=by have:=growslice_fits u p;omega
 have l:m≠0:=ŉ
 simp[Builtin.append_,ē A,ē r,sizeOf,typeInfo,zeroValue,hi,C,asInt,asIntOf,B,l,h,q,d,k,f,c,Question.forced,j,newRow,grownCap]
theorem Y0.OG{t e:TypeId}{x y:Operand}{p:ŀ Addr}{n cap sz:Nat}{l:Nat}{k:IntKind}(h:P.underlying t=some (.slice e))(c:(P.info? e).map (·.size)=some sz)(i:fr.ev x=some (.slice p n cap))(j:fr.ev y=some (.int k (l:Int)))(f:l<=n):
  Y0 P N ⟨dst,.slice t x (some y) none none,ty,pos,af,g⟩ fr S (.slice (if cap=l then p else p.map (·.add (l*sz))) (n-l) (cap-l)):=λa w d _=>by
 have m:(l:Int)<=(n:Int):=ŉ
 simp only[execOp,d.ev i,ŗ,Ğ,d.ev j]
 simp[Instr.sliceAt,ē h,Instr.slice,Instr.sliceBounds,Instr.sliceBound,asIntOf,run_sizeOf c,f]
end
def Cq.pick{α β:Type}(R:Ŀ α)(c:Cq β)(k:α->Ŀ α->Cq β):Cq β:=
 ⟨λp=>(R=[]->c.wp p)/\∀d a f,R=d++a::f->(k a (d++f)).wp p,λh ⟨g,h2⟩=>⟨λe=>c.mono h (g e),λd a f e=>(k a _).mono h (h2 d a f e)⟩,λn=>if R.isEmpty then c.ev n else none,λn b h p hp=>by
  cases R with
  |nil=>exact⟨λ_=>c.sound n b h p hp,λd a f e=>by cases d<;>cases e⟩
  |cons x R=>simp at h⟩
section
variable {P:Program}{N:Nat}{Q:ï}{fr:Fr}{S:Ξ}{ops:Array Oper}{l:Ŀ Oper}{dst:ŀ Nat}{ty:TypeId}{pos:String}{af:Array Edge}{g:ŀ (Nat×Bool)}{w0:Bs}{G0 G:Mem}{L:Lo}
variable {α:Type}{r:Rp α}{e:TypeId}
theorem WL.u7{t e':TypeId}{x y:Operand}{k:IntKind}{hi:Int}{p:ŀ Addr}{n c sz:Nat}{xs:Ŀ α}{tk:ŀ Ow}(F:ξ ops fr ⟨dst,.slice t x none (some y) none,ty,pos,af,g⟩ true)(E:Ω N dst)(J:P.underlying t=some (.slice e'))(s:(P.info? e').map (·.size)=some sz)(W:sz=r.size)(h:Β r e G (.slice p n c) xs tk)
  (K:fr.ev x=some (.slice p n c)) (L:fr.ev y=some (.int k hi)) (Y:0<=(0:Int)/\(0:Int)<=hi/\hi<=(xs.length:Int))
  (kk:Β r e G (.slice p hi.toNat c) (xs.take hi.toNat) tk->WL P N ops Q l (θ dst (.slice p hi.toNat c) fr) S):WL P N ops Q (⟨dst,.slice t x none (some y) none,ty,pos,af,g⟩::l) fr S:=by
 obtain⟨m,rfl⟩:∃m:Nat,hi=m:=⟨hi.toNat,ŉ⟩
 have H:m<=xs.length:=ŉ
 rw[Ĕ]at kk
 cases tk with
 |none=>
  obtain⟨rfl,q,B,U⟩:=h
  cases B
  have:m=0:=by simpa using H
  subst this
  refine WL.rf F (v:=.slice p 0 0) (λa w D _=>?_) E (kk ⟨rfl,p,rfl,U⟩)
  simp only[execOp,D.ev K,ŗ,Ğ,D.ev L]
  simp[Instr.sliceAt,ē J,Instr.slice,Instr.sliceBounds,Instr.sliceBound,asIntOf,run_sizeOf s]
 |some y0=>
  obtain⟨X,cs,rest,B,I,i,j,f,u,T⟩:=h
  cases B
  obtain⟨b,Z,mk⟩:=y0
  dsimp only at I i
  subst I i
  obtain⟨O,R,d,A,V⟩:=ÿ.split (l:=xs.take m) (m:=xs.drop m) (by rw[Ņ];exact j)
  subst d
  have C:=Y0.H0 (P:=P) (N:=N) (S:=S) (dst:=dst) (ty:=ty) (pos:=pos) (af:=af) (g:=g) (lo:=none) (hi:=some y) (mx:=none) (l:=0) (h:=m) (m:=c) J s K rfl ⟨_,L⟩ rfl (Ĝ _) ŉ (Ċ _)
  simp only[du,dV,ite_self,aaB]at C
  refine WL.rf F C E (kk ⟨c,O,R++rest,by rw[Č,Ż H],by rw[ď],rfl,A,by rw[<-ď];exact f,u,by rw[Č];omega⟩)
theorem WL.qS{t:TypeId}{x y:Operand}{k:IntKind}{lo:Int}{p:ŀ Addr}{n c d sz bytes:Nat}{xs:Ŀ α}{tk:ŀ Ow}{z:Value}{zx:α}{y1 y2:TypeId}{p1 p2:String}{a1 a2:Array Edge}(key:Nat)(hd:Ω N (some d))(Z:P.underlying t=some (.slice e))(hE:jo P e z sz bytes)(W:z.cells.size=sz)(g:sz=r.size)(aa:∀v∈z.cells.toList,v.oneCell'=true)(h0:0<sz)
  (ae:r.er G z.cells.toList zx) (h:Β r e G (.slice p n c) xs tk) (J:L.get key=tk) (hx:fr.ev x=some (.slice p n c)) (hy:fr.ev y=some (.int k lo)) (hb:0<=lo/\lo<=(xs.length:Int)/\(xs.length:Int)<=(xs.length:Int))
  (kk:∀v X,Β r e G (.slice p n c) (xs.take lo.toNat++List.replicate (xs.length-lo.toNat) zx) X->WL P N ops Q l ((d,v)::fr) (St w0 G0 G ((key,X)::L))) :
  WL P N ops Q (⟨some d,.slice t x (some y) none none,y1,p1,a1,none⟩::⟨none,.call ⟨.builtin .clear,#[.tmp d],#[t]⟩,y2,p2,a2,none⟩::l) fr (St w0 G0 G L):=by
 obtain⟨m,rfl⟩:∃m:Nat,lo=m:=⟨lo.toNat,ŉ⟩
 have hm:m<=xs.length:=ŉ
 rw[Ĕ]at kk
 have H:∀(v:Value),Fr.ev ((d,v)::fr) (.tmp d)=some v:=λv=>by simp[Fr.ev,Fr.get]
 obtain⟨i,A,O,K,_⟩:=hE.parts
 have V:(P.info? e).map (·.size)=some sz:=by rw[A];simp[K]
 cases tk with
 |none=>
  obtain⟨rfl,q,C,hq⟩:=h
  cases C
  have:m=0:=by simpa using hm
  subst this
  refine WL.rf Zh (Y0.OG Z V hx hy ß) hd ?_
  refine WL.rf Zh (v:=.tuple #[]) (λa w u _=>?_) trivial ?_
  .simp only[execOp,resolve,invoke,builtin]
   have C:=u.ev (H _)
   simp only[abu,ġ,Ŕ]
   cases p<;>simp[Act.eval]at C⊢<;>simp[C,Builtin.clear_,ē Z]
  have:=kk (.slice (if 0=0 then p else p.map (·.add (0*sz))) (0-0) (0-0)) none ⟨ß,p,rfl,hq⟩
  exact λa w u Y=>this a w u (Y.weaken (Lo.GJ (Lo.vB _)))
 |some y0=>
  obtain⟨c1,cs,rest,C,ho,S,U,j,ac,ah⟩:=h
  cases C
  obtain⟨b,ob,mk⟩:=y0
  dsimp only at ho S
  subst ho S
  obtain⟨f,s,E,T,ad⟩:=ÿ.split (l:=xs.take m) (m:=xs.drop m) (by rw[Ņ];exact U)
  subst E
  have R:=T.len
  have B:=ad.len
  rw[Č,Ż hm,<-g]at R
  rw[ľ,<-g]at B
  rw[<-g]at j
  simp only[Ā]at j
  refine WL.rf Zh (Y0.H0 (l:=m) (h:=xs.length) (m:=c) (b:=b) (o:=0) Z V hx rfl ⟨rfl,rfl⟩ ⟨_,hy⟩ hm ŉ (Ċ _)) hd ?_
  have hz:(P.info? e).map (·.zero)=some (some z):=by rw[A];simp[O]
  have I:(if c=m then 0 else 0+m*sz)+(xs.length-m)*z.cells.size<=(f++s++rest).length:=by
   simp only[Ā];rw[W];split
   .rename_i e0;subst e0;rw[show xs.length-c=0 by omega];omega
   omega
  refine WL.yr (Φ:=λv w=>v=.tuple #[]/\St w0 G0 G ((key,some ⟨b,.cells (u4 (f++s++rest) (if c=m then 0 else 0+m*sz) (List.replicate (xs.length-m) z.cells.toList).flatten).toArray e (0,0),0⟩)::L) w) Zh (λa w u Y=>?_) trivial (λv a w u ⟨_,h2⟩=>?_)
  .have D:=(Y.loc key _ J).1
   have ag:∀w,(zeroValue e).run P w=.ok z w:=λw=>by simp[zeroValue,typeInfo,A,O]
   obtain⟨ds,hl,hr⟩:=ZoB (P:=P) w t e y2 z Z ag aa ŉ b (if c=m then 0 else 0+m*sz) (xs.length-m) (c-m) (f++s++rest).toArray e D (by simpa using I)
   subst hl
   have:(execOp a.eval ⟨none,.call ⟨.builtin .clear,#[.tmp d],#[t]⟩,y2,p2,a2,none⟩).run P w=.ok (.value (.tuple #[])) (w.setRow b ((f++s++rest).toArray.toList.take (if c=m then 0 else 0+m*sz)++(List.replicate (xs.length-m) z.cells.toList).flatten++(f++s++rest).toArray.toList.drop ((if c=m then 0 else 0+m*sz)+(List.replicate (xs.length-m) z.cells.toList).flatten.length)).toArray):=by simp only[execOp,resolve,invoke,builtin];simp only[abu,ġ,Ŕ,u.ev (H _),abz,hr,aaC,Sem.run_pure]
   rw[this]
   exact⟨rfl,Y.setRow J _⟩
  have F:(List.replicate (xs.length-m) z.cells.toList).flatten.length=(xs.length-m)*sz:=by simp[W]
  have e4:u4 (f++s++rest) (if c=m then 0 else 0+m*sz) (List.replicate (xs.length-m) z.cells.toList).flatten=f++(List.replicate (xs.length-m) z.cells.toList).flatten++rest:=by
   by_cases e0:c=m
   .have:xs.length-m=0:=ŉ;have ab:s=[]:=Ŋ (by rw[B,this];simp);rw[this,ab];simp[u4]
   rw[ā e0,ņ,<-R,ď];simp only[u4,abQ];rw[F,<-abR,aa7,<-B,aa7]
  rw[e4]at h2
  refine kk _ (some ⟨b,.cells (f++(List.replicate (xs.length-m) z.cells.toList).flatten++rest).toArray e (0,0),0⟩) ⟨c,f++(List.replicate (xs.length-m) z.cells.toList).flatten,rest,?_,rfl,rfl,T.append (ÿ.replicate ae _),?_,ac,?_⟩ a w u h2
  .congr 1;simp only[Ā,Č,ļ];omega
  .rw[<-g];simp only[Ā];rw[F];omega
  simp only[Ā,Č,ļ];omega
theorem WL.wm{t:TypeId}{z:Value}{x y:Operand}{bytes:Nat}{k k':IntKind}{n:Int}(key:Nat)(B:ξ ops fr ⟨dst,.makeSlice t x y,ty,pos,af,g⟩ true)(A:Ω N dst)(D:P.underlying t=some (.slice e))(q:jo P e z r.size bytes)(I:z.cells.size=r.size)(u:bytes<=100000)
  (E:fr.ev x=some (.int k 0)) (F:fr.ev y=some (.int k' n)) (j:0<=n/\n<=1000000)
  (kk:∀p c tk,Β r e G (.slice p 0 c) ([]:Ŀ α) tk->WL P N ops Q l (θ dst (.slice p 0 c) fr) (St w0 G0 G ((key,tk)::L))):WL P N ops Q (⟨dst,.makeSlice t x y,ty,pos,af,g⟩::l) fr (St w0 G0 G L):=by
 obtain⟨i,hi,H,m,s⟩:=q.parts
 refine WL.yr (Φ:=λv w=>∃p c tk,v=.slice p 0 c/\Β r e G (.slice p 0 c) ([]:Ŀ α) tk/\St w0 G0 G ((key,tk)::L) w) B (λa w d C=>?_) A (λv a w d ⟨p,c,tk,f,h2,h3⟩=>by subst f;exact kk p c tk h2 a w d h3)
 have h:(i.bytes:Int)*n<=281474976710656:=by have f:(i.bytes:Int)<=100000:=ŉ;have:(i.bytes:Int)*n<=100000*1000000:=Int.mul_le_mul f j.2 j.1 ŉ;omega
 have hr:=run_make w t e i z D hi H k k' 0 n (ŝ _) j.1 h ŉ
 have:(execOp a.eval ⟨dst,.makeSlice t x y,ty,pos,af,g⟩).run P w=.ok (.value (.slice (some ⟨w.heap.size,0,none⟩) 0 n.toNat)) (w.alloc (.cells (madeCells z.cells (n.toNat*i.size)) e)):=by simp[execOp,d.ev E,d.ev F,hr]
 rw[this]
 refine⟨_,_,some ⟨w.heap.size,.cells (madeCells z.cells (n.toNat*i.size)) e (0,0),0⟩,rfl,?_,C.push key _⟩
 refine⟨n.toNat,[],(madeCells z.cells (n.toNat*i.size)).toList,rfl,ß,rfl,rfl,by simp[madeCells,m],by simp only[maxLen];omega,ß⟩
theorem St.sY{w:World}{key b:Nat}{i:Obj}(h:St w0 G0 G L w)(c:L.get key=some ⟨b,i,0⟩)(d:Obj):St w0 G0 G ((key,some ⟨b,d,0⟩)::L) (ChangeMaps.setBlock w b d):=by
 have a:=(h.loc key _ c).1;dsimp only at a;have g:=(ĕ.1 a).1;refine h.rJ c ?_ (Ċ _) (λk _ f _=>absurd f (ĵ k)) (λk f=>?_) rfl rfl rfl rfl (by simp[ChangeMaps.setBlock])
 .simp only[ChangeMaps.setBlock];rw[Ų g]
 simp only[ChangeMaps.setBlock];rw[Ŗ (λe=>f e.symm)]
end
section
variable {P:Program}{kt:TypeId}{K V:Type}{ky:Ky P kt K}{Rv Rv':K->Value->V->Prop}
variable {N:Nat}{Q:ï}{fr:Fr}{S:Ξ}{ops:Array Oper}{l:Ŀ Oper}{dst:ŀ Nat}{ty:TypeId}{pos:String}{af:Array Edge}{g:ŀ (Nat×Bool)}{w0:Bs}{G0 G:Mem}{L:Lo}
def fU(ky:Ky P kt K)(Rv:K->Value->V->Prop)(c:ŀ Ow)(v:Value)(R:Ŀ (K×V))(last:ŀ (K×V))(tk:ŀ Ow):Prop:=
 ∃b es clock r seen c0,c=some ⟨b,.map es clock,0⟩/\v=.pointer (some ⟨r,0,none⟩)/\tk=some ⟨r,.mapIter (some b) clock seen c0,0⟩/\clock<=c0/\Stamped es clock/\fh ky.enc Rv (leftOf es seen).toList R/\(∀p∈R,ky.ok p.1)/\
  ∀q,last=some q->ky.ok q.1/\∃a∈es.toList,a.key=ky.enc q.1/\Rv q.1 a.val q.2/\c0=clock/\∃s:Array Nat,seen=s.push a.born
theorem fU.imp{a tk:ŀ Ow}{v:Value}{R:Ŀ (K×V)}{last:ŀ (K×V)}(h:fU ky Rv a v R last tk)(hi:∀k u x,Rv k u x->Rv' k u x):fU ky Rv' a v R last tk:=by
 obtain⟨b,es,clock,r,seen,c0,d,h2,h3,e,f,g,h7,i⟩:=h;exact⟨b,es,clock,r,seen,c0,d,h2,h3,e,f,g.imp (λp _ u l=>hi _ _ _ l),h7,λq j=>by
  obtain⟨m,c,n,k2,k3,s⟩:=i q j;exact⟨m,c,n,k2,hi _ _ _ k3,s⟩⟩
theorem fU.forget{a tk:ŀ Ow}{v:Value}{R:Ŀ (K×V)}{last:ŀ (K×V)}(h:fU ky Rv a v R last tk):fU ky Rv a v R none tk:=by obtain⟨b,es,clock,r,seen,c0,c,h2,h3,d,e,f,h7,i⟩:=h;exact⟨b,es,clock,r,seen,c0,c,h2,h3,d,e,f,h7,λq g=>by cases g⟩
theorem fh.split{enc:K->Value}:∀{es:Ŀ MapEntry}{D:Ŀ (K×V)},fh enc Rv es D->∀{d:Ŀ MapEntry}{a:MapEntry}{c:Ŀ MapEntry},es=d++a::c->∃f p g,D=f++p::g/\a.key=enc p.1/\Rv p.1 a.val p.2/\fh enc Rv (d++c) (f++g)
 |_,[],h,[],a,c,e=>by subst e;cases h
 |_,p::D,h,[],a,c,e=>by subst e;exact⟨[],p,D,rfl,h.1,h.2.1,h.2.2⟩
 |_,[],h,x::d,a,c,e=>by subst e;cases h
 |_,q::D,h,x::d,a,c,e=>by subst e;obtain⟨f,p,g,i,h2,h3,j⟩:=fh.split (es:=d++a::c) h.2.2 rfl;exact⟨q::f,p,g,by rw[i];rfl,h2,h3,h.1,h.2.1,j⟩
theorem Zxb{es:Array MapEntry}{clock:Nat}{seen:Array Nat}(r:Stamped es clock){a:MapEntry}(j:a∈(leftOf es seen).toList):∃c d,(leftOf es seen).toList=c++a::d/\(leftOf es (seen.push a.born)).toList=c++d/\a∈es.toList:=by
 have n:=((stamped_iff es clock).1 r).2.1;have f:a∈es.toList:=by simp only[leftOf,ew,Ő]at j;exact j.1
 have p:seen.contains a.born=false:=by simp only[leftOf,ew,Ő]at j;simpa using j.2
 simp only[leftOf,ew];have key:∀l:Ŀ MapEntry,(l.map (·.born)).Nodup->a∈l->∃c d,l.filter (λe=>!seen.contains e.born)=c++a::d/\l.filter (λe=>!(seen.push a.born).contains e.born)=c++d:=by
  intro l;induction l with
  |nil=>intro _ h;cases h
  |cons x l t=>
   intro m k;simp only[ġ,aaS,ğ,not_exists,not_and]at m;rcases Ď.1 k with rfl|k
   .refine⟨[],l.filter (λe=>!seen.contains e.born),by rw[ő,ą (by rw[p];rfl)];rfl,?_⟩;have:(seen.push a.born).contains a.born=true:=ß;rw[ő,ā (by rw[this];simp)];refine List.filter_congr λy s=>?_;have g:y.born≠a.born:=m.1 y s;simp[ey,g]
   obtain⟨c,d,i,h2⟩:=t m.2 k;have g:x.born≠a.born:=λe=>m.1 a k e.symm;by_cases q:seen.contains x.born=true
   .refine⟨c,d,by rw[ő,ā (by rw[q];simp)];exact i,?_⟩;have:(seen.push a.born).contains x.born=true:=by simp only[ey,q,ŭ]
    rw[ő,ā (by rw[this];simp)];exact h2
   have qe:seen.contains x.born=false:=by simpa using q
   refine⟨x::c,d,by rw[ő,ą (by rw[qe];rfl),i];rfl,?_⟩;have:(seen.push a.born).contains x.born=false:=by rw[ey,qe];simpa using g
   rw[ő,ą (by rw[this];rfl),h2];rfl
 obtain⟨c,d,i,h2⟩:=key es.toList n f;exact⟨c,d,i,h2,f⟩
theorem WL.yp{t e:TypeId}{x:Operand}{v:Value}{D:Ŀ (K×V)}{c:ŀ Ow}(m key:Nat)(y:ξ ops fr ⟨dst,.range t x,ty,pos,af,g⟩ true)(s:Ω N dst)(B:P.underlying t=some (.map kt e))(h:Ù ky Rv v D c)(f:L.get m=c)(C:fr.ev x=some v)
  (k:∀u tk,fU ky Rv c u D none tk->WL P N ops Q l (θ dst u fr) (St w0 G0 G ((key,tk)::L))):WL P N ops Q (⟨dst,.range t x,ty,pos,af,g⟩::l) fr (St w0 G0 G L):=by
 refine WL.yr (Φ:=λu w=>∃tk,fU ky Rv c u D none tk/\St w0 G0 G ((key,tk)::L) w) y (λa w d j=>?_) s (λu a w d ⟨tk,n,h2⟩=>k u tk n a w d h2)
 obtain⟨b,es,clock,rfl,rfl,h3,p,r,E⟩:=h
 have i:=(j.loc m _ f).1
 dsimp only at i
 have:(execOp a.eval ⟨dst,.range t x,ty,pos,af,g⟩).run P w=.ok (.value (.pointer (some ⟨w.heap.size,0,none⟩))) (w.alloc (.mapIter (some b) clock #[] clock)):=by simp[execOp,d.ev C,Instr.range,ē B,getObj,Sem.run,i,newObj,Result.andThen]
 rw[this]
 refine⟨_,⟨b,es,clock,w.heap.size,#[],clock,rfl,rfl,rfl,Ċ _,h3,?_,p,λq A=>by cases A⟩,j.push key _⟩
 have:leftOf es #[]=es:=by simp[leftOf]
 rw[this];exact r
theorem WL.C5{y:Operand}{v:Value}{R:Ŀ (K×V)}{k tk:ŀ Ow}{F:ŀ (K×V)}(I key:Nat)(W:ξ ops fr ⟨dst,.next y false,ty,pos,af,g⟩ true)(T:Ω N dst)(h:fU ky Rv k v R F tk)(Y:L.get I=k)(j:L.get key=tk)(Z:fr.ev y=some v)
  (k1:∀e q f c,R=e++q::f->fU ky Rv k v (e++f) (some q) c->∀n s,WL P N ops Q l (θ dst (.tuple #[.bool true,n,s]) fr) (St w0 G0 G ((key,c)::L)))
  (k2:R=[]->WL P N ops Q l (θ dst (.tuple #[.bool false]) fr) (St w0 G0 G L)):WL P N ops Q (⟨dst,.next y false,ty,pos,af,g⟩::l) fr (St w0 G0 G L):=by
 obtain⟨b,es,clock,r,seen,c0,rfl,rfl,rfl,O,B,C,h7,h8⟩:=h
 refine WL.yr (Φ:=λu w=>(u=.tuple #[.bool false]/\R=[]/\St w0 G0 G L w)\/∃e q f c n s,u=.tuple #[.bool true,n,s]/\R=e++q::f/\fU ky Rv (some ⟨b,.map es clock,0⟩) (.pointer (some ⟨r,0,none⟩)) (e++f) (some q) c/\St w0 G0 G ((key,c)::L) w) W (λa w t m=>?_) T (λu a w t X=>?_)
 .have H:=(m.loc I _ Y).1
  have hr:=(m.loc key _ j).1
  dsimp only at H hr
  have S:=(stamped_iff es clock).1 B
  have d:∀(x:Value) (w':World),(Instr.next (.pointer (some ⟨r,0,none⟩)) false ty).run P w=.ok x w'->(execOp a.eval ⟨dst,.next y false,ty,pos,af,g⟩).run P w=.ok (.value x) w':=λx w' U=>by simp[execOp,t.ev Z,U]
  rcases run_next_at (P:=P) w ty r b clock c0 seen es clock hr H S.1 O with ⟨J,i⟩|⟨A,D,w1,E,i⟩
  .rw[d _ _ i]
   refine .inl ⟨rfl,?_,m⟩
   have:(leftOf es seen).toList=[]:=by simpa using Array.eq_empty_of_size_eq_zero J
   rw[this]at C
   cases R with
   |nil=>rfl
   |cons p R=>cases C
  rw[d _ _ i]
  obtain⟨e1,e2,q1,q2,q3⟩:=Zxb B D
  obtain⟨e,q,f,r1,r2,r3,r4⟩:=fh.split C q1
  subst r1
  refine .inr ⟨e,q,f,some ⟨r,.mapIter (some b) clock (seen.push A.born) clock,0⟩,_,_,rfl,rfl,⟨b,es,clock,r,seen.push A.born,clock,rfl,rfl,rfl,Ċ _,B,by rw[q2];exact r4,λp hp=>h7 p (by rcases Ħ.1 hp with hp|hp<;>simp[hp]),λq' zS=>?_⟩,?_⟩
  .cases zS
   exact⟨h7 _ ß,A,q3,r2,r3,rfl,seen,rfl⟩
  rcases E with rfl|rfl
  .exact m.sY j _
  have oG:St w0 G0 G L w.drew:=m.drew
  exact oG.sY j _
 rcases X with ⟨rfl,i,h2⟩|⟨e,q,f,c,n,s,rfl,i,h2,h3⟩
 .exact k2 i a w t h2
 exact k1 e q f c i h2 n s a w t h3
theorem WL.yf{i:Operand}{v:Value}{R:Ŀ (K×V)}{d tk:ŀ Ow}{q:K×V}(n key:Nat)(A:ξ ops fr ⟨dst,.entry i,ty,pos,af,g⟩ true)(x:Ω N dst)(h:fU ky Rv d v R (some q) tk)(B:L.get n=d)(e:L.get key=tk)(D:fr.ev i=some v)
  (k:∀u,Rv q.1 u q.2->ky.ok q.1->WL P N ops Q l (θ dst (.tuple #[ky.enc q.1,u]) fr) (St w0 G0 G L)):WL P N ops Q (⟨dst,.entry i,ty,pos,af,g⟩::l) fr (St w0 G0 G L):=by
 obtain⟨b,es,clock,r,seen,c0,rfl,rfl,rfl,F,p,H,h7,s⟩:=h
 obtain⟨f,c,E,k2,k3,rfl,I,rfl⟩:=s q rfl
 refine WL.rf A (v:=.tuple #[ky.enc q.1,c.val]) (λa w t m=>?_) x (k _ k3 f)
 have j:=(m.loc n _ B).1
 have hr:=(m.loc key _ e).1
 dsimp only at j hr
 have C:=((stamped_iff es _).1 p).2.1
 have y:es.find? (·.born == c.born)=some c:=by rw[<-Array.find?_toList];exact find_born c es.toList C E
 have:(Instr.entry (.pointer (some ⟨r,0,none⟩))).run P w=.ok (.tuple #[c.key,c.val]) w:=by simp only[Instr.entry,getObj,abz,Sem.run,hr,j,Result.andThen,Array.back?_push,bne_self_eq_false,Ŝ,aaN,y];rfl
 rw[k2]at this
 simp[execOp,t.ev D,this]
theorem Y0.Ot{t e:TypeId}{x:Operand}{v:Value}{D:Ŀ (K×V)}{tk:ŀ Ow}(key:Nat)(l:P.underlying t=some (.map kt e))(h:Ù ky Rv v D tk)(c:L.get key=tk)(m:fr.ev x=some v):
  Y0 P N ⟨dst,.call ⟨.builtin .len,#[x],#[t]⟩,ty,pos,af,g⟩ fr (St w0 G0 G L) (.int .i64 (D.length:Int)):=λa w j k=>by
 obtain⟨b,es,clock,rfl,rfl,h3,n,i,p⟩:=h
 have d:=(k.loc key _ c).1
 dsimp only at d
 have f:=i.length
 rw[ł]at f
 simp[execOp,resolve,invoke,builtin,j.ev m,Builtin.len_,ē l,getObj,Sem.run,d,goInt,Result.andThen,f]
def pF{K V:Type}(r:Rp V)(G:Mem):K->Value->V->Prop:=λ_ u x=>∃cs,u=.agg cs.toArray/\r.er G cs x
theorem pF.mono{K V:Type}{r:Rp V}{G G':Mem}{k:K}{u:Value}{x:V}(a:Mem.le G G')(h:pF r G k u x):pF r G' k u x:=by obtain⟨cs,c,h2⟩:=h;exact⟨cs,c,r.mono a h2⟩
theorem Ù.qf{r:Rp V}{G G':Mem}{v:Value}{D:Ŀ (K×V)}{tk:ŀ Ow}(h:Ù ky (pF r G) v D tk)(a:Mem.le G G'):Ù ky (pF r G') v D tk:=h.imp λ_ _ _ h=>h.mono a
theorem fU.qf{r:Rp V}{G G':Mem}{a tk:ŀ Ow}{v:Value}{R:Ŀ (K×V)}{last:ŀ (K×V)}(h:fU ky (pF r G) a v R last tk)(c:Mem.le G G'):fU ky (pF r G') a v R last tk:=h.imp λ_ _ _ h=>h.mono c
end
section
variable {P:Program}{N:Nat}{Q:ï}{fr:Fr}{ops:Array Oper}{l:Ŀ Oper}{dst:ŀ Nat}{ty:TypeId}{pos:String}{af:Array Edge}{g:ŀ (Nat×Bool)}{w0:Bs}{G0 G:Mem}{L:Lo}
theorem Y0.OA{S:Ξ}{t e:TypeId}{x y:Operand}{sz:Nat}{k:IntKind}(f:P.underlying t=some (.slice e))(c:(P.info? e).map (·.size)=some sz)(h:fr.ev x=some (.slice none 0 0))(i:fr.ev y=some (.int k ((0:Nat):Int))):Y0 P N ⟨dst,.slice t x none (some y) none,ty,pos,af,g⟩ fr S (.slice none 0 0):=λa w d _=>by simp only[execOp,d.ev h,ŗ,Ğ,d.ev i];simp[Instr.sliceAt,ē f,Instr.slice,Instr.sliceBounds,Instr.sliceBound,asIntOf,run_sizeOf c]
theorem WL.r6{t j e:TypeId}{x y:Operand}{z:Value}{A:IntKind}{m bytes sz:Nat}(d:Nat)(J:ξ ops fr ⟨dst,.call ⟨.builtin .append,#[x,y],#[t,j]⟩,ty,pos,af,g⟩ true)(I:Ω N dst)(U:P.underlying t=some (.slice e))(r:P.underlying j=some (.int A))
  (E:jo P e z sz bytes) (s:z.cells.size=sz) (S:0<sz) (H:bytes<=100000) (V:fr.ev x=some (.slice none 0 0)) (W:fr.ev y=some (.int .i64 (m:Int))) (O:0<m) (q:m<=small)
  (k:∀f c zs,c<=maxLen->(zs:Ŀ Value).length=c*sz->WL P N ops Q l (θ dst (.slice (some ⟨f,0,none⟩) m c) fr) (St w0 G0 G ((d,some ⟨f,.cells zs.toArray e (0,0),0⟩)::L))):WL P N ops Q (⟨dst,.call ⟨.builtin .append,#[x,y],#[t,j]⟩,ty,pos,af,g⟩::l) fr (St w0 G0 G L):=by
 refine WL.yr (Φ:=λv w=>∃f c zs,v=.slice (some ⟨f,0,none⟩) m c/\c<=maxLen/\(zs:Ŀ Value).length=c*sz/\St w0 G0 G ((d,some ⟨f,.cells zs.toArray e (0,0),0⟩)::L) w) J (λa w n R=>?_) I (λv a w n ⟨f,c,zs,B,h3,C,D⟩=>by subst B;exact k f c zs h3 C a w n D)
 obtain⟨i,hi,X,T,F⟩:=E.parts
 have h:(Builtin.firstCells i.size 0 (.slice none 0 0)).run P w.drew=.ok ([]:Ŀ Value).toArray w.drew:=aaV _ _ _ _ _
 have hr:=ZhK (P:=P) w t j ty e i z A U r hi X ŉ none 0 0 m [] h O ŉ (by simpa[small]using q) ŉ
 rw[ņ]at hr
 have:(execOp a.eval ⟨dst,.call ⟨.builtin .append,#[x,y],#[t,j]⟩,ty,pos,af,g⟩).run P w=.ok (.value (.slice (some ⟨w.heap.size,0,none⟩) m (grownCap w m 0 e))) (w.drew.alloc (.cells (([]:Ŀ Value).toArray++Builtin.zeroCells z.cells m++Builtin.zeroCells z.cells (grownCap w m 0 e-m)) e)):=by simp only[execOp,resolve,invoke,builtin];simp only[abu,ġ,Ŕ,n.ev V,n.ev W,abz,hr,aaC,Sem.run_pure]
 rw[this]
 have K:=grownCap_ge w m 0 e
 have p:=aa5 w m 0 e (by simp only[small,maxLen]at *;omega)
 refine⟨_,_,(Builtin.zeroCells z.cells m++Builtin.zeroCells z.cells (grownCap w m 0 e-m)).toList,rfl,p,?_,?_⟩
 .rw[ł,aaA,aa4,aa4,s,<-ō]
  congr 1;omega
 have oG:St w0 G0 G L w.drew:=R.drew
 have hp:=oG.push d (.cells (([]:Ŀ Value).toArray++Builtin.zeroCells z.cells m++Builtin.zeroCells z.cells (grownCap w m 0 e-m)) e)
 have u:(([]:Ŀ Value).toArray++Builtin.zeroCells z.cells m++Builtin.zeroCells z.cells (grownCap w m 0 e-m))=(Builtin.zeroCells z.cells m++Builtin.zeroCells z.cells (grownCap w m 0 e-m)).toList.toArray:=by apply ź;simp
 rw[u]at hp
 rw[u]
 exact hp
end
section
variable {P:Program}{N:Nat}{Q:ï}{fr:Fr}{S Bt:Ξ}{w0:Bs}{G0 G:Mem}{L LF:Lo}{ops:Array Oper}{dst:ŀ Nat}{op:Op}{ty:TypeId}{pos:String}{af:Array Edge}{g:ŀ (Nat×Bool)}{fs:Ŀ Bool}{l:Ŀ Oper}{Ι:Fr}
theorem eY.y0{v:Value}(e:∀w,S w->Bt w)(i:ξ ops fr ⟨dst,op,ty,pos,af,g⟩ true)(h:Y0 P N ⟨dst,op,ty,pos,af,g⟩ fr S v)(f:Ω N dst)(k:eY P N ops Bt Q l (θ dst v fr) S):eY P N ops Bt Q (⟨dst,op,ty,pos,af,g⟩::l) fr S:=λa w c d=>by refine⟨e w d,?_⟩;rw[ą (c.wanted i)];simp only[Oper.wp,h a w c d,Oper.upon];exact k _ w (c.θ v f) d
theorem eY.nil(d:∀w,S w->Bt w)(h:WE N Q .normal fr S):eY P N ops Bt Q [] fr S:=λa w e c=>⟨d w c,h a w e c⟩
theorem eY.eW{t t':TypeId}{x y:Operand}{b off:Nat}{c:Array Value}{v:Value}(q:∀w,St w0 G0 G L w->Bt w)(i:Nat)(c':Array Value)(s:ξ ops fr ⟨none,.store t x y,ty,pos,af,g⟩ true)(A:(P.info? t).map (·.size)=some 1)
  (B:fr.ev x=some (.pointer (some ⟨b,off,none⟩))) (C:fr.ev y=some v) (hi:L.get i=some ⟨b,.cells c t' (0,0),0⟩) (u:off<c.size) (n:v.oneCell'=true) (nP:c.setIfInBounds off v=c')
  (k:eY P N ops Bt Q l fr (St w0 G0 G ((i,some ⟨b,.cells c' t' (0,0),0⟩)::L))):eY P N ops Bt Q (⟨none,.store t x y,ty,pos,af,g⟩::l) fr (St w0 G0 G L):=λa w e m=>by
 subst nP
 refine⟨q w m,?_⟩
 rw[ą (e.wanted s)]
 have f:=(m.loc i _ hi).1
 have p:=ŵ w b off c t' (0,0) f
 rw[Ō u]at p
 have r:=frozen_of_row w b off c t' f
 have h:v.cells = #[v]:=by cases v<;>first|rfl|simp[Value.oneCell']at n
 have:(execOp a.eval ⟨none,.store t x y,ty,pos,af,g⟩).run P w=.ok .skip (w.setCell ⟨b,off,none⟩ v):=by simp[execOp,e.ev B,e.ev C,Instr.storeAt,Instr.sureAddr,storeVar,run_sizeOf A,h,storeCells,run_store P w _ v _ n,oy,p,r]
 simp only[Oper.wp,this,Oper.upon]
 exact k _ _ (e.θ (d:=none) undef trivial) (m.rJ hi (QR f) (Ċ _) (λk _ j _=>absurd j (ĵ k)) (λk j=>Below.heap_setCell w ⟨b,off,none⟩ v k j) rfl rfl rfl rfl ß)
theorem γ.fQ{o:Oper}{c:Value}(a:ξ ops (Ι++fr) o true)(h:Y0 P N o (Ι++fr) Bt c)(k:γ P N Q fr w0 G0 G L ops Bt fs l (θ o.dst c Ι) []):
  γ P N Q fr w0 G0 G L ops Bt (true::fs) (o::l) Ι []:=.inl ⟨c,λ_ _ _ _=>⟨a,h⟩,k⟩
theorem γ.iM(e:Mem.le G0 G)(k:eY P N ops Bt (NX Q) l (Ι++fr) (St w0 G0 G L)):γ P N Q fr w0 G0 G L ops Bt [] l Ι []:=λ_ _ c _ a w d f=>k a w d (f.st.eI e c.1)
theorem WC.jA{id:Nat}(LF:Lo)(a:Lo.sub LF L)(fl:Ŀ Bool)(f:P.follows .mixedOrders=true)(d:jh N l fl=true)(h:Mem.le G0 G->γ P N Q fr w0 G0 G L l.toArray (St w0 G0 G LF) fl l [] []):
  WC P N (.region id l.toArray true) Q fr (St w0 G0 G L):=WC.sn (λe _ _ c g=>(g.st.eI e c.1).weaken a) fl f d h
end
section
variable {α:Type}{r:Rp α}{G:Mem}
abbrev eX(r:Rp α)(G:Mem):={q:Ŀ Value×α // r.er G q.1 q.2}
def eX.enc(a:eX r G):Ŀ Value:=a.1.1
theorem ÿ.elts:∀{l:Ŀ α}{cs:Ŀ Value},ÿ r G cs l->∃d:Ŀ (eX r G),cs=d.flatMap eX.enc/\d.map (λa=>a.1.2)=l
 |[],cs,h=>⟨[],h,rfl⟩
 |x::l,cs,h=>by obtain⟨c,d,rfl,e,h2⟩:=h;obtain⟨es,h3,f⟩:=ÿ.elts h2;exact⟨⟨(c,x),e⟩::es,by rw[h3];rfl,by rw[ġ,f]⟩
theorem ÿ.pg:∀d:Ŀ (eX r G),ÿ r G (d.flatMap eX.enc) (d.map (λa=>a.1.2))
 |[]=>rfl
 |a::d=>⟨a.1.1,d.flatMap eX.enc,rfl,a.2,ÿ.pg d⟩
end
variable {P:Program}{ρ:Go.Shelf.Ren}
set_option maxHeartbeats 1000000 in
theorem Dj{α:Type}{r:Rp α}{sz:Nat}(aj:r.size=sz)(h0:0<sz){K:α->α->Int}(R:Go.Sort.SWO (Go.Proofs.ltOf K))(S:Go.Proofs.SlLaysF0.n14 P ρ){f g:Nat}(hf:ρ.f 14=f)(aE:∀w,(isAgg (ρ.t 24)).run P w=.ok true w)(zE:∀w,(Go.sizeOf (ρ.t 24)).run P w=.ok sz w)
  (hg:∀(x y:α) (cx cy:Ŀ Value),iC P g #[.agg cx.toArray,.agg cy.toArray] (λG=>r.er G cx x/\r.er G cy y) (λ_ v=>v=.int .i64 (K x y))) (eg:∀args w,(callFunc g args).run P w=.ok (.enter g args) w)
  (e:TypeId) (p:ŀ Addr) (n c:Nat) (l:Ŀ α) (tk:ŀ Ow) (C:Nat) (aa:C<4611686018427387904) (al:l.length<=1000000000) :
  eR P f #[.slice p n c,.int .i64 0,.int .i64 (l.length:Int),.int .i64 (C:Int),.func (.func g) #[] #[]] [(5000,tk)] (λG=>Β r e G (.slice p n c) l tk)
   (λG L v=>∃ys ae,L=[(5000,ae)]/\v=.tuple #[]/\Β r e G (.slice p n c) ys ae/\ys.Perm l/\ys.Pairwise (λa b=>Go.Proofs.ltOf K b a=false)):=by
 subst hf
 intro w G hi q
 by_cases F:l=[]
 .subst F
  obtain⟨p',c',J⟩:=q.form
  cases J
  refine(aap S p c (C:Int) _ w).mono ?_
  rintro en w' ⟨rfl,rfl⟩
  exact⟨_,G,[(5000,tk)],rfl,hi.st.kH,[],tk,rfl,rfl,q,eH _,List.Pairwise.nil⟩
 cases tk with
 |none=>exact absurd q.1 F
 |some y=>
  obtain⟨cap,cs,rest,h1,h2,h3,h4,h5,h6,h7⟩:=q
  obtain⟨b,o,m⟩:=y
  dsimp only at h1 h2 h3
  subst h2 h3
  cases h1
  obtain⟨d,ag,hd⟩:=ÿ.elts h4
  subst ag
  have X:d.length=l.length:=by rw[<-hd,ć]
  haveI:Inhabited (eX r G):=⟨d[0]'(by have:=š.2 F;omega)⟩
  have hl:∀x:eX r G,(eX.enc x).length=sz:=λx=>by rw[<-aj];exact r.len x.2
  have ac:∀x:eX r G,∀v∈eX.enc x,v.oneCell'=true:=λx=>r.one x.2
  let cf:eX r G->eX r G->Int:=λx y=>K x.1.2 y.1.2
  have hO:Go.Sort.SWO (Go.Proofs.ltOf cf):=⟨λx=>R.irrefl x.1.2,λx y z=>R.trans x.1.2 y.1.2 z.1.2,λx y z=>R.ntrans x.1.2 y.1.2 z.1.2⟩
  have D:Lo.get [(5000,some ⟨b,Obj.cells (d.flatMap eX.enc++rest).toArray e (0,0),0⟩)] 5000=some ⟨b,.cells (d.flatMap eX.enc++rest).toArray e (0,0),0⟩:=by simp[Lo.get]
  obtain⟨V,N⟩:=hi.loc 5000 _ D
  dsimp only at V N
  have W:b<w.heap.size:=(ĕ.1 V).1
  have Z:∀(m:Nat) (os:Array Obj) (U:Array (eX r G)),rM G (Go.Proofs.sortWorldK eX.enc sz w b 0 m U os):=by
   intro m os U b' o' v J;have s:b'≠b:=λe=>by subst e;rw[N o' (Ĝ _)]at J;cases J
   have O:=hi.jj b' o' v J;have ai:b'<w.heap.size:=rM.lt hi.jj J;have hh:(Go.Proofs.sortWorldK eX.enc sz w b 0 m U os).heap[b']?=w.heap[b']?:=by simp only[Go.Proofs.sortWorldK,Go.Sort.putRowK,Go.Sort.grow,Go.Sort.putRow,Go.Sort.mapBlock,Go.Sort.ahead];rw[ň (by simpa using ai),ĩ,ā (λe=>s e.symm)]
   unfold World.cell? at O⊢;dsimp only at O⊢;rw[hh];exact O
  have O:Go.Proofs.CmpLays P g #[] eX.enc sz cf b 0 d.toArray.size w:=by intro m os U _ x y;refine(hg x.1.2 y.1.2 x.1.1 y.1.1 _ G ⟨Z m os U,λi x t=>by simp[Lo.get]at t,λi j x y _ t=>by simp[Lo.get]at t⟩ ⟨x.2,y.2⟩).mono ?_;rintro en w' ⟨r',G',L',he,t,rfl⟩;exact⟨he,RQ t.os t.tape t.output t.drawn t.size λk E=>t.block k E (λ_ _ h=>by simp[Lo.get]at h)⟩
  have hH:Go.Sort.HoldsK eX.enc sz w b 0 d.toArray:=by
   unfold Go.Sort.HoldsK;rw[Q6 hl h0];intro j T;simp only[Į]at T;have:(d.flatMap eX.enc)[j]?=some (d.flatMap eX.enc)[j]:=Ą T;constructor
   .simp only[World.cell?,V,ņ,Option.isSome_none,Ŝ,aaN,Ġ];rw[Ė T,this];rw[ų _ _ (by simpa using T)];simp
   simp[World.frozen?,V]
  have hS:=Go.Proofs.AnyQ.pdqsortCmpFunc_all S sz aE zE eX.enc cf g #[] hO b 0 c d.toArray w eg O ⟨hl,ac,hH,W⟩ (d.toArray.size+1) 0 d.toArray.size C d.toArray w ŉ rfl (Go.Proofs.SWK.start hH) (Ĝ _) (Ċ _) ab0 aa (Or.inl rfl)
  have B:=Go.Sort.pdq_sorts (Go.Proofs.ltOf cf) hO d.toArray 0 d.toArray.size C true true (Ĝ _) (Ċ _) (Or.inl rfl)
  generalize Go.Sort.pdq (Go.Proofs.ltOf cf) d.toArray 0 d.toArray.size C true true=d' at hS B
  obtain⟨⟨ad,_,H⟩,I⟩:=B
  have A:d'.toList.Perm d:=by
   have e1:(d'.extract 0 d.toArray.size).toList=d'.toList:=by rw[<-ad,Array.extract_size]
   have e2:(d.toArray.extract 0 d.toArray.size).toList=d:=ß;rw[e1,e2]at H;exact H
  rw[show(d.toArray.size:Nat)=l.length by simpa using X]at hS
  refine aa1 (by simpa using hS) ?_
  rintro en w' ⟨rfl,n,os,hw⟩
  have Q:d'.toList.length=d.length:=A.length_eq
  have lx:w'=Go.Sort.grow (Go.Sort.putRow id (Go.Sort.ahead w n) b 0 (d'.toList.flatMap eX.enc).toArray) os:=by rw[hw];simp only[Go.Proofs.sortWorldK,Go.Sort.putRowK];have:=Q6 hl h0 d'.toList;rw[Array.toArray_toList]at this;rw[this]
  have u:∀k,k<w.heap.size->k≠b->w'.heap[k]?=w.heap[k]?:=by intro k E s;rw[lx];simp only[Go.Sort.grow,Go.Sort.putRow,Go.Sort.mapBlock,Go.Sort.ahead];rw[ň (by simpa using E),ĩ,ā (λe=>s e.symm)]
  have Y:(d'.toList.flatMap eX.enc).length=(d.flatMap eX.enc).length:=by rw[AK hl,AK hl,Q]
  have q:w'.heap[b]?=some (.cells (d'.toList.flatMap eX.enc++rest).toArray e (0,0)):=by
   rw[lx];simp only[Go.Sort.grow,Go.Sort.putRow,Go.Sort.mapBlock,Go.Sort.ahead];rw[ň (by simpa using W),ĩ,ą rfl,V];simp only[Ğ,Go.Sort.onCells,Đ,Obj.cells.injEq,and_true];apply aao;intro k;simp only[Go.Sort.putCells,Array.getElem?_mapIdx,Ġ,Ĝ,true_and,ņ,aaB,Į,id];by_cases E:k<(d.flatMap eX.enc).length
   .rw[Ė E,Ė ŉ,Ą E,Ą (by omega:k<(d'.toList.flatMap eX.enc).length)];simp only[Ğ,ą (show k<(d'.toList.flatMap eX.enc).length by omega)];rw[ų _ _ (by simp only[Į];omega)];simp
   rw[ģ ŉ,ģ ŉ,Y];cases rest[k-(d.flatMap eX.enc).length]? with
   |none=>rfl
   |some v=>simp only[Ğ,ā E]
  have ak:w.heap.size<=w'.heap.size:=by rw[lx];simp[Go.Sort.grow,Go.Sort.putRow,Go.Sort.mapBlock,Go.Sort.ahead]
  have one:∀j x,Lo.get [(5000,some (⟨b,Obj.cells (d'.toList.flatMap eX.enc++rest).toArray e (0,0),0⟩:Ow))] j=some x->x=⟨b,Obj.cells (d'.toList.flatMap eX.enc++rest).toArray e (0,0),0⟩/\5000=j:=by
   intro j x t;rw[Lo.Zp]at t;split at t
   .rename_i e';cases t;exact⟨rfl,e'⟩
   simp[Lo.get]at t
  have ab:(d'.toList.map (λa=>a.1.2)).length=l.length:=by rw[ć,Q,X]
  refine⟨_,G,[(5000,some ⟨b,.cells (d'.toList.flatMap eX.enc++rest).toArray e (0,0),0⟩)],rfl,⟨by rw[lx];rfl,by rw[lx];rfl,by rw[lx];rfl,by rw[lx];simp[Go.Sort.grow,Go.Sort.putRow,Go.Sort.mapBlock,Go.Sort.ahead],ak,?_,Mem.le_refl _,?_,λ_ _ _ h=>.inl h,?_,?_⟩,d'.toList.map (λa=>a.1.2),_,rfl,rfl,?_,?_,?_⟩
  .intro k E hn
   exact u k E λe=>by subst e;exact hn 5000 _ D rfl
  .intro k o v J
   have O:=hi.jj k o v J
   have s:k≠b:=λe=>by subst e;rw[N o (Ĝ _)]at J;cases J
   have E:k<w.heap.size:=aas w _ O
   simp only[World.cell?,u k E s]at O⊢
   exact O
  .intro j x T
   obtain⟨rfl,rfl⟩:=one j x T
   exact⟨q,.inl ⟨_,D,rfl⟩,N⟩
  .intro j k x y s h1 h2
   exact absurd ((one j x h1).2.symm.trans (one k y h2).2) s
  .refine⟨c,d'.toList.flatMap eX.enc,rest,by rw[ab],rfl,rfl,ÿ.pg _,?_,h6,by rw[ab];exact h7⟩
   rw[Ā,Y,<-Ā];exact h5
  .have:=A.map (λa=>a.1.2)
   rwa [hd]at this
  rw[ei]
  rw[Ī]
  intro i j kB ki ah
  have hs:=I i j (Ĝ _) ah (by simp only[ł]at ki;omega)
  rw[ų _ _ (by simpa using ki),ų _ _ (by simpa using kB)]at hs
  simp only[aaO]
  exact hs
section
variable {P:Program}{kt:TypeId}{K V:Type} [DecidableEq K] {ky:Ky P kt K}{Rv Rv':K->Value->V->Prop}
variable {N:Nat}{Q:ï}{fr:Fr}{S:Ξ}{ops:Array Oper}{l:Ŀ Oper}{dst:ŀ Nat}{ty:TypeId}{pos:String}{af:Array Edge}{g:ŀ (Nat×Bool)}{w0:Bs}{G0 G:Mem}{L:Lo}
variable {fs:Ŀ Bool}{Ι:Fr}{Ρ:jr}{d:Nat}{op:Op}
omit [DecidableEq K] in
end
section
variable {P:Program}{N:Nat}{Q:ï}{fr:Fr}{w0:Bs}{G0 G:Mem}{L:Lo}{ops:Array Oper}{ty:TypeId}{pos:String}{af:Array Edge}{g:ŀ (Nat×Bool)}{fs:Ŀ Bool}{l:Ŀ Oper}{Ι:Fr}{Ρ:jr}{d:Nat}{op:Op}{φ:Mem->Value->Prop}
variable {α:Type}{r:Rp α}{e:TypeId}
theorem γ.yF{d0 d1 d2 d3 d4 d5 d6:Nat}{c d e f h i j:Value->Gx->Prop}(k:∀n p q r s t v (G':Gx),Mem.le G G'.m->c n G'->d p G'->e q G'->f r G'->h s G'->i t G'->j v G'->WL P N ops (NX Q) l ((d0,n)::(d1,p)::(d2,q)::(d3,r)::(d4,s)::(d5,t)::(d6,v)::(Ι++fr)) (gr w0 G0 G' L)):γ P N Q fr w0 G0 G L ops (λ_=>True) [] l Ι [(d0,c),(d1,d),(d2,e),(d3,f),(d4,h),(d5,i),(d6,j)]:=λu g m a=>eY.of (k (u d0) (u d1) (u d2) (u d3) (u d4) (u d5) (u d6) g m.1 a.1 a.2.1 a.2.2.1 a.2.2.2.1 a.2.2.2.2.1 a.2.2.2.2.2.1 a.2.2.2.2.2.2.1)
end
theorem Oper.ZBw{P:Program}{o:Oper}{a:Act}{w:World}{K:Act->World->Prop}{Q Q':ï}(h:o.wp P a w K (NX Q)):o.wp P a w K (NX Q'):=by
 unfold Oper.wp at h⊢;generalize (execOp a.eval o).run P w=r at h⊢;cases r with
 |ok x w'=>
  cases x<;>simp only[Oper.upon]at h⊢
  case value v=>exact h
  case skip=>exact h
  case defer d=>exact h
  case enter f args=>
   refine aa1 h λe i g=>?_
   cases e with
   |returned v=>exact g
   |panicked c=>exact g
   |outgrown=>obtain⟨_,_,g⟩:=g;exact g.elim
  case row row args=>exact h
 |halt x w'=>cases x<;>simp only[Oper.upon]at h⊢;exact h
section
variable {P:Program}{N:Nat}{Q:ï}{fr:Fr}{S Bt:Ξ}{w0:Bs}{G0 G:Mem}{L:Lo}{ops:Array Oper}{ty:TypeId}{pos:String}{af:Array Edge}{g:ŀ (Nat×Bool)}{l:Ŀ Oper}{o:Oper}
theorem eY.one(g:∀w,S w->Bt w)(h:WL P N ops (NX λ_ a w=>gD P ops Bt (NX Q) l a w) [o] fr S):eY P N ops Bt (NX Q) (o::l) fr S:=λa w i e=>by
 refine⟨g w e,?_⟩;have h:=h a w i e;unfold wpList at h;split at h
 .rename_i c;rw[ą c];rcases h with h|⟨_,d,f,j⟩
  .exact Oper.ZBw h
  exact j.elim
 rename_i c;rw[ā c];exact h
theorem eY.back{rF:Fr}{S':Ξ}(h:eY P N ops Bt (NX Q) l rF S'):WL P N ops (NX λ_ a w=>gD P ops Bt (NX Q) l a w) [] rF S':=λa w c d=>h a w c d
end
section
variable {P:Program}{N:Nat}{dst:ŀ Nat}{ty:TypeId}{pos:String}{af:Array Edge}{g:ŀ (Nat×Bool)}{G:Mem}{α:Type}{r:Rp α}
theorem Δ.cut{t e:TypeId}{n cap sz:Nat}{p:ŀ Addr}{xs:Ŀ α}{lo hi:Int}(low high:ŀ Value)(q:(P.info? e).map (·.size)=some sz)(m:sz=r.size)(x:P.underlying t=some (.slice e))(h:Δ r G (.slice p n cap) xs)
  (l:low=none/\lo=0\/∃k,low=some (.int k lo)) (j:high=none/\hi=(xs.length:Int)\/∃k,high=some (.int k hi)) (C:0<=lo/\lo<=hi/\hi<=(xs.length:Int)) :
  ∃p' c,Δ r G (.slice p' ((xs.take hi.toNat).drop lo.toNat).length c) ((xs.take hi.toNat).drop lo.toNat)/\∀w,(Instr.slice t (.slice p n cap) low high none).run P w=.ok (.slice p' ((xs.take hi.toNat).drop lo.toNat).length c) w:=by
 have v:n=xs.length:=by obtain⟨p',c,cs,d,_⟩:=h;cases d;rfl
 have u:n<=cap/\cap<=9223372036854775807:=by obtain⟨p',c,cs,d,h2,_⟩:=h;cases d;exact h2
 have g:∀a,p=some a->0<cap->a.spot=none:=by obtain⟨p',c,cs,d,_,h2,_⟩:=h;cases d;exact h2
 have f:((xs.take hi.toNat).drop lo.toNat).length=hi.toNat-lo.toNat:=ab0
 refine⟨if cap=lo.toNat then p else p.map (·.add (lo.toNat*sz)),cap-lo.toNat,?_,λw=>?_⟩
 .rw[f]
  refine h.take ŉ ŉ ?_ ŉ
  by_cases s:cap=lo.toNat
  .right
   rw[ą s]
   exact⟨ŉ,rfl,ŉ⟩
  left
  rw[ā s]
  cases p with
  |none=>rfl
  |some a=>
   obtain⟨y,A,B⟩:=a
   have:=g _ rfl ŉ
   dsimp only at this
   subst this
   simp only[Ğ,oy,m]
 have i:(Instr.sliceBounds true n cap low high none).run P w=.ok (lo.toNat,hi.toNat,cap) w:=by
  rcases l with ⟨rfl,rfl⟩|⟨k,rfl⟩<;>rcases j with ⟨rfl,rfl⟩|⟨k',rfl⟩
  .simp[Instr.sliceBounds,v]
  .have d:0<=hi/\hi<=(cap:Int):=ŉ;simp[Instr.sliceBounds,Instr.sliceBound,asIntOf,d]
  .have d:0<=lo/\lo<=(n:Int):=ŉ;simp[Instr.sliceBounds,Instr.sliceBound,asIntOf,d,v];intro h;omega
  have d:0<=hi/\hi<=(cap:Int):=ŉ;have h2:0<=lo/\lo<=((hi.toNat:Nat):Int):=ŉ;simp[Instr.sliceBounds,Instr.sliceBound,asIntOf,d,h2];intro h;omega
 rw[f]
 simp[Instr.slice,ē x,i,run_sizeOf q]
theorem Y0.BV{S:Ξ}{F:Fr}{t e:TypeId}{x f:Operand}{d:IntKind}{lo:Int}{u v:Value}(j:P.underlying t=some (.slice e))(h:∀w,(Instr.slice t u (some (.int d lo)) none none).run P w=.ok v w)(k:F.ev x=some u)(i:F.ev f=some (.int d lo)):
  Y0 P N ⟨dst,.slice t x (some f) none none,ty,pos,af,g⟩ F S v:=λa w c _=>by
 simp only[execOp,c.ev k,c.ev i,ŗ,Ğ]
 simp[Instr.sliceAt,ē j,h w]
end
section
variable {P:Program}{N:Nat}{Q:ï}{fr:Fr}{S:Ξ}{ops:Array Oper}{l:Ŀ Oper}{dst:ŀ Nat}{ty:TypeId}{pos:String}{af:Array Edge}{g:ŀ (Nat×Bool)}{w0:Bs}{G0 G:Mem}{L L':Lo}
variable {α:Type}{A B:Cq α}{Φ:α->Prop}{p:Prop} [Decidable p] {b:Bool}
theorem z{α:Sort _}{a:α}:a=a:=rfl
abbrev mx:=@Mem.le_trans
abbrev fc:=@Fr.Zi
abbrev lc:=@Lo.Zi
abbrev lw:=@Lo.GJ
theorem wk(h:Lo.sub L' L):∀w,St w0 G0 G L w->St w0 G0 G L' w:=λ_ a=>a.weaken h
theorem ln:Lo.sub [] L:=Lo.Zq L
theorem fn{fr:Fr}:Fr.sub [] fr:=Fr.Zq fr
theorem mr:Mem.le G G:=Mem.le_refl G
theorem WC.cr{c:Operand}{x y:Code}(hr:(if p then A else B).wp Φ)(a:fr.ev c=some (.bool (decide p)))(e:p->A.wp Φ->WC P N x Q fr S)(d:¬p->B.wp Φ->WC P N y Q fr S):WC P N (.cond c x y) Q fr S:=
 WC.Ê a (λh=>e h (by rwa [ą h]at hr)) (λh=>d h (by rwa [ā h]at hr))
theorem WC.V7{c:Operand}{x y:Code}(hr:(if b=true then A else B).wp Φ)(a:fr.ev c=some (.bool b))(e:b=true->A.wp Φ->WC P N x Q fr S)(d:b=false->B.wp Φ->WC P N y Q fr S):WC P N (.cond c x y) Q fr S:=
 WC.cond a (λh=>e h (by rwa [ą h]at hr)) (λh=>d h (by rwa [ā (by rw[h];decide)]at hr))
theorem WL.cr{op:Op}(hr:(if p then A else B).wp Φ)(c:ξ ops fr ⟨dst,op,ty,pos,af,g⟩ true)(h:Y0 P N ⟨dst,op,ty,pos,af,g⟩ fr S (.bool (decide p)))(a:Ω N dst)
  (kt:p->A.wp Φ->WL P N ops Q l (θ dst (.bool true) fr) S) (d:¬p->B.wp Φ->WL P N ops Q l (θ dst (.bool false) fr) S):WL P N ops Q (⟨dst,op,ty,pos,af,g⟩::l) fr S:=
 WL.kO c h a (λh=>kt h (by rwa [ą h]at hr)) (λh=>d h (by rwa [ā h]at hr))
theorem γ.cr{Bt:Ξ}{fs:Ŀ Bool}{r:Ŀ Oper}{Ι:Fr}{o:Oper}(hr:(if p then A else B).wp Φ)(a:ξ ops (Ι++fr) o true)(h:∀G',Mem.le G G'->Y0 P N o (Ι++fr) (St w0 G0 G' L) (.bool (decide p)))
  (kt:p->A.wp Φ->γ P N Q fr w0 G0 G L ops Bt fs r (θ o.dst (.bool true) Ι) []) (c:¬p->B.wp Φ->γ P N Q fr w0 G0 G L ops Bt fs r (θ o.dst (.bool false) Ι) []):γ P N Q fr w0 G0 G L ops Bt (false::fs) (o::r) Ι []:=
 γ.kO a h (λh=>kt h (by rwa [ą h]at hr)) (λh=>c h (by rwa [ā h]at hr))
theorem cs{Bt:Ξ}{fs:Ŀ Bool}{Ι:Fr}{op:Op}{j d:Nat}{c:Bool}(a:(ops[j]?).bind (·.dst)=some d)(h2:(Ι++fr).get d=some undef)(k:γ P N Q fr w0 G0 G L ops Bt fs l (θ dst undef Ι) []):γ P N Q fr w0 G0 G L ops Bt (false::fs) (⟨dst,op,ty,pos,af,some (j,c)⟩::l) Ι []:=γ.skip (Q7 a h2) k
theorem ct{Bt:Ξ}{fs:Ŀ Bool}{Ι:Fr}{op:Op}{j d:Nat}(a:(ops[j]?).bind (·.dst)=some d)(h2:(Ι++fr).get d=some (.bool false))(k:γ P N Q fr w0 G0 G L ops Bt fs l (θ dst undef Ι) []):γ P N Q fr w0 G0 G L ops Bt (false::fs) (⟨dst,op,ty,pos,af,some (j,true)⟩::l) Ι []:=γ.skip (K6 a h2) k
theorem cf{Bt:Ξ}{fs:Ŀ Bool}{Ι:Fr}{op:Op}{j d:Nat}(a:(ops[j]?).bind (·.dst)=some d)(h2:(Ι++fr).get d=some (.bool true))(k:γ P N Q fr w0 G0 G L ops Bt fs l (θ dst undef Ι) []):γ P N Q fr w0 G0 G L ops Bt (false::fs) (⟨dst,op,ty,pos,af,some (j,false)⟩::l) Ι []:=γ.skip (Bc a h2) k
theorem cy{Bt:Ξ}{fs:Ŀ Bool}{Ι:Fr}{op:Op}{v:Value}{j d:Nat}{c:Bool}(a:(ops[j]?).bind (·.dst)=some d)(h2:(Ι++fr).get d=some (.bool c))(h:∀G',Mem.le G G'->Y0 P N ⟨dst,op,ty,pos,af,some (j,c)⟩ (Ι++fr) (St w0 G0 G' L) v)(k:γ P N Q fr w0 G0 G L ops Bt fs l (θ dst v Ι) []):γ P N Q fr w0 G0 G L ops Bt (false::fs) (⟨dst,op,ty,pos,af,some (j,c)⟩::l) Ι []:=γ.y0 (rV a h2) h k
end
def Rp.arr{α:Type}(r:Rp α)(n:Nat):Rp (Ŀ α) where
 size:=n*r.size
 er G cs xs:=ÿ r G cs xs/\xs.length=n
 len:=λ⟨h,e⟩=>by rw[h.len,e]
 mono:=λa ⟨h,e⟩=>⟨h.mono a,e⟩
 one:=λ⟨h,_⟩=>h.one
def É{α:Type}(r:Rp α)(n:Nat)(G:Mem)(cs:Ŀ Value)(_:Unit)(xs:Ŀ α):Prop:=(Rp.arr r n).er G cs xs
section
variable {α:Type}{r:Rp α}{n:Nat}{G:Mem}{cs:Ŀ Value}{u:Unit}{xs:Ŀ α}
theorem É.mono{G':Mem}(h:É r n G cs u xs)(a:Mem.le G G'):É r n G' cs u xs:=(Rp.arr r n).mono a h
theorem É.size(h:É r n G cs u xs):cs.toArray.size=n*r.size:=by rw[Į];exact(Rp.arr r n).len h
theorem É.one(h:É r n G cs u xs):∀v∈cs.toArray.toList,v.oneCell'=true:=λv a=>(Rp.arr r n).one h v (by simpa using a)
theorem É.lt{z:α}{i:Int}(h:É r n G cs u xs)(hi:0<=i/\xs[i.toNat]?=some z):0<=i/\i<(n:Int):=by have:=(ċ.1 hi.2).1;have e:=h.2;omega
theorem É.at{z:α}{i:Int}(h:É r n G cs u xs)(hi:0<=i/\xs[i.toNat]?=some z):AtK r G (λo v=>cs.toArray[o]?=some v) (i.toNat*r.size) z:=by obtain⟨c,a,h2⟩:=h.1.get hi.2;exact⟨c,a,λj v d=>by show cs.toArray[_]?=some v;rw[Ġ];exact h2 j v d⟩
theorem É.zero{zc:Ŀ Value}{z:α}(h:r.er G zc z):É r n G (List.replicate n zc).flatten () (List.replicate n z):=by
 refine⟨?_,ļ⟩;induction n with
 |zero=>exact rfl
 |succ n a=>exact⟨zc,_,by simp[aam],h,a⟩
end
section
variable {P:Program}{N:Nat}{Q:ï}{fr:Fr}{S:Ξ}{dst:ŀ Nat}{ops:Array Oper}{l:Ŀ Oper}{ty:TypeId}{pos:String}{af:Array Edge}{g:ŀ (Nat×Bool)}{w0:Bs}{G0 G:Mem}{L:Lo}{α:Type}{r:Rp α}
theorem Y0.wg{t e:TypeId}{x y:Operand}{len b sz:Nat}{k:IntKind}{i:Int}(c:P.underlying t=some (.array len e))(a:(P.info? e).map (·.size)=some sz)
  (d:fr.ev x=some (.pointer (some ⟨b,0,none⟩))) (f:fr.ev y=some (.int k i)) (hi:0<=i/\i<len):Y0 P N ⟨dst,.indexAddr t x y,ty,pos,af,g⟩ fr S (.pointer (some ⟨b,i.toNat*sz,none⟩)):=
 (Y0.nu c a d f hi).eq ß
theorem WL.u5{t t':TypeId}{x y:Operand}{b n sz:Nat}{val:Value}{cs cs':Ŀ Value}{i:Int}{xs:Ŀ α}{z z':α}{u:Unit}(key:Nat)(H:ξ ops fr ⟨none,.store t x y,ty,pos,af,g⟩ true)(K:(P.info? t).map (·.size)=some sz)(j:sz=r.size)
  (J:n<=maxLen) (h:É r n G cs u xs) (f:L.get key=some ⟨b,.cells cs.toArray t' (0,0),0⟩) (O:fr.ev x=some (.pointer (some ⟨b,i.toNat*sz,none⟩))) (R:fr.ev y=some val) (c:val.cells=cs'.toArray) (a:r.er G cs' z') (hi:0<=i/\xs[i.toNat]?=some z)
  (k:∀s,É r n G s u (xs.set i.toNat z')->WL P N ops Q l fr (St w0 G0 G ((key,some ⟨b,.cells s.toArray t' (0,0),0⟩)::L))):WL P N ops Q (⟨none,.store t x y,ty,pos,af,g⟩::l) fr (St w0 G0 G L):=by
 obtain⟨C,h2⟩:=h
 have hr:Β r t' G (.slice (some ⟨b,0,none⟩) n n) xs (some ⟨b,.cells cs.toArray t' (0,0),0⟩):=
  ⟨n,cs,[],by rw[h2],ß,rfl,C,by simp[C.len,h2],J,ŉ⟩
 refine WL.storeT (p:=some ⟨b,0,none⟩) (n:=n) (cap:=n) key H K j hr f O R c a hi λm Ny=>?_
 cases m with
 |none=>
  obtain⟨e,_⟩:=Ny
  have I:(xs.set i.toNat z').length=0:=by rw[e];rfl
  rw[ħ]at I
  have:=(ċ.1 hi.2).1
  omega
 |some q=>
  obtain⟨cap,d,rest,E,v,A,B,F,_⟩:=Ny
  obtain⟨qb,U,T⟩:=q
  dsimp only at v A
  subst v A
  cases E
  have D:=B.len
  rw[ħ,h2]at D
  have S:rest=[]:=Ŋ (by rw[Ā,D]at F;omega)
  subst S
  simp only[ę]
  exact k d ⟨B,by rw[ħ]⟩
end
end Go.EL

namespace Go.EL
open Go.IntKind (i8 i16 i32 i64 u8 u16 u32 u64)
open Go Go.RowKit Go.Proofs Go.ChangeShapes Go.WideShapes Go.ChangeAt
theorem QI{H:Type}{enc:TypeId×Value->H}{P:Program}(g:laidOutB P=true){W W':World}(f:Below W.heap.size W W'):∀{a:Ŀ TypeId}{vs:Ŀ Value}{c:Ŀ (DataW H)}{ps:Ŀ MemPlace},
  (a.all λt=>P.readableRec t&&decide (t<P.types.size))=true->DataW.TrodAll enc P W 0 (λ_=>true) true a vs c ps->DataW.TrodAll enc P W' 0 (λb=>decide (b<W.heap.size)) true a vs c ps
 |[],[],[],_,_,h=>h
 |t::a,v::vs,d::c,ps,hr,h=>by have e:=DataW.TrodAll.lt h;obtain⟨p,q,i,h2,rfl⟩:=h;simp only[abo,ĉ,Ě]at hr;exact⟨p,q,Below.trod g hr.1.1 hr.1.2 i f (λx j=>e x (by simp[j])),QI g f hr.2 h2,rfl⟩
 |[],[],_::_,_,_,h=>h.elim
 |[],_::_,_,_,_,h=>h.elim
 |_::_,[],_,_,_,h=>h.elim
 |_::_,_::_,[],_,_,h=>h.elim
theorem Rn{H:Type}{enc:TypeId×Value->H}{P:Program}{w:World}{b:Nat}{e:Nat->Bool}{held:Bool}:∀{c:Ŀ TypeId}{vs:Ŀ Value}{a:Ŀ (DataW H)}{ps:Ŀ MemPlace},DataW.TrodAll enc P w b e held c vs a ps->a.length=c.length
 |[],[],[],_,_=>rfl
 |t::c,v::vs,d::a,ps,h=>by obtain⟨p,q,f,h2,rfl⟩:=h;simp[Rn h2]
 |[],[],_::_,_,h=>h.elim
 |[],_::_,_,_,h=>h.elim
 |_::_,[],_,_,h=>h.elim
 |_::_,_::_,[],_,h=>h.elim
theorem Ext.below{w w':World}{G G':Mem}{L':Lo}(h:Ext w G [] w' G' L'):Below w.heap.size w w':=⟨h.os,h.tape,h.output,h.size,λk a=>h.block k a (λ_ _ e=>(by simp[Lo.get]at e))⟩
def nX{H:Type}(enc:TypeId×Value->H)(P:Program)(f:FuncId)(a:Ŀ TypeId):Prop:=
 ∀(W:World) (base:Nat) (args:Array Value) (c:Ŀ (DataW H)) (p:Ŀ MemPlace),(∀(j:Nat) t v,a[j]?=some t->args[j]?=some v->Value.okWide P W .any base t v)->
  DataW.TrodAll enc P W 0 (λ_=>true) true a args.toList c p->Calls P f args W λe w'=>e=.returned (.bool true)/\Below W.heap.size W w'
theorem ZvL{C:Checked}{os:Os}{f:FuncId}{fn:Func}{s:ChangeSpec}{a:Ŀ PathCond}{D:TypeId}{H:Type}{enc:TypeId×Value->H}
  (own:ownKnob C.prog.godebug=none) (d:os.Started) (l:C.prog.inits.idxOf? f=none) (B:C.prog.funcs[f]?=some fn)
  (g:∃(w:World) (tape:Tape) (i:Input),w.os=os/\(w.forCall tape i).Shaped C.prog/\i.vars=[]/\Input.okWide C.prog (w.forCall tape i) .any w.heap.size f i/\
   s.pre6 enc C.prog fn a false (w.forCall tape i).memory i.args/\({}:Assume).holds C.prog (lone (Frame.enter C.prog f i.args .normal) [] (w.forCall tape i)))
  (N:laidOutB C.prog=true) (hr:(fn.params.toList.all λt=>C.prog.readableRec t&&decide (t<C.prog.types.size))=true) (n:fn.resultTypes = #[D]) (A:C.prog.underlying D=some .bool) (I:s.vars=[])
  (P:∀k:Ŀ (DataW H),k.length=fn.params.toList.length->s.fn H k = { results:=[.lit (.bool true)],args:=k })
  (u:nX enc C.prog f fn.params.toList) :
  ReturnsInHanded {} C os f .any (s.pre6 enc C.prog fn a false) (s.post enc C.prog fn false true false false):=by
 refine returnsInHanded_of_change own d l B g ?_
 intro W base args k Q x r F _ _
 have Nx:=F
 obtain⟨p,q,y,E,rfl,L,O⟩:=F
 rw[I]at E
 obtain⟨rfl,rfl⟩:=trodVars_none E
 refine(u W base args k p (λj t v J h2=>r j t v (by simpa using J) h2) y).mono λe w' ⟨K,G⟩=>?_
 subst K
 have m:=Rn y
 have c:s.fn H (k++[]) = { results:=[.lit (.bool true)],args:=k }:=by rw[ę];exact P k m
 refine⟨_,rfl,k,[],p++[],[],p,[],Nx,?_,?_,?_,Below.frame G _,λh=>by cases h⟩
 .rw[c,n]
  exact trodAll_mk1 (shut_bool A true)
 .rw[c]
  exact QI N G hr y
 rw[c,I];rfl
theorem wf_u8{x:Int}(h:(Lit.int .u8 x).wf=true):0<=x/\x<=255:=by simp only[Lit.wf,ĉ,Ě]at h;have a:u8.min=0:=ĳ;have h2:u8.max=255:=ĳ;omega
theorem iC.law{P:Program}{f:FuncId}{args:Array Value}{pre:Mem->Prop}(h:iC P f args pre (λ_ r=>r=.bool true))(W:World)(G:Mem)(hi:rM G W)(hp:pre G):Calls P f args W λe w'=>e=.returned (.bool true)/\Below W.heap.size W w':=
 (h W G ⟨hi,(by intro _ _ h;simp[Lo.get]at h),(by intro _ _ _ _ _ h;simp[Lo.get]at h)⟩ hp).mono λ_ _ ⟨_,_,_,a,h2,h3⟩=>⟨by rw[a,h3],h2.below⟩
def jz(W:World):Mem:=λb o=>W.cell? ⟨b,o,none⟩
theorem Zz0(W:World):rM (jz W) W:=by intro _ _ _ h;exact h
theorem S3(a:Addr)(n:Nat)(h:a.spot=none):a.add n=⟨a.block,a.off+n,none⟩:=by
 unfold Addr.add;split
 .rename_i c;subst c;cases a;simp_all
 rfl
structure ý {α:Type}(P:Program) (W:World) (t:TypeId) (r:Rp α) (ok:α->Prop):Prop where
 go:∀{H:Type}{enc:TypeId×Value->H}{b:Nat}{held:Bool}{fuel:Nat}{cs:Ŀ Value}{x:DataW H×Ŀ MemPlace},DataW.trod enc P W b (λ_=>true) held fuel t cs=some x->∃y,r.er (jz W) cs y/\ok y
section
variable {P:Program}{W:World}
theorem ý.int{t:TypeId}{k:IntKind}(a:P.underlying t=some (.int k)):ý P W t (Rp.int k) (λy=>(Lit.int k y).wf=true):=by constructor;intro H enc b held fuel cs x h;obtain⟨n,h2,_,h3⟩:=DataW.trod_int a h;exact⟨n,h2,h3⟩
theorem ý.bool{t:TypeId}(a:P.underlying t=some .bool):ý P W t Rp.bool (λ_=>True):=by constructor;intro H enc b held fuel cs x h;obtain⟨n,h2,_⟩:=DataW.trod_bool a h;exact⟨n,h2,trivial⟩
theorem ý.vec{t e:TypeId}{k:IntKind}{n:Nat}(r:P.underlying t=some (.array n e))(q:P.underlying e=some (.int k))(v:P.cellsOf t=n)(d:P.cellsOf e=1):ý P W t (Rp.vec k n) (λf=>∀i,(Lit.int k (f i)).wf=true):=by
 constructor;intro H enc b held fuel cs x h;obtain⟨xs,m,_,_,y,u,s⟩:=DataW.trod_array r h;have a:∀i:Fin n,∃z,cs[i.val]?=some (.int k z)/\(Lit.int k z).wf=true:=by
  intro i;have g:=s i.val i.isLt;rw[Ą ŉ,d]at g;obtain⟨z,h2,_,h3⟩:=DataW.trod_int q g;refine⟨z,?_,h3⟩;have l:((cs.drop (i.val*1)).take 1)[0]?=some (.int k z):=by rw[h2];rfl
  rw[Ŏ,ą ĳ,ŧ]at l;simpa using l
 have c:=λi=>(a i).choose_spec;refine⟨λi=>(a i).choose,?_,λi=>(c i).2⟩;show cs=õ (Value.int k) n _;apply Ÿ;intro j;by_cases p:j<n
 .rw[xK _ _ _ p];exact(c ⟨j,p⟩).1
 rw[ń ŉ,ń (by rw[xx];omega)]
theorem Uy{α:Type}{r:Rp α}{ok:α->Prop}{t e:TypeId}{H:Type}{enc:TypeId×Value->H}{b:Nat}{held:Bool}{fuel:Nat}{cs:Ŀ Value}{x:DataW H×Ŀ MemPlace}
  (Y:P.underlying t=some (.slice e)) (J:P.cellsOf e=r.size) (v:0<r.size) (T:ý P W e r ok) (h:DataW.trod enc P W b (λ_=>true) held fuel t cs=some x) :
  ∃p cap l,cs=[.slice p (List.length l) cap]/\Δ r (jz W) (.slice p l.length cap) l/\∀y∈l,ok y:=by
 rcases Go.Deep.open_slice Y h with ⟨i,_⟩|⟨a,len,cap,m,n,D,Pl,i,_,V,q,K,_,N⟩
 .exact⟨none,0,[],i,Δ.nil _ _,ß⟩
 rw[ą rfl]at K
 subst K
 have L:0<m->a.spot=none:=λi=>by
  obtain⟨cs',A,_⟩:=N 0 i;obtain⟨_,s,c⟩:=World.cells?_some A;have d:=c 0 (by rw[J];exact v);rw[du]at d;cases I:cs'[0]? with
  |none=>rw[aaj]at I;omega
  |some u=>
   rw[I]at d;have:=World.cell?_spot d;unfold Addr.add at this;simpa using this
 have F:∀k,k<=len->∃(C:Ŀ Value) (l:Ŀ α),l.length=k/\ÿ r (jz W) C l/\(∀y∈l,ok y)/\∀j u,C[j]?=some u->W.cell? ⟨a.block,a.off+j,none⟩=some u:=by
  intro k;induction k with
  |zero=>exact λ_=>⟨[],[],rfl,rfl,ß,λj u h=>by simp at h⟩
  |succ k Z=>
   intro hk;obtain⟨C,l,B,h2,h3,E⟩:=Z ŉ;obtain⟨cs',A,O⟩:=N k ŉ;rw[J]at A;obtain⟨_,s,c⟩:=World.cells?_some A;obtain⟨y,Q,R⟩:=T.go O;refine⟨C++cs',l++[y],by simp[B],h2.append (ÿ.single Q),λz g=>?_,λj u f=>?_⟩
   .rcases Ħ.1 g with g|g
    .exact h3 z g
    simp at g;subst g;exact R
   by_cases U:j<C.length
   .rw[Ė U]at f;exact E j u f
   rw[ģ ŉ]at f;have X:=(ċ.1 f).1;have S:=h2.len;rw[B]at S;have d:=c (j-C.length) ŉ;rw[S3 a _ (L ŉ),S3 _ _ rfl,f]at d;have e:a.off+k*r.size+(j-C.length)=a.off+j:=ŉ;simp only[e]at d;exact d
 obtain⟨C,l,B,h2,h3,E⟩:=F len (Ċ _)
 subst B
 refine⟨some a,m,l,i,⟨some a,m,C,rfl,⟨V,by simpa[maxLen]using q⟩,λa' e G=>?_,λ_=>rfl,h2,λj u f=>E j u f⟩,h3⟩
 cases e;exact L G
theorem ý.sl{α:Type}{r:Rp α}{ok:α->Prop}{t e:TypeId}(g:P.underlying t=some (.slice e))(d:P.cellsOf e=r.size)(a:0<r.size)(f:ý P W e r ok):ý P W t (Rp.sl r) (λl=>∀y∈l,ok y):=by constructor;intro H enc b held fuel cs x h;obtain⟨p,cap,l,c,h2,h3⟩:=Uy g d a f h;exact⟨l,⟨_,c,h2⟩,h3⟩
structure Þ {α:Type}(P:Program) (W:World) (fs:Ŀ Field) (o:Nat) (r:Rp α) (ok:α->Prop):Prop where
 go:∀{H:Type}{enc:TypeId×Value->H}{b:Nat}{held:Bool}{fuel:Nat}{cs:Ŀ Value},cs.length=o+r.size->(∀f∈fs,∃x,DataW.trod enc P W b (λ_=>true) held fuel f.type ((cs.drop f.offset).take (P.cellsOf f.type))=some x)->∃y,r.er (jz W) (cs.drop o) y/\ok y
theorem Þ.last{α:Type}{r:Rp α}{ok:α->Prop}{f:Field}{o:Nat}(e:f.offset=o)(c:P.cellsOf f.type=r.size)(h:ý P W f.type r ok):Þ P W [f] o r ok:=by constructor;intro H enc b held fuel cs g d;obtain⟨x,a⟩:=d f ß;rw[e,c,ě (by rw[ľ];omega)]at a;exact h.go a
theorem Þ.cons{α β:Type}{r:Rp α}{q:Rp β}{ok:α->Prop}{a:β->Prop}{f:Field}{fs:Ŀ Field}{o:Nat}(m:f.offset=o)(j:P.cellsOf f.type=r.size)(h:ý P W f.type r ok)(hr:Þ P W fs (o+r.size) q a):Þ P W (f::fs) o (Rp.pair r q) (λx=>ok x.1/\a x.2):=by constructor;intro H enc b held fuel cs l c;have tP:cs.length=o+(r.size+q.size):=l;obtain⟨x,d⟩:=c f ß;rw[m,j]at d;obtain⟨y,e,h2⟩:=h.go d;obtain⟨z,h3,i⟩:=hr.go ŉ (λg k=>c g (by simp[k]));refine⟨(y,z),⟨_,_,?_,e,h3⟩,h2,i⟩;rw[<-abR,Ņ]
theorem ý.struct{α β:Type}{r:Rp α}{ok:α->Prop}{t:TypeId}{fs:Array Field}(j:P.underlying t=some (.struct fs))(p:P.cellsOf t=r.size)(h:Þ P W fs.toList 0 r ok)(f:β->α)(g:α->β)(a:∀x,f (g x)=x):ý P W t (Rp.via r f) (λy=>ok (f y)):=by
 constructor;intro H enc b held fuel cs x l;obtain⟨xs,n,_,_,q,m,d⟩:=DataW.trod_struct j l;obtain⟨y,c,h2⟩:=h.go (enc:=enc) (b:=b) (held:=held) (fuel:=n) (cs:=cs) ŉ (λu k=>by
  obtain⟨i,hi,e⟩:=Ń.1 k;have kB:i<fs.size:=by simpa using hi
  have:=d i u (by rw[Ō kB];simpa using e);rw[Ą ŉ]at this;exact⟨_,this⟩)
 exact⟨g y,by show r.er _ cs (f (g y));rw[a];exact c,by show ok (f (g y));rw[a];exact h2⟩
theorem Zt3{α:Type}{r:Rp α}{ok:α->Prop}{t e:TypeId}{base:Nat}{v:Value}{H:Type}{enc:TypeId×Value->H}{b:Nat}{held:Bool}{d:DataW H}{ps:Ŀ MemPlace}
  (j:P.underlying t=some (.slice e)) (m:P.cellsOf e=r.size) (a:0<r.size) (n:ý P W e r ok) (f:Value.okWide P W .any base t v) (h:DataW.Trod enc P W b (λ_=>true) held t v d ps) :
  ∃p cap l,v=.slice p (List.length l) cap/\Δ r (jz W) (.slice p l.length cap) l/\∀y∈l,ok y:=by
 obtain⟨p,len,cap,rfl⟩:=okWide_slice j f
 obtain⟨fuel,i⟩:=h
 have c:(Value.slice p len cap).cells.toList=[.slice p len cap]:=rfl
 rw[c]at i
 obtain⟨p',g,l,k,h2,h3⟩:=Uy j m a n i
 cases k
 exact⟨p,cap,l,rfl,h2,h3⟩
theorem Zt4{α:Type}{r:Rp α}{ok:α->Prop}{t:TypeId}{fs:Array Field}{base:Nat}{v:Value}{H:Type}{enc:TypeId×Value->H}{b:Nat}{held:Bool}{d:DataW H}{ps:Ŀ MemPlace}
  (i:P.underlying t=some (.struct fs)) (g:ý P W t r ok) (c:Value.okWide P W .any base t v) (h:DataW.Trod enc P W b (λ_=>true) held t v d ps) :
  ∃cs y,v=.agg (cs:Ŀ Value).toArray/\r.er (jz W) cs y/\ok y:=by
 obtain⟨cs,rfl,_,_⟩:∃cs,v=.agg cs/\cs.size=P.cellsOf t/\Row.okWide P W .any base t cs:=by simpa[Value.okWide,i]using c
 obtain⟨fuel,e⟩:=h
 have a:(Value.agg cs).cells.toList=cs.toList:=rfl
 rw[a]at e
 obtain⟨y,f,h2⟩:=g.go e
 exact⟨cs.toList,y,ß,f,h2⟩
theorem Zyd{α:Type}{r:Rp α}{G:Mem}{cs:Ŀ Value}{x:α}(h:r.er G cs x){a:Ŀ Value}(e:a.length=r.size)(d:∀j u,a.toArray[j]?=some u->cs[0+j]?=some u):cs=a:=by have f:=r.len h;refine abr ŉ λi c h2=>?_;have:=d i a[i] (by rw[Ġ,Ą h2]);rw[ņ,Ą c]at this;exact Ŧ this
theorem Zyb{α:Type}{r:Rp α}{G:Mem}{cs:Ŀ Value}{x:α}(h:r.er G cs x):AtK r G (λj u=>cs[j]?=some u) 0 x:=⟨cs,h,λj u a=>by rw[ņ];exact a⟩
theorem wf_i8{x:Int}(h:(Lit.int .i8 x).wf=true):-128<=x/\x<=127:=by simp only[Lit.wf,ĉ,Ě]at h;have a:i8.min = -128:=ĳ;have h2:i8.max=127:=ĳ;omega
end
end Go.EL

