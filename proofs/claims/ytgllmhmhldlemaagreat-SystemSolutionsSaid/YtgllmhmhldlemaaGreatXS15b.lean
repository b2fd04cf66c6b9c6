/- The law SystemSolutions holds for every input: a part of its proof (what the code does, plain models, and what they return). No condition. -/
import Derived.Test.YtgllmhmhldlemaaGreatXS15a
import Derived.DeepKeys4
import Derived.Laws.BytesString
import Derived.Laws.MakeOwn
import Derived.StringKeys
import Derived.Maps.Keyed
import Derived.Laws.CopyRow
import Derived.Laws.Externs
import Derived.Maps.RangeRun
import Derived.ChangeSame
import Derived.JoinedOf
import Derived.JoinedAt
import Derived.RowKit3
import Derived.OpenShut
import Derived.Carry
import Derived.ProofKit
import Derived.WalkKit
import Derived.Deep.Slices
set_option linter.unusedVariables false
set_option linter.unusedSimpArgs false
namespace Go.EL
open Go.IntKind (i8 i16 i32 i64 u8 u16 u32 u64)
open Go Go.RowKit Go.Proofs Go.MapKept
def RvS{K V:Type}(r:Rp V)(G:Mem):K->Value->V->Prop:=fun _ u x=>r.rep G [u] x
def kcode(x:Int):Nat:=8000000+(if 0<=x then 2*x.toNat else 2*(-x).toNat+1)
theorem Zk1(x:Int):8000000<=kcode x:=Nat.le_add_right _ _
theorem ZnK{x y:Int}(h:kcode x=kcode y):x=y:=by
 unfold kcode at h
 split at h <;> split at h <;> omega
def RvT{α:Type}(r:Rp α)(e:TypeId)(T:Lo)(G:Mem):Int->Value->List α->Prop:=fun k u l=>SlR r G u l/\Tok r.size e u l.length (T.get (kcode k))
structure TokM {α:Type}(T:Lo) (D:List (Int×List α)):Prop where
 high:∀ i x,T.get i=some x->8000000<=i
 none:∀ k,mget D k=none->T.get (kcode k)=none
theorem TokM.nil{α:Type}:TokM [] ([]:List (Int×List α)):=⟨fun i x h=>by simp[Lo.get] at h,fun _ _=>rfl⟩
section
variable {P:Program}{kt:TypeId}{K V:Type}{ky:Ky P kt K}{r:Rp V}{G G':Mem}
theorem MapR.mono{v:Value}{D:List (K×V)}{tk:Option Ow}(h:MapR ky (RvS r G) v D tk)(hle:Mem.le G G'):MapR ky (RvS r G') v D tk:=h.imp fun _ _ _ h=>r.mono hle h
end
section
variable {P:Program}{kt:TypeId}{α:Type}{ky:Ky P kt Int}{r:Rp α}{e:TypeId}{G G':Mem}{T:Lo}
theorem MapR.drop{v:Value}{D:List (Int×List α)}{tk:Option Ow}(h:MapR ky (RvT r e T G) v D tk):MapR ky (RvS (Rp.sl r) G) v D tk:=h.imp fun _ _ u h=>⟨u,rfl,h.1⟩
variable {N:Nat}{Q:Post}{fr:Fr}{ops:Array Oper}{l:List Oper}{dst:Option Nat}{ty:TypeId}{pos:String}{af:Array Edge}{g:Option (Nat×Bool)}{w0:Bs}{G0:Mem}{L:Lo}
theorem ZjV{K V:Type}[DecidableEq K]:∀ (D:List (K×V)) (k:K) (x:V) (j:K),mget (mput D k x) j=if k=j then some x else mget D j
 | [],k,x,j=>by simp only[mput,mget]
 | p::D,k,x,j=>by
  simp only[mput]
  split
  .rename_i h
   subst h
   simp only[mget]
   split <;> simp_all
  rename_i h
  simp only[mget,ZjV D k x j]
  split
  .rename_i h2
   subst h2
   rw[if_neg (fun e=>h e.symm)]
  rfl
theorem TokM.put{D:List (Int×List α)}(hT:TokM T D){k:Int}{tk':Option Ow}{y:List α}:TokM ((kcode k,tk')::T) (mput D k y):=by
 refine⟨fun i x h=>?_,fun j hj=>?_⟩
 .rw[Lo.Zi] at h
  split at h
  .rename_i e; rw[<- e]; exact Zk1 k
  exact hT.high i x h
 rw[ZjV] at hj
 split at hj
 .cases hj
 rename_i h
 rw[Lo.Zi,if_neg (fun e=>h (ZnK e))]
 exact hT.none j hj
end
end Go.EL
namespace Go.EL
open Go.IntKind (i8 i16 i32 i64 u8 u16 u32 u64)
open Go Go.RowKit Go.Proofs Go.MapKept
theorem Zpg{α:Type}{mk:α->Value}(hm:∀ x y,mk x=mk y->x=y){n:Nat}{f g:Fin n->α}(h:vecG mk n f=vecG mk n g):f=g:=by
 funext i
 have h1:=ZcK mk n f i.isLt
 have h2:=ZcK mk n g i.isLt
 rw[h,h2] at h1
 exact (hm _ _ (Option.some.inj h1)).symm
theorem mapM_some{α β:Type}{f:α->Option β}:∀ {l:List α},(∀ x ∈ l,∃ y,f x=some y)->∃ ys,l.mapM f=some ys
 | [],_=>⟨[],rfl⟩
 | x::l,h=>by
  obtain⟨y,hy⟩:=h x (by simp)
  obtain⟨ys,hys⟩:=mapM_some (l:=l) (fun z hz=>h z (by simp[hz]))
  exact⟨y::ys,by simp[List.mapM_cons,hy,hys]⟩
def Ky.int{P:Program}{kt:TypeId}{ik:IntKind}(hu:P.underlying kt=some (.int ik)):Ky P kt Int where
 enc x:=.int ik x
 ok x:=(Lit.int ik x).wf=true
 inj h:=by cases h; rfl
 lit h:=⟨_,Go.Maps.keyOf_int_mk hu h⟩
 keyed:=Go.Maps.int_keyed hu
def Ky.arr{P:Program}{kt e:TypeId}{ik:IntKind}{n:Nat}(hu:P.underlying kt=some (.array n e))(he:P.underlying e=some (.int ik))(hkt:P.keyType kt=true)(hc:P.cellsOf kt=n)(hce:P.cellsOf e=1)(hl:laidOutB P=true)(hrow:kt<P.types.size)(hk2:P.keyTypeAt 2 kt=true):Ky P kt (Fin n->Int) where
 enc m:=.agg (vecG (Value.int ik) n m).toArray
 ok m:=∀ i,(Lit.int ik (m i)).wf=true
 inj h:=Zpg (mk:=Value.int ik) (fun x y e=>by cases e; rfl) (by simpa using h)
 lit {m} h:=by
  have hlen:(vecG (Value.int ik) n m).length=n:=ZdK _ _ _
  have hform:(Value.agg (vecG (Value.int ik) n m).toArray).formed P kt=true:=by simp[Value.formed,hu,hc,hlen]
  obtain⟨d,hd⟩:∃ d,P.types.size=d+1:=⟨P.types.size-1,by have:=Nat.lt_of_le_of_lt (Nat.zero_le _) hrow; omega⟩
  have hm:∃ ys,(List.range n).mapM (fun i=>P.keyLits P.types.size e (((vecG (Value.int ik) n m).drop (i*P.cellsOf e)).take (P.cellsOf e)))=some ys:=by
   refine mapM_some fun i hi=>?_
   have hi:i<n:=by simpa using hi
   have hg:=ZcK (Value.int ik) n m hi
   have e1:((vecG (Value.int ik) n m).drop (i*P.cellsOf e)).take (P.cellsOf e)=[.int ik (m ⟨i,hi⟩)]:=by
    rw[hce,Nat.mul_one,List.take_one,List.head?_drop,hg]; rfl
   rw[e1,hd]
   exact⟨[.int ik (m ⟨i,hi⟩)],by simp[Program.keyLits,he,h ⟨i,hi⟩]⟩
  obtain⟨ys,hys⟩:=hm
  refine⟨.string (keyBytes ys.flatten),?_⟩
  have hk1:P.keyLits (P.types.size+1) kt (vecG (Value.int ik) n m)=some ys.flatten:=by
   simp only[Program.keyLits,hu,hc,hlen,if_true,hys,Option.map_some]
  simp[keyOf,hu,hkt,hform,Value.cells,hk1]
 keyed:=Go.Maps.Keyed.of_law (deep_law_laid hl (m:=2) (by omega) hrow hk2 (by rw[hu]))
end Go.EL
namespace Go.EL
open Go.IntKind (i8 i16 i32 i64 u8 u16 u32 u64)
open Go Go.RowKit Go.Proofs
def byteAt(s:ByteArray)(i:Int):Int:=((s.data.getD i.toNat 0).toNat:Int)
def bytesOf(l:List Int):ByteArray:=l.foldl (fun r n=>r.push (UInt8.ofNat n.toNat)) ByteArray.empty
section
variable {P:Program}{N:Nat}{fr:Fr}{S:Asrt}{dst:Option Nat}{ty:TypeId}{pos:String}{af:Array Edge}{g:Option (Nat×Bool)}{w0:Bs}{G0 G:Mem}{L:Lo}
theorem Y0.indexS{t:TypeId}{x y:Operand}{s:ByteArray}{k:IntKind}{i:Int}(ht:P.underlying t=some .string)(hx:fr.ev x=some (.string s))(hy:fr.ev y=some (.int k i))(hi:0<=i/\i<(s.size:Int)):
  Y0 P N ⟨dst,.index t x y,ty,pos,af,g⟩ fr S (.int .u8 (byteAt s i)):=fun a w ha _=>by
 have hlt:i.toNat<s.size:=by omega
 have e1:s[i.toNat]? = some (s.data.getD i.toNat 0):=by
  rw[getElem?_pos s i.toNat hlt]
  have hlt':i.toNat<s.data.size:=hlt
  simp only[Array.getD,dif_pos hlt']
  rfl
 simp[execOp,ha.ev hx,ha.ev hy,Instr.index,asIntOf,run_underlying ht,hi.1,e1,byteAt]
theorem Zpx(a b:ByteArray):(a.toList == b.toList)=decide (a=b):=by
 rw[ByteArray.toList_eq,ByteArray.toList_eq]
 obtain⟨⟨a⟩⟩:=a
 obtain⟨⟨b⟩⟩:=b
 by_cases h:a=b
 .subst h; simp
 have h2:¬ (⟨⟨a⟩⟩:ByteArray)=⟨⟨b⟩⟩:=fun e=>h (by cases e; rfl)
 simp[h]
theorem Y0.eqlS{t:TypeId}{x y:Operand}{s u:ByteArray}{b:TypeId}(ht:P.underlying t=some .string)(hx:fr.ev x=some (.string s))(hy:fr.ev y=some (.string u)):Y0 P N ⟨dst,.binOp .eql t x y b,ty,pos,af,g⟩ fr S (.bool (decide (s=u))):=
 Y0.bin hx hy (ZgV _ _ _ _ _ _) fun w=>by simp[binOp,Op.stringOp,Zpx]
theorem RepL.ints{k:IntKind}:∀ {xs:List Int}{cs:List Value},RepL (Rp.int k) G cs xs->cs=xs.map (Value.int k)
 | [],cs,h=>by simpa [RepL] using h
 | y::ys,_,⟨c,d,e0,e1,e2⟩=>by
  have e1:c=[.int k y]:=e1
  rw[e0,e1,RepL.ints e2]; rfl
theorem Y0.convBS{t d e:TypeId}{x:Operand}{v:Value}{xs:List Int}(ht:P.underlying t=some (.slice e))(he:P.underlying e=some (.int .u8))(hd:P.underlying d=some .string)(h:SlR (Rp.int .u8) G v xs)(hx:fr.ev x=some v):
  Y0 P N ⟨dst,.convert t d x,ty,pos,af,g⟩ fr (St w0 G0 G L) (.string (bytesOf xs)):=fun a w ha hs=>by
 obtain⟨p,cap,cs,rfl,hcap,h2,h3,h4,h5⟩:=h
 have hcs:=h4.ints
 subst hcs
 have hr:(convert t d (.slice p xs.length cap)).run P w = .ok (.string (bytesOf xs)) w:=by
  rw[run_convert_bytes_string w t d e p xs.length cap ht he hd]
  cases p with
  | none=>
   have:xs=[]:=by
    cases xs with
    | nil=>rfl
    | cons y ys=>have:=h3 (by simp); cases this
   subst this
   simp[Conv.bytesToString,bytesOf]
  | some ad=>
   obtain⟨ab,ao,asp⟩:=ad
   cases xs with
   | nil=>exact run_bytesToString w _ _ _ [] (by have:=run_loadCells_list (P:=P) w ⟨ab,ao,asp⟩ [] (fun j v hv=>by simp at hv); simpa using this)
   | cons y ys=>
   have:=h2 _ rfl (by simp only[List.length_cons] at hcap; omega)
   dsimp only at this
   subst this
   refine run_bytesToString w _ _ _ (y::ys) ?_
   have:=run_loadCells_list (P:=P) w ⟨ab,ao,none⟩ ((y::ys).map (Value.int .u8)) (fun j v hv=>by rw[Z6]; exact hs.imm _ _ _ (h5 j v hv))
   simpa using this
 simp[execOp,ha.ev hx,hr]
end
end Go.EL
namespace Go.EL
open Go.IntKind (i8 i16 i32 i64 u8 u16 u32 u64)
open Go Go.RowKit Go.Proofs
theorem Zg9{z:Array Value}(h0:0<z.size):∀ n:Nat,(madeCells z (n*z.size)).toList=(List.replicate n z.toList).flatten
 | 0=>by simp[madeCells]
 | n+1=>by
  rw[List.replicate_succ',List.flatten_append,List.flatten_cons,List.flatten_nil,List.append_nil,<- Zg9 h0 n]
  apply List.ext_getElem?
  intro i
  have hlen:(madeCells z (n*z.size)).toList.length=n*z.size:=by simp[madeCells]
  rw[List.getElem?_append,hlen]
  split
  .rename_i h
   have h1:i<(n+1)*z.size:=by rw[Nat.add_mul]; omega
   simp[madeCells,h,h1]
  rename_i h
  by_cases h2:i<(n+1)*z.size
  .have h3:i-n*z.size<z.size:=by rw[Nat.add_mul] at h2; omega
   have h4:i % z.size=i-n*z.size:=by
    have:i=(i-n*z.size)+z.size*n:=by rw[Nat.mul_comm z.size n]; omega
    rw[this,Nat.add_mul_mod_self_left,Nat.mod_eq_of_lt (by omega)]
    rw[Nat.mul_comm z.size n]; omega
   simp[madeCells,h2,h4,h3]
  have h3:¬ i-n*z.size<z.size:=by rw[Nat.add_mul] at h2; omega
  rw[List.getElem?_eq_none (by simp[madeCells]; omega),List.getElem?_eq_none (by simp; omega)]
theorem RepL.replicate{α:Type}{r:Rp α}{G:Mem}{c:List Value}{x:α}(h:r.rep G c x):∀ n:Nat,RepL r G (List.replicate n c).flatten (List.replicate n x)
 | 0=>rfl
 | n+1=>by rw[List.replicate_succ,List.replicate_succ,List.flatten_cons]; exact⟨c,_,rfl,h,RepL.replicate h n⟩
section
variable {P:Program}{N:Nat}{Q:Post}{fr:Fr}{ops:Array Oper}{l:List Oper}{dst:Option Nat}{ty:TypeId}{pos:String}{af:Array Edge}{g:Option (Nat×Bool)}
variable {w0:Bs}{G0 G:Mem}{L:Lo}{α:Type}{r:Rp α}{e:TypeId}{w:World}
theorem WL.makeT{t:TypeId}{z:Value}{x y:Operand}{bytes:Nat}{k k':IntKind}{n:Int}{zx:α}(key:Nat)(hg:guardOK ops fr ⟨dst,.makeSlice t x y,ty,pos,af,g⟩ true)(hd:dstOK N dst)(ht:P.underlying t=some (.slice e))(hE:ElT P e z r.size bytes)(hzs:z.cells.size=r.size)(hby:bytes<=100000)(h0:0<r.size)
  (hrep:r.rep G z.cells.toList zx) (hx:fr.ev x=some (.int k n)) (hy:fr.ev y=some (.int k' n)) (hn:0<=n/\n<=1000000)
  (kk:∀ p tk,RowR r e G (.slice p n.toNat n.toNat) (List.replicate n.toNat zx) tk->WL P N ops Q l (putFr dst (.slice p n.toNat n.toNat) fr) (St w0 G0 G ((key,tk)::L))):WL P N ops Q (⟨dst,.makeSlice t x y,ty,pos,af,g⟩::l) fr (St w0 G0 G L):=by
 obtain⟨i,hi,hz,hsz,hbt⟩:=hE.parts
 refine WL.yr (Φ:=fun v w=>∃ p tk,v = .slice p n.toNat n.toNat/\RowR r e G (.slice p n.toNat n.toNat) (List.replicate n.toNat zx) tk/\St w0 G0 G ((key,tk)::L) w) hg (fun a w ha hs=>?_) hd (fun v a w ha ⟨p,tk,h1,h2,h3⟩=>by subst h1; exact kk p tk h2 a w ha h3)
 have hbn:(i.bytes:Int)*n<=281474976710656:=by
  have h1:(i.bytes:Int)<=100000:=by omega
  have:(i.bytes:Int)*n<=100000*1000000:=Int.mul_le_mul h1 hn.2 hn.1 (by omega)
  omega
 have hr:=run_make w t e i z ht hi hz k k' n n hn.1 (Int.le_refl _) hbn (by omega)
 have:(execOp a.eval ⟨dst,.makeSlice t x y,ty,pos,af,g⟩).run P w = .ok (.value (.slice (some ⟨w.heap.size,0,none⟩) n.toNat n.toNat)) (w.alloc (.cells (madeCells z.cells (n.toNat*i.size)) e)):=by
  simp[execOp,ha.ev hx,ha.ev hy,hr]
 rw[this]
 refine⟨_,some ⟨w.heap.size,.cells (madeCells z.cells (n.toNat*i.size)) e (0,0),0⟩,rfl,?_,hs.push key _⟩
 rw[hsz,<- hzs]
 refine⟨n.toNat,(madeCells z.cells (n.toNat*z.cells.size)).toList,[],by simp,by simp,rfl,?_,by simp[madeCells,hzs],by simp only[maxLen]; omega,by simp⟩
 rw[Zg9 (by omega)]
 exact RepL.replicate hrep _
theorem Y0.nilCheck{S:Asrt}{x:Operand}{a:Addr}(hx:fr.ev x=some (.pointer (some a))):Y0 P N ⟨dst,.nilCheck x,ty,pos,af,g⟩ fr S (.pointer (some a)):=fun b w hb _=>by simp[execOp,hb.ev hx]
theorem St.knowZ{i b m n:Nat}{c:Array Value}{t:TypeId}(h:St w0 G0 G L w)(hi:L.get i=some ⟨b,.cells c t (0,0),m⟩)(h0:w0.L.zero)(hmn:m<=n):
  St w0 G0 (Mem.row G b c m n) ((i,some ⟨b,.cells c t (0,0),n⟩)::L) w/\Mem.le G (Mem.row G b c m n):=by
 obtain⟨l1,l2,l3⟩:=h.loc i _ hi
 have hle:=Mem.ZnL (c:=c) (n:=n) l3
 refine⟨⟨h.os,h.tape,h.output,h.drawn,h.size,h.block,Mem.le_trans h.base hle,fun b' o v hv=>?_,fun b' o v hv=>?_,fun j y hj=>?_,fun j k y z hne e1 e2=>?_⟩,hle⟩
 .unfold Mem.row at hv
  split at hv
  .rename_i e
   obtain⟨e1,_,_⟩:=e
   subst e1
   rw[cell_of_row w b' o c t (0,0) l1]; exact hv
  exact h.imm b' o v hv
 .unfold Mem.row at hv
  split at hv
  .rename_i e
   obtain⟨e1,_,_⟩:=e
   subst e1
   exact .inr (l2.elim (fun ⟨y,e,eb⟩=>.inr ⟨i,y,e,eb,by rw[Lo.ZeL h0 e]; exact Nat.zero_le _⟩) (fun h=>.inl h))
  exact h.fresh b' o v hv
 .rw[Lo.Zi] at hj
  split at hj
  .rename_i hij
   subst hij
   simp only[Option.some.injEq] at hj
   subst hj
   refine⟨l1,l2,fun k hk=>?_⟩
   unfold Mem.row
   rw[if_neg (by dsimp only at hk ⊢; omega)]
   exact l3 k (Nat.le_trans hmn hk)
  rename_i hij
  obtain⟨m1,m2,m3⟩:=h.loc j y hj
  refine⟨m1,m2,fun k hk=>?_⟩
  have hb:y.b≠b:=fun e=>h.dist i j _ y hij hi hj e.symm
  unfold Mem.row
  rw[if_neg (fun e=>hb e.1)]
  exact m3 k hk
 rw[Lo.Zi] at e1 e2
 split at e1 <;> split at e2
 .omega
 .rename_i hij hik
  simp only[Option.some.injEq] at e1
  subst e1
  exact h.dist i k ⟨b,.cells c t (0,0),m⟩ z hik hi e2
 .rename_i hij hik
  simp only[Option.some.injEq] at e2
  subst e2
  exact h.dist j i y ⟨b,.cells c t (0,0),m⟩ (fun e=>hij e.symm) e1 hi
 exact h.dist j k _ _ hne e1 e2
theorem RowR.freezeZ{v:Value}{xs:List α}{tk:Option Ow}{key:Nat}(h:RowR r e G v xs tk)(hid:L.get key=tk)(h0:w0.L.zero){w:World}(hs:St w0 G0 G L w):
  ∃ G' tk',Mem.le G G'/\SlR r G' v xs/\Tok r.size e v xs.length tk'/\St w0 G0 G' ((key,tk')::L) w/\(∀ Gx L' w',Mem.le G Gx->Mem.le G' Gx->St w0 G0 Gx ((key,tk')::L') w'->St w0 G0 G ((key,tk)::L') w'):=by
 cases tk with
 | none=>
  obtain⟨rfl,p,rfl,hp⟩:=h
  exact⟨G,none,Mem.le_refl _,⟨p,0,[],rfl,by simp,hp,fun h=>by simp at h,rfl,fun j u h=>by simp at h⟩,⟨p,rfl⟩,hs.weaken (Lo.Zd hid (Lo.Zb3 _)),fun Gx L' w' h1 _ h2=>h2.memLe hs.base h1⟩
 | some x=>
  obtain⟨cap,cs,rest,rfl,h2,h3,h4,h5,h6,h7⟩:=h
  obtain⟨xb,xo,xm⟩:=x
  dsimp only at h2 h3
  subst h2 h3
  have hl:=h4.len
  obtain⟨k1,k2⟩:=hs.knowZ (i:=key) (n:=xs.length*r.size) hid h0 (Nat.zero_le _)
  refine⟨_,some ⟨xb,.cells (cs++rest).toArray e (0,0),xs.length*r.size⟩,k2,⟨_,cap,cs,rfl,by simp only[maxLen] at h6; omega,fun a ha _=>by cases ha; rfl,fun _=>rfl,h4.mono k2,fun j u hu=>?_⟩,⟨cap,_,rfl,rfl,rfl,by simpa using h5,h6,h7⟩,k1,fun Gx L' w' e1 e2 e3=>?_⟩
  .have hj:=(List.getElem?_eq_some_iff.1 hu).1
   show Mem.row G xb _ 0 _ xb (0+j)=some u
   rw[Nat.zero_add,Mem.ZeB (Nat.zero_le _) (by rw[<- hl]; exact hj),List.getElem?_toArray,List.getElem?_append_left hj]
   exact hu
  exact (e3.memLe hs.base e1).unmark (fun k=>(hs.loc key _ hid).2.2 k (Nat.zero_le _))
end
section
variable {P:Program}{N:Nat}{Q:Post}{fr:Fr}{S:Asrt}{ops:Array Oper}{l:List Oper}{dst:Option Nat}{ty:TypeId}{pos:String}{af:Array Edge}{id:Nat}{y:Code}{op:Op}{v:Value}{x:Operand}
theorem nx(h:WC P N y Q fr S):WL P N ops (Exit.then (y.wp P Q) Q) [] fr S:=h
theorem sr(h:WL P N l.toArray (Exit.then (y.wp P Q) Q) l fr S):WC P N (.seq (.region id l.toArray false) y) Q fr S:=WC.seq (WC.region h)
theorem nr(h:WL P N l.toArray (Exit.then (y.wp P Q) Q) l fr S):WL P N ops (Exit.then ((Code.seq (.region id l.toArray false) y).wp P Q) Q) [] fr S:=nx (sr h)
theorem yy(h:Y0 P N ⟨dst,op,ty,pos,af,none⟩ fr S v)(hd:dstOK N dst)(k:WL P N ops Q l (putFr dst v fr) S):WL P N ops Q (⟨dst,op,ty,pos,af,none⟩::l) fr S:=WL.y0' Ze h hd k
theorem mv(h:fr.ev x=some v)(hd:dstOK N dst)(k:WL P N ops Q l (putFr dst v fr) S):WL P N ops Q (⟨dst,.move x,ty,pos,af,none⟩::l) fr S:=yy (Y0.move h) hd k
theorem sg(h:fr.ev x=some v)(hd:dstOK N dst)(k:WL P N ops Q l (putFr dst v fr) S):WL P N ops Q (⟨dst,.assign x,ty,pos,af,none⟩::l) fr S:=yy (Y0.assign h) hd k
theorem sf{j d:Nat}(h1:(ops[j]?).bind (·.dst)=some d)(h2:fr.get d=some (.bool true))(hd:dstOK N dst)(k:WL P N ops Q l (putFr dst undef fr) S):WL P N ops Q (⟨dst,op,ty,pos,af,some (j,false)⟩::l) fr S:=WL.skip (ZjU h1 h2) hd k
theorem gy{j d:Nat}{c:Bool}(h1:(ops[j]?).bind (·.dst)=some d)(h2:fr.get d=some (.bool c))(h:Y0 P N ⟨dst,op,ty,pos,af,some (j,c)⟩ fr S v)(hd:dstOK N dst)(k:WL P N ops Q l (putFr dst v fr) S):WL P N ops Q (⟨dst,op,ty,pos,af,some (j,c)⟩::l) fr S:=WL.y0' (ZgW h1 h2) h hd k
theorem cn{Bt:Asrt}{w0:Bs}{G0 G:Mem}{L:Lo}{fs:List Bool}{det:Fr}(h:∀ G',Mem.le G G'->Y0 P N ⟨dst,op,ty,pos,af,none⟩ (det++fr) (St w0 G0 G' L) v)(k:Chain P N Q fr w0 G0 G L ops Bt fs l (putFr dst v det) []):Chain P N Q fr w0 G0 G L ops Bt (false::fs) (⟨dst,op,ty,pos,af,none⟩::l) det []:=Chain.y0 Ze h k
theorem cu{Bt:Asrt}{w0:Bs}{G0 G:Mem}{L:Lo}{fs:List Bool}{det:Fr}{und:Und}(h:∀ u G',Mem.le G G'->Y0 P N ⟨dst,op,ty,pos,af,none⟩ (undFr und u++(det++fr)) (St w0 G0 G' L) v)(k:Chain P N Q fr w0 G0 G L ops Bt fs l (putFr dst v det) und):Chain P N Q fr w0 G0 G L ops Bt (false::fs) (⟨dst,op,ty,pos,af,none⟩::l) det und:=Chain.y0U (fun _=>Ze) h k
theorem sk{j d:Nat}(h1:(ops[j]?).bind (·.dst)=some d)(h2:fr.get d=some (.bool false))(hd:dstOK N dst)(k:WL P N ops Q l (putFr dst undef fr) S):WL P N ops Q (⟨dst,op,ty,pos,af,some (j,true)⟩::l) fr S:=WL.skip (ZcN h1 h2) hd k
end
section
variable {P:Program}{N:Nat}{Q:Post}{fr:Fr}{ops:Array Oper}{l:List Oper}{dst:Option Nat}{ty:TypeId}{pos:String}{af:Array Edge}{g:Option (Nat×Bool)}{w0:Bs}{G0 G:Mem}{L:Lo}
theorem RepL.nums{k:IntKind}:∀ xs:List Int,RepL (Rp.int k) G (xs.map (Value.int k)) xs
 | []=>rfl
 | x::xs=>⟨[.int k x],xs.map (Value.int k),rfl,rfl,RepL.nums xs⟩
end
theorem ZpW(pre sub post:List Value):∀ j v,sub.toArray[j]? = some v->(pre++(sub++post)).toArray[pre.length+j]? = some v:=fun j v h=>by
 rw[List.getElem?_toArray] at h ⊢
 rw[List.getElem?_append_right (by omega),Nat.add_sub_cancel_left,List.getElem?_append_left (List.getElem?_eq_some_iff.1 h).1]
 exact h
section
variable {P:Program}{N:Nat}{Q:Post}{fr:Fr}{w0:Bs}{G0 G:Mem}{L:Lo}{ops:Array Oper}{ty:TypeId}{pos:String}{af:Array Edge}{g:Option (Nat×Bool)}{fs:List Bool}{l:List Oper}{det:Fr}{und:Und}{d:Nat}{op:Op}{φ:Mem->Value->Prop}
theorem Chain.callUU{Bt:Asrt}{f:FuncId}(hg:∀ u,guardOK ops (undFr und u++(det++fr)) ⟨some d,op,ty,pos,af,g⟩ true)(hm:∀ v G₁ G₂,Mem.le G₁ G₂->φ G₁ v->φ G₂ v)
  (h:∀ u (G':Gx),Mem.le G G'.m->undLook ops ⟨some d,op,ty,pos,af,g⟩ und u G'->∃ args args' pre,(∀ S,YC P N ⟨some d,op,ty,pos,af,g⟩ (undFr und u++(det++fr)) S f args')/\Ctr P f args pre φ/\args'=args/\pre G'.m)
  (k:Chain P N Q fr w0 G0 G L ops Bt fs l det ((d,fun v g=>φ g.m v)::und)):Chain P N Q fr w0 G0 G L ops Bt (false::fs) (⟨some d,op,ty,pos,af,g⟩::l) det und:=
 Chain.cund d _ rfl (fun v _ _ h=>hm v _ _ h.1) (fun u G' hle hu=>by
  obtain⟨args,args',pre,h1,h2,h3,h4⟩:=h u G' hle.1 hu
  exact OpOK.call (hg u) (h1 _) h2 h3 h4) k
theorem Chain.y0UU{Bt:Asrt}(hg:∀ u,guardOK ops (undFr und u++(det++fr)) ⟨some d,op,ty,pos,af,g⟩ true)(hm:∀ v G₁ G₂,Mem.le G₁ G₂->φ G₁ v->φ G₂ v)
  (h:∀ u (G':Gx),Mem.le G G'.m->undLook ops ⟨some d,op,ty,pos,af,g⟩ und u G'->∃ c,Y0 P N ⟨some d,op,ty,pos,af,g⟩ (undFr und u++(det++fr)) (St w0 G0 G'.m L) c/\φ G'.m c)
  (k:Chain P N Q fr w0 G0 G L ops Bt fs l det ((d,fun v g=>φ g.m v)::und)):Chain P N Q fr w0 G0 G L ops Bt (false::fs) (⟨some d,op,ty,pos,af,g⟩::l) det und:=
 Chain.cund d _ rfl (fun v _ _ h=>hm v _ _ h.1) (fun u G' hle hu=>by
  obtain⟨c,h1,h2⟩:=h u G' hle.1 hu
  exact .inr ⟨hg u,fun a w ha hs=>by rw[h1 a w ha hs.st]; exact⟨G',Gx.le_refl _,hs,h2⟩⟩) k
theorem Chain.y0UD{Bt:Asrt}{o:Oper}{c:Value}(hg:∀ u,guardOK ops (undFr und u++(det++fr)) o true)
  (h:∀ u (G':Gx),Mem.le G G'.m->undLook ops o und u G'->Y0 P N o (undFr und u++(det++fr)) (St w0 G0 G'.m L) c)
  (k:Chain P N Q fr w0 G0 G L ops Bt fs l (putFr o.dst c det) und):Chain P N Q fr w0 G0 G L ops Bt (false::fs) (o::l) det und:=
 Chain.cdet (fun u G' hle hu=>OpOK.y0 (hg u) (h u G' hle.1 hu)) k
theorem Chain.floatUD{Bt:Asrt}{o:Oper}{c:Value}(hg:∀ u,guardOK ops (undFr und u++(det++fr)) o true)
  (h:∀ u (G':Gx),Mem.le G G'.m->undLook ops o und u G'->Y0 P N o (undFr und u++(det++fr)) (fun _=>True) c)
  (k:Chain P N Q fr w0 G0 G L ops Bt fs l (putFr o.dst c det) und):Chain P N Q fr w0 G0 G L ops Bt (true::fs) (o::l) det und:=.inl ⟨c,fun u G' hle hu=>⟨hg u,fun a w ha _=>h u G' hle.1 hu a w ha trivial⟩,k⟩
def tupAt(v:Value)(i:Nat):Value:=match v with | .tuple vs=>vs.getD i undef|v=>v
theorem Chain.floatEx{Bt:Asrt}{x:Operand}{i kk:Nat}(hk:((⟨some d,.extract x i,ty,pos,af,g⟩:Oper).looksAt ops).contains kk=true)(hg:∀ u,guardOK ops (undFr und u++(det++fr)) ⟨some d,.extract x i,ty,pos,af,g⟩ true)(hm:∀ v G₁ G₂,Mem.le G₁ G₂->φ G₁ v->φ G₂ v)
  (h:∀ u (G':Gx),Mem.le G G'.m->undLook ops ⟨some d,.extract x i,ty,pos,af,g⟩ und u G'->∃ vs v,u kk = .tuple vs/\(undFr und u++(det++fr)).ev x=some (.tuple vs)/\vs[i]? = some v/\φ G'.m v)
  (k:Chain P N Q fr w0 G0 G L ops Bt fs l det ((d,fun v g=>φ g.m v)::und)):Chain P N Q fr w0 G0 G L ops Bt (true::fs) (⟨some d,.extract x i,ty,pos,af,g⟩::l) det und:=
 .inr ⟨d,_,fun u=>tupAt (u kk) i,rfl,fun v _ _ h=>hm v _ _ h.1,fun u u' h=>by simp only; rw[h kk (by simpa using hk)],fun u G' hle hu=>by
  obtain⟨vs,v,h1,h2,h3,h4⟩:=h u G' hle.1 hu
  have e:tupAt (u kk) i=v:=by rw[h1]; simp only[tupAt,Array.getD_eq_getD_getElem?,h3,Option.getD_some]
  dsimp only
  rw[e]
  exact⟨hg u,Y0.extract h2 h3,h4⟩,k⟩
theorem WL.adopt{g':Gx}{b:Nat}{ob:Obj}(hb:g'.x b=some (d,ob))(k:WL P N ops Q l fr (StX w0 G0 ⟨g'.m,fun k=>if k=b then none else g'.x k⟩ ((d,some ⟨b,ob,0⟩)::L))):WL P N ops Q l fr (StX w0 G0 g' L):=fun a w ha hs=>k a w ha (hs.adopt hb)
theorem WL.unX{g':Gx}(k:WL P N ops Q l fr (St w0 G0 g'.m L)):WL P N ops Q l fr (StX w0 G0 g' L):=fun a w ha hs=>k a w ha hs.st
theorem Chain.tailX2{d0 d1:Nat}{φ0 φ1:Value->Gx->Prop}(k:∀ v0 v1 (G':Gx),Mem.le G G'.m->φ0 v0 G'->φ1 v1 G'->WL P N ops (NX Q) l ((d0,v0)::(d1,v1)::(det++fr)) (StX w0 G0 G' L)):Chain P N Q fr w0 G0 G L ops (fun _=>True) [] l det [(d0,φ0),(d1,φ1)]:=fun u g hle hu=>WLT.of (k (u d0) (u d1) g hle.1 hu.1 hu.2.1)
theorem Chain.tailX3{d0 d1 d2:Nat}{φ0 φ1 φ2:Value->Gx->Prop}(k:∀ v0 v1 v2 (G':Gx),Mem.le G G'.m->φ0 v0 G'->φ1 v1 G'->φ2 v2 G'->WL P N ops (NX Q) l ((d0,v0)::(d1,v1)::(d2,v2)::(det++fr)) (StX w0 G0 G' L)):Chain P N Q fr w0 G0 G L ops (fun _=>True) [] l det [(d0,φ0),(d1,φ1),(d2,φ2)]:=fun u g hle hu=>WLT.of (k (u d0) (u d1) (u d2) g hle.1 hu.1 hu.2.1 hu.2.2.1)
theorem Chain.tailX4{d0 d1 d2 d3:Nat}{φ0 φ1 φ2 φ3:Value->Gx->Prop}(k:∀ v0 v1 v2 v3 (G':Gx),Mem.le G G'.m->φ0 v0 G'->φ1 v1 G'->φ2 v2 G'->φ3 v3 G'->WL P N ops (NX Q) l ((d0,v0)::(d1,v1)::(d2,v2)::(d3,v3)::(det++fr)) (StX w0 G0 G' L)):Chain P N Q fr w0 G0 G L ops (fun _=>True) [] l det [(d0,φ0),(d1,φ1),(d2,φ2),(d3,φ3)]:=fun u g hle hu=>WLT.of (k (u d0) (u d1) (u d2) (u d3) g hle.1 hu.1 hu.2.1 hu.2.2.1 hu.2.2.2.1)
theorem Chain.tailX6{d0 d1 d2 d3 d4 d5:Nat}{φ0 φ1 φ2 φ3 φ4 φ5:Value->Gx->Prop}(k:∀ v0 v1 v2 v3 v4 v5 (G':Gx),Mem.le G G'.m->φ0 v0 G'->φ1 v1 G'->φ2 v2 G'->φ3 v3 G'->φ4 v4 G'->φ5 v5 G'->WL P N ops (NX Q) l ((d0,v0)::(d1,v1)::(d2,v2)::(d3,v3)::(d4,v4)::(d5,v5)::(det++fr)) (StX w0 G0 G' L)):Chain P N Q fr w0 G0 G L ops (fun _=>True) [] l det [(d0,φ0),(d1,φ1),(d2,φ2),(d3,φ3),(d4,φ4),(d5,φ5)]:=fun u g hle hu=>WLT.of (k (u d0) (u d1) (u d2) (u d3) (u d4) (u d5) g hle.1 hu.1 hu.2.1 hu.2.2.1 hu.2.2.2.1 hu.2.2.2.2.1 hu.2.2.2.2.2.1)
theorem Zi9{a:Act}{F:Fr}{parts:Array (Nat×Operand)}{vs:Array (Nat×Value)}(ha:Rel N F a)(hps:F.evs (parts.toList.map (·.2))=some (vs.toList.map (·.2)))(hix:parts.toList.map (·.1)=vs.toList.map (·.1)):(parts.map fun p=>(p.1,a.eval p.2))=vs:=by
 have h1:=ha.evs _ _ hps
 apply Array.ext'
 simp only[Array.toList_map]
 have hl:parts.toList.length=vs.toList.length:=by have:=congrArg List.length hix; simpa using this
 generalize parts.toList=ps at *
 generalize vs.toList=us at *
 clear hps
 induction ps generalizing us with
 | nil=>cases us <;> simp_all
 | cons p ps ih=>
  cases us with
  | nil=>simp at hl
  | cons q us=>
   simp only[List.map_cons,List.cons.injEq] at hix h1 ⊢
   exact⟨Prod.ext hix.1 h1.1,ih us hix.2 h1.2 (by simpa using hl)⟩
def SlRd{α:Type}(r:Rp α)(G:Mem)(v:Value)(_:Unit)(xs:List α):Prop:=SlR r G v xs
theorem SlRd.mono{α:Type}{r:Rp α}{G G':Mem}{v:Value}{u:Unit}{xs:List α}(h:SlRd r G v u xs)(hle:Mem.le G G'):SlRd r G' v u xs:=SlR.mono h hle
theorem Chain.litU{Bt:Asrt}{α:Type}{r:Rp α}{t e:TypeId}{len:Nat}{parts:Array (Nat×Operand)}(xs:List α)(hg:∀ u,guardOK ops (undFr und u++(det++fr)) ⟨some d,.buildSlice t len parts,ty,pos,af,g⟩ true)(hlen:xs.length=len)(hsm:len<=small)
  (h:∀ u (G':Gx),Mem.le G G'.m->undLook ops ⟨some d,.buildSlice t len parts,ty,pos,af,g⟩ und u G'->∃ vs:Array (Nat×Value),∃ cs:List Value,(undFr und u++(det++fr)).evs (parts.toList.map (·.2))=some (vs.toList.map (·.2))/\parts.toList.map (·.1)=vs.toList.map (·.1)/\
   (∀ w,(Instr.buildSlice t len vs).run P w = .ok (.slice (some ⟨w.heap.size,0,none⟩) len len) (w.alloc (.cells cs.toArray e)))/\RepL r G'.m cs xs)
  (k:Chain P N Q fr w0 G0 G L ops Bt fs l det ((d,fun v g=>∃ p u,v = .slice p len len/\SlRd r g.m (.slice p len len) u xs)::und)):Chain P N Q fr w0 G0 G L ops Bt (false::fs) (⟨some d,.buildSlice t len parts,ty,pos,af,g⟩::l) det und:=
 Chain.cund d _ rfl (fun v _ _ hle ⟨p,c,h1,h2⟩=>⟨p,c,h1,h2.mono hle.1⟩) (fun u G' hle hu=>by
  obtain⟨vs,cs,h1,h2,h3,h4⟩:=h u G' hle.1 hu
  refine .inr ⟨hg u,fun a w ha hs=>?_⟩
  have e3:(parts.map fun (i,x)=>(i,a.eval x))=vs:=Zi9 ha h1 h2
  have:(execOp a.eval ⟨some d,.buildSlice t len parts,ty,pos,af,g⟩).run P w = .ok (.value (.slice (some ⟨w.heap.size,0,none⟩) len len)) (w.alloc (.cells cs.toArray e)):=by
   simp only[execOp,e3]
   simp[h3 w]
  rw[this]
  have hcs:=h4.len
  have s1:St ⟨w,[]⟩ G'.m G'.m [] w:=Hp.st (hs.st.hp (Lo.Zt _))
  have s2:=s1.push 0 (.cells cs.toArray e)
  obtain⟨s3,s4⟩:=s2.know (i:=0) (n:=cs.length) rfl rfl (Nat.zero_le _)
  have s5:=(s3.weaken (Lo.Zt _)).toExt
  refine⟨⟨_,G'.x⟩,⟨s4,fun _ _ h=>h⟩,hs.ext s5,some ⟨w.heap.size,0,none⟩,(),rfl,?_⟩
  refine⟨some ⟨w.heap.size,0,none⟩,len,cs,by rw[hlen],⟨by omega,by simp only[small] at hsm; omega⟩,fun a ha _=>by cases ha; rfl,fun _=>rfl,h4.mono s4,fun j u hu=>?_⟩
  have hj:=(List.getElem?_eq_some_iff.1 hu).1
  show Mem.row G'.m w.heap.size _ 0 _ w.heap.size (0+j)=some u
  rw[Nat.zero_add,Mem.ZeB (Nat.zero_le _) hj,List.getElem?_toArray]
  exact hu) k
theorem Chain.tailU4{l:List Oper}{det:Fr}{d0 d1 d2 d3:Nat}{post0 post1 post2 post3:Mem->Value->Prop}(k:∀ v0 v1 v2 v3 G',Mem.le G G'->post0 G' v0->post1 G' v1->post2 G' v2->post3 G' v3->WL P N ops (NX Q) l ((d0,v0)::(d1,v1)::(d2,v2)::(d3,v3)::(det++fr)) (St w0 G0 G' L)):Chain P N Q fr w0 G0 G L ops (fun _=>True) [] l det [(d0,fun v g=>post0 g.m v),(d1,fun v g=>post1 g.m v),(d2,fun v g=>post2 g.m v),(d3,fun v g=>post3 g.m v)]:=fun u g hle hu=>WLT.of fun a w ha hs=>
 k (u d0) (u d1) (u d2) (u d3) g.m hle.1 hu.1 hu.2.1 hu.2.2.1 hu.2.2.2.1 a w ha hs.st
theorem Chain.tailU5{l:List Oper}{det:Fr}{d0 d1 d2 d3 d4:Nat}{post0 post1 post2 post3 post4:Mem->Value->Prop}(k:∀ v0 v1 v2 v3 v4 G',Mem.le G G'->post0 G' v0->post1 G' v1->post2 G' v2->post3 G' v3->post4 G' v4->WL P N ops (NX Q) l ((d0,v0)::(d1,v1)::(d2,v2)::(d3,v3)::(d4,v4)::(det++fr)) (St w0 G0 G' L)):Chain P N Q fr w0 G0 G L ops (fun _=>True) [] l det [(d0,fun v g=>post0 g.m v),(d1,fun v g=>post1 g.m v),(d2,fun v g=>post2 g.m v),(d3,fun v g=>post3 g.m v),(d4,fun v g=>post4 g.m v)]:=fun u g hle hu=>WLT.of fun a w ha hs=>
 k (u d0) (u d1) (u d2) (u d3) (u d4) g.m hle.1 hu.1 hu.2.1 hu.2.2.1 hu.2.2.2.1 hu.2.2.2.2.1 a w ha hs.st
theorem Chain.tailU7{l:List Oper}{det:Fr}{d0 d1 d2 d3 d4 d5 d6:Nat}{post0 post1 post2 post3 post4 post5 post6:Mem->Value->Prop}(k:∀ v0 v1 v2 v3 v4 v5 v6 G',Mem.le G G'->post0 G' v0->post1 G' v1->post2 G' v2->post3 G' v3->post4 G' v4->post5 G' v5->post6 G' v6->WL P N ops (NX Q) l ((d0,v0)::(d1,v1)::(d2,v2)::(d3,v3)::(d4,v4)::(d5,v5)::(d6,v6)::(det++fr)) (St w0 G0 G' L)):Chain P N Q fr w0 G0 G L ops (fun _=>True) [] l det [(d0,fun v g=>post0 g.m v),(d1,fun v g=>post1 g.m v),(d2,fun v g=>post2 g.m v),(d3,fun v g=>post3 g.m v),(d4,fun v g=>post4 g.m v),(d5,fun v g=>post5 g.m v),(d6,fun v g=>post6 g.m v)]:=fun u g hle hu=>WLT.of fun a w ha hs=>
 k (u d0) (u d1) (u d2) (u d3) (u d4) (u d5) (u d6) g.m hle.1 hu.1 hu.2.1 hu.2.2.1 hu.2.2.2.1 hu.2.2.2.2.1 hu.2.2.2.2.2.1 hu.2.2.2.2.2.2.1 a w ha hs.st
end
end Go.EL
namespace Go.EL
open Go.IntKind (i8 i16 i32 i64 u8 u16 u32 u64)
open Go Go.RowKit Go.Proofs
def FnR{α β:Type}(P:Program)(A:Mem->List Value->α->Prop)(R:Mem->Value->β->Prop)(G:Mem)(v:Value)(m:α->Cq β):Prop:=
 ∃ f cap,v = .func (.func f) #[] cap/\Enters P f/\∀ vs a x,(m a).Ret x->Ctr P f (vs.toArray++cap) (fun G'=>Mem.le G G'/\A G' vs a) (fun G' u=>R G' u x)
section
variable {α β:Type}{P:Program}{A:Mem->List Value->α->Prop}{R:Mem->Value->β->Prop}{G G':Mem}{v:Value}{m:α->Cq β}
theorem FnR.mono(h:FnR P A R G v m)(hle:Mem.le G G'):FnR P A R G' v m:=by
 obtain⟨f,cap,h1,h2,h3⟩:=h
 exact⟨f,cap,h1,h2,fun vs a x hx w G2 hi hp=>h3 vs a x hx w G2 hi ⟨Mem.le_trans hle hp.1,hp.2⟩⟩
end
section
variable {α β:Type}{P:Program}{N:Nat}{Q:Post}{fr:Fr}{ops:Array Oper}{l:List Oper}{dst:Option Nat}{ty:TypeId}{pos:String}{af:Array Edge}{g:Option (Nat×Bool)}{w0:Bs}{G0 G:Mem}{L:Lo}
variable {A:Mem->List Value->α->Prop}{R:Mem->Value->β->Prop}{v:Value}{m:α->Cq β}
theorem St.knowBox{key b:Nat}{c:Array Value}{t:TypeId}{w:World}(h:St w0 G0 G L w)(hid:L.get key=some ⟨b,.cells c t (0,0),0⟩)(h0:w0.L.get key=none):
  ∃ G',Mem.le G G'/\(∀ j u,c[j]? = some u->G' b j=some u)/\(∀ j,G b j=none)/\St w0 G0 G' ((key,some ⟨b,.cells c t (0,0),c.size⟩)::L) w:=by
 obtain⟨k1,k2⟩:=h.know (i:=key) (n:=c.size) hid h0 (Nat.zero_le _)
 refine⟨_,k2,fun j u hu=>?_,fun j=>(h.loc key _ hid).2.2 j (Nat.zero_le _),k1⟩
 have hj:=(Array.getElem?_eq_some_iff.1 hu).1
 rw[Mem.ZeB (Nat.zero_le _) hj]
 exact hu
theorem WC.knowBox{c':Code}{b:Nat}{c:Array Value}{t:TypeId}(key:Nat)(hid:L.get key=some ⟨b,.cells c t (0,0),0⟩)(h0:w0.L.get key=none)
  (k:∀ G',Mem.le G G'->(∀ j u,c[j]? = some u->G' b j=some u)->(∀ j,G b j=none)->WC P N c' Q fr (St w0 G0 G' ((key,some ⟨b,.cells c t (0,0),c.size⟩)::L))):WC P N c' Q fr (St w0 G0 G L):=fun a w ha hs=>by
 obtain⟨G',h1,h2,h3,h4⟩:=hs.knowBox hid h0
 exact k G' h1 h2 h3 a w ha h4
theorem At.box{r:Rp α}{b:Nat}{cs:List Value}{x:α}{c:Array Value}(hc:∀ j u,c[j]? = some u->G b j=some u)(e:c=cs.toArray)(h:r.rep G cs x):At r G b 0 x:=⟨cs,h,fun j u hu=>by
 subst e
 rw[Nat.zero_add]
 exact hc j u (by rw[List.getElem?_toArray]; exact hu)⟩
end
def FnRd{α β:Type}(P:Program)(A:Mem->List Value->α->Prop)(R:Mem->Value->β->Prop)(G:Mem)(v:Value)(_:Unit)(m:α->Cq β):Prop:=FnR P A R G v m
theorem FnRd.mono{α β:Type}{P:Program}{A:Mem->List Value->α->Prop}{R:Mem->Value->β->Prop}{G G':Mem}{v:Value}{u:Unit}{m:α->Cq β}(h:FnRd P A R G v u m)(hle:Mem.le G G'):FnRd P A R G' v u m:=FnR.mono h hle
theorem cells_one{v:Value}(h:v.oneCell'=true):v.cells = #[v]:=by
 cases v <;> first|rfl|(simp[Value.oneCell'] at h)
theorem Ctr.pre{P:Program}{f:FuncId}{args:Array Value}{pre pre':Mem->Prop}{post:Mem->Value->Prop}(h:Ctr P f args pre post)(hp:∀ G,pre' G->pre G):Ctr P f args pre' post:=fun w G hi hp'=>h w G hi (hp G hp')
section
variable {P:Program}{N:Nat}{Q:Post}{fr:Fr}{ops:Array Oper}{l:List Oper}{dst:Option Nat}{ty:TypeId}{pos:String}{af:Array Edge}{g:Option (Nat×Bool)}{w0:Bs}{G0 G:Mem}{L:Lo}
theorem WL.boxF{t:TypeId}{x:Operand}{v:Value}(i:Nat)(hv:v.oneCell'=true)(hg:guardOK ops fr ⟨dst,.box t x,ty,pos,af,g⟩ true)(hx:fr.ev x=some v)(hd:dstOK N dst)
  (k:∀ b,WL P N ops Q l (putFr dst (.pointer (some ⟨b,0,none⟩)) fr) (St w0 G0 G ((i,some ⟨b,.cells [v].toArray t (0,0),0⟩)::L))):WL P N ops Q (⟨dst,.box t x,ty,pos,af,g⟩::l) fr (St w0 G0 G L):=
 WL.box i hg hx hd fun b=>by rw[cells_one hv]; exact k b
end
def Ky.str{P:Program}{kt:TypeId}(hu:P.underlying kt=some .string):Ky P kt ByteArray where
 enc x:=.string x
 ok x:=x.size<=1000000
 inj h:=by cases h; rfl
 lit h:=⟨_,Go.WideMaps.keyOf_string_mk hu (by simp only[maxLen]; omega)⟩
 keyed:=Go.Maps.string_keyed hu
section
variable {P:Program}{kt:TypeId}{K V:Type} [DecidableEq K] {ky:Ky P kt K}{N:Nat}{fr:Fr}{dst:Option Nat}{ty:TypeId}{pos:String}{af:Array Edge}{g:Option (Nat×Bool)}{w0:Bs}{G0 G:Mem}{L:Lo}
theorem Y0.mapGet1{r:Rp V}{mk:V->Value}{t e:TypeId}{m x:Operand}{v:Value}{D:List (K×V)}{tk:Option Ow}{k:K}(key:Nat)(zx:V)(hmk:∀ {val y},r.rep G [val] y->val=mk y)(ht:P.underlying t=some (.map kt e))(hz:∀ w,(zeroValue e).run P w = .ok (mk zx) w)(h:MapR ky (RvS r G) v D tk)(hid:L.get key=tk)
  (hm:fr.ev m=some v) (hx:fr.ev x=some (ky.enc k)) (hk:ky.ok k):Y0 P N ⟨dst,.lookup t m x false,ty,pos,af,g⟩ fr (St w0 G0 G L) (mk ((mget D k).getD zx)):=fun a w ha hs=>by
 obtain⟨val,hr,hc⟩:=run_get false ht hz h hid hk w hs
 have:(execOp a.eval ⟨dst,.lookup t m x false,ty,pos,af,g⟩).run P w = .ok (.value val) w:=by
  simp[execOp,ha.ev hm,ha.ev hx,hr]
 rw[this]
 rcases hc with ⟨e1,rfl⟩|⟨y,e1,e2⟩
 .rw[e1]; rfl
 rw[e1,hmk e2]; rfl
theorem Zlk{G:Mem}{val:Value}{y:Bool}(h:Rp.bool.rep G [val] y):val = .bool y:=by
 replace h:[val]=[Value.bool y]:=h
 simpa using h
end
end Go.EL
namespace Go.EL
open Go.IntKind (i8 i16 i32 i64 u8 u16 u32 u64)
open Go Go.RowKit Go.Proofs
def Gx.turn(g:Gx)(k:Option Nat)(d:Nat)(tk:Option Ow)(G':Mem):Gx:=
 ⟨G',fun b=>if tk.any (fun y=>Nat.beq y.b b)=true then tk.map (fun y=>(d,y.o)) else match g.x b with|some p=>if k=some p.1 then none else some p|none=>none⟩
def Gx.drop(g:Gx)(tk:Option Ow):Gx:=⟨g.m,fun b=>if tk.any (fun y=>Nat.beq y.b b)=true then none else g.x b⟩
theorem Zhw{tk:Option Ow}{b:Nat}:tk.any (fun y=>Nat.beq y.b b)=true↔∃ y,tk=some y/\y.b=b:=by
 cases tk with
 | none=>simp
 | some y=>simp
section
variable {w0:Bs}{G0:Mem}{L:Lo}
theorem StX.extO{g:Gx}{G':Mem}{w w':World}{k:Option Nat}{Lin:Lo}{i0 d:Nat}{tk:Option Ow}(h:StX w0 G0 g L w)(e:Ext w g.m Lin w' G' [(i0,tk)])
  (hin:∀ i y,Lin.get i=some y->∃ j o,k=some j/\g.x y.b=some (j,o)) (hz:∀ y,tk=some y->y.m=0):StX w0 G0 (g.turn k d tk G') L w'/\Gx.leO k g (g.turn k d tk G'):=by
 have lt:∀ b p,g.x b=some p->b<w.heap.size:=fun b p hb=>(Array.getElem?_eq_some_iff.1 (h.own b p.1 p.2 hb).1).1
 have old:∀ b i o,g.x b=some (i,o)->k≠some i->∀ y,tk=some y->y.b≠b:=by
  intro b i o hb hk y hy he
  subst he
  rcases (e.loc i0 y (by rw[hy]; simp[Lo.get])).2.1 with ⟨y0,h1,h2⟩|h1
  .obtain⟨j,o',h3,h4⟩:=hin i0 y0 h1
   rw[h2,hb] at h4
   cases h4
   exact hk h3
  have:=lt _ _ hb
  omega
 have hle:Gx.leO k g (g.turn k d tk G'):=⟨e.le,fun b i o hb hk=>by
  have hn:¬ tk.any (fun y=>Nat.beq y.b b)=true:=fun ha=>by obtain⟨y,h1,h2⟩:=Zhw.1 ha; exact old b i o hb hk y h1 h2
  simp only[Gx.turn,if_neg hn,hb,if_neg hk]⟩
 refine⟨⟨?_,fun b i o hb=>?_⟩,hle⟩
 .refine⟨e.os.trans h.st.os,e.tape.trans h.st.tape,e.output.trans h.st.output,Nat.le_trans h.st.drawn e.drawn,Nat.le_trans h.st.size e.size,fun b hb hn=>?_,Mem.le_trans h.st.base e.le,e.imm,fun b o v hv=>?_,fun i x hi=>?_,h.st.dist⟩
  .have:=h.st.size
   rw[e.block b (by omega) (fun i y hi hy=>?_)]
   .exact h.st.block b hb hn
   obtain⟨j,o',_,h4⟩:=hin i y hi
   have:=(h.own _ _ _ h4).2.1
   omega
  .rcases e.fresh b o v hv with h'|h'|⟨i,y,hi,hyb,_⟩
   .exact h.st.fresh b o v h'
   .exact .inr (.inl (Nat.le_trans h.st.size h'))
   obtain⟨j,o',_,h4⟩:=hin i y hi
   exact .inr (.inl (by rw[<- hyb]; exact (h.own _ _ _ h4).2.1))
  obtain⟨m1,m2,m3⟩:=h.st.loc i x hi
  have hb:=(Array.getElem?_eq_some_iff.1 m1).1
  have hne:∀ j y,Lin.get j=some y->y.b≠x.b:=fun j y hj he=>by
   obtain⟨j',o',_,h4⟩:=hin j y hj
   exact (h.own _ _ _ h4).2.2.2 i x hi he.symm
  refine⟨?_,m2,fun q hq=>?_⟩
  .rw[e.block x.b hb hne]; exact m1
  cases hg:G' x.b q with
  | none=>exact hg
  | some v=>
   rcases e.fresh x.b q v hg with h'|h'|⟨j,y,hj,hy,_⟩
   .rw[m3 q hq] at h'; cases h'
   .omega
   exact absurd hy (hne j y hj)
 simp only[Gx.turn] at hb
 split at hb
 .rename_i ha
  obtain⟨y,h1,h2⟩:=Zhw.1 ha
  rw[h1] at hb
  simp only[Option.map_some,Option.some.injEq,Prod.mk.injEq] at hb
  obtain⟨rfl,rfl⟩:=hb
  subst h2
  obtain⟨m1,m2,m3⟩:=e.loc i0 y (by rw[h1]; simp[Lo.get])
  refine⟨m1,?_,fun q=>m3 q (by rw[hz y h1]; omega),fun j z hj he=>?_⟩
  .rcases m2 with ⟨y0,q1,q2⟩|m2
   .obtain⟨j,o',_,h4⟩:=hin i0 y0 q1
    rw[<- q2]; exact (h.own _ _ _ h4).2.1
   exact Nat.le_trans h.st.size m2
  rcases m2 with ⟨y0,q1,q2⟩|m2
  .obtain⟨j',o',_,h4⟩:=hin i0 y0 q1
   exact (h.own _ _ _ h4).2.2.2 j z hj (by rw[he,q2])
  have:=(Array.getElem?_eq_some_iff.1 (h.st.loc j z hj).1).1
  omega
 cases hg:g.x b with
 | none=>rw[hg] at hb; cases hb
 | some p=>
  rw[hg] at hb
  simp only at hb
  split at hb
  .cases hb
  rename_i hk
  simp only[Option.some.injEq] at hb
  subst hb
  obtain⟨m1,m2,m3,m4⟩:=h.own b i o hg
  have hb:=lt _ _ hg
  have hne:∀ j y,Lin.get j=some y->y.b≠b:=fun j y hj he=>by
   obtain⟨j',o',h3,h4⟩:=hin j y hj
   rw[he,hg] at h4
   cases h4
   exact hk h3
  refine⟨by rw[e.block b hb hne]; exact m1,m2,fun q=>?_,m4⟩
  cases hG:G' b q with
  | none=>exact hG
  | some v=>
   rcases e.fresh b q v hG with h'|h'|⟨j,y,hj,hy,_⟩
   .rw[m3 q] at h'; cases h'
   .omega
   exact absurd hy (hne j y hj)
end
section
variable {α:Type}
def RowX(r:Rp α)(e:TypeId)(d:Nat)(xs:List α):Value->Gx->Prop:=fun v g=>∃ p c tk,v = .slice p xs.length c/\RowR r e g.m (.slice p xs.length c) xs tk/\∀ y,tk=some y->g.x y.b=some (d,y.o)
variable {r:Rp α}{e:TypeId}{d:Nat}{xs:List α}
theorem RowX.mono{v:Value}{g g':Gx}(hle:Gx.leE d g g'):RowX r e d xs v g->RowX r e d xs v g':=fun ⟨p,c,tk,h1,h2,h3⟩=>⟨p,c,tk,h1,h2.mono hle.1,fun y hy=>hle.2 _ _ (h3 y hy)⟩
theorem RowX.drop{d':Nat}{v:Value}{g:Gx}{tk:Option Ow}(h:RowX r e d xs v g)(hne:Nat.beq d d'=false)(ht:∀ y,tk=some y->g.x y.b=some (d',y.o)):RowX r e d xs v (g.drop tk):=
 h.mono (g':=g.drop tk) ⟨(fun _ _ _ h=>h:Mem.le g.m g.m),fun b o hb=>by
  have hn:¬ tk.any (fun y=>Nat.beq y.b b)=true:=fun ha=>by
   obtain⟨y,h1,h2⟩:=Zhw.1 ha
   have:=ht y h1
   rw[h2,hb] at this
   cases this
   simp at hne
  simp only[Gx.drop,if_neg hn]
  exact hb⟩
theorem Laid.drop{d':Nat}{ob:Obj}{v:Value}{g:Gx}{tk:Option Ow}(h:Laid d ob v g)(hne:Nat.beq d d'=false)(ht:∀ y,tk=some y->g.x y.b=some (d',y.o)):Laid d ob v (g.drop tk):=
 Laid.mono _ _ (g.drop tk) ⟨(fun _ _ _ h=>h:Mem.le g.m g.m),fun b o hb=>by
  have hn:¬ tk.any (fun y=>Nat.beq y.b b)=true:=fun ha=>by
   obtain⟨y,h1,h2⟩:=Zhw.1 ha
   have:=ht y h1
   rw[h2,hb] at this
   cases this
   simp at hne
  simp only[Gx.drop,if_neg hn]
  exact hb⟩ h
end
section
variable {P:Program}{N:Nat}{Q:Post}{fr:Fr}{w0:Bs}{G0 G:Mem}{L:Lo}{ops:Array Oper}{ty:TypeId}{pos:String}{af:Array Edge}{g:Option (Nat×Bool)}{fs:List Bool}{l:List Oper}{det:Fr}{und:Und}{d:Nat}{op:Op}
variable {α:Type}{r:Rp α}{e:TypeId}
theorem StX.adoptR{g:Gx}{w:World}{tk:Option Ow}(h:StX w0 G0 g L w)(hz:∀ y,tk=some y->y.m=0)(hb:∀ y,tk=some y->g.x y.b=some (d,y.o)):StX w0 G0 (g.drop tk) ((d,tk)::L) w:=by
 cases tk with
 | none=>exact⟨h.st.weaken (Lo.Zlp (Lo.Zb3 _)),fun b i o hx=>by
   have hx:g.x b=some (i,o):=by simpa [Gx.drop] using hx
   obtain⟨h1,h2,h3,h4⟩:=h.own b i o hx
   refine⟨h1,h2,h3,fun j y hj=>?_⟩
   rw[Lo.Zi] at hj
   split at hj
   .cases hj
   exact h4 j y hj⟩
 | some y=>
  obtain⟨b,o,m⟩:=y
  have:=hz _ rfl
  simp only at this
  subst this
  have k:=h.adopt (hb _ rfl)
  refine⟨k.st,fun b' i o' hx=>?_⟩
  refine k.own b' i o' ?_
  simp only[Gx.drop,Option.any_some] at hx
  split at hx
  .cases hx
  rename_i hne
  simp only
  rw[if_neg (fun e=>hne (by rw[e]; simp))]
  exact hx
theorem Chain.litOwn{Bt:Asrt}{t:TypeId}{len:Nat}{parts:Array (Nat×Operand)}(xs:List α)(hg:∀ u,guardOK ops (undFr und u++(det++fr)) ⟨some d,.buildSlice t len parts,ty,pos,af,g⟩ true)(hlen:xs.length=len)(hsm:len<=small)
  (h:∀ u (G':Gx),Mem.le G G'.m->undLook ops ⟨some d,.buildSlice t len parts,ty,pos,af,g⟩ und u G'->∃ vs:Array (Nat×Value),∃ cs:List Value,(undFr und u++(det++fr)).evs (parts.toList.map (·.2))=some (vs.toList.map (·.2))/\parts.toList.map (·.1)=vs.toList.map (·.1)/\
   (∀ w,(Instr.buildSlice t len vs).run P w = .ok (.slice (some ⟨w.heap.size,0,none⟩) len len) (w.alloc (.cells cs.toArray e)))/\RepL r G'.m cs xs)
  (k:Chain P N Q fr w0 G0 G L ops Bt fs l det ((d,RowX r e d xs)::und)):Chain P N Q fr w0 G0 G L ops Bt (false::fs) (⟨some d,.buildSlice t len parts,ty,pos,af,g⟩::l) det und:=
 Chain.cund d (RowX r e d xs) rfl (fun v _ _ h=>RowX.mono h) (fun u G' hle hu=>by
  obtain⟨vs,cs,h1,h2,h3,h4⟩:=h u G' hle.1 hu
  refine .inr ⟨hg u,fun a w ha hs=>?_⟩
  have e3:(parts.map fun (i,x)=>(i,a.eval x))=vs:=Zi9 ha h1 h2
  have:(execOp a.eval ⟨some d,.buildSlice t len parts,ty,pos,af,g⟩).run P w = .ok (.value (.slice (some ⟨w.heap.size,0,none⟩) len len)) (w.alloc (.cells cs.toArray e)):=by
   simp only[execOp,e3]
   simp[h3 w]
  rw[this]
  have hcs:=h4.len
  have s1:St ⟨w,[]⟩ G'.m G'.m [] w:=Hp.st (hs.st.hp (Lo.Zt _))
  have s2:=(s1.push 0 (.cells cs.toArray e)).toExt
  obtain⟨s3,s4⟩:=hs.extO (d:=d) (k:=none) s2 (fun i y hi=>by simp[Lo.get] at hi) (fun y hy=>by cases hy; rfl)
  refine⟨_,s4.le,s3,some ⟨w.heap.size,0,none⟩,len,some ⟨w.heap.size,.cells cs.toArray e,0⟩,by rw[hlen],⟨len,cs,[],by rw[hlen],by simp,rfl,h4,by simp[hcs,hlen],by simp only[small,maxLen] at *; omega,by omega⟩,fun y hy=>?_⟩
  simp only[Gx.turn]
  rw[if_pos (Zhw.2 ⟨y,hy,rfl⟩),hy]; rfl) k
theorem WL.adoptL{X:Gx}{v:Value}{ob:Obj}(h:Laid d ob v X)
  (k:∀ b,v = .pointer (some ⟨b,0,none⟩)->(∀ y,some (⟨b,ob,0⟩:Ow)=some y->X.x y.b=some (d,y.o))->WL P N ops Q l fr (StX w0 G0 (X.drop (some ⟨b,ob,0⟩)) ((d,some ⟨b,ob,0⟩)::L))):WL P N ops Q l fr (StX w0 G0 X L):=fun a w ha hs=>by
 obtain⟨b,h1,h2⟩:=h
 have h3:∀ y,some (⟨b,ob,0⟩:Ow)=some y->X.x y.b=some (d,y.o):=fun y hy=>by cases hy; exact h2
 exact k b h1 h3 a w ha (hs.adoptR (fun y hy=>by cases hy; rfl) h3)
end
end Go.EL
namespace Go.EL
open Go.IntKind (i8 i16 i32 i64 u8 u16 u32 u64)
open Go Go.RowKit Go.Proofs
def spl(c:List Value)(o:Nat)(ds:List Value):List Value:=c.take o++ds++c.drop (o+ds.length)
section
variable {P:Program}{w0:Bs}{G0 G:Mem}{L:Lo}
theorem St.setRow{w:World}{key b:Nat}{c:Array Value}{e:TypeId}(hs:St w0 G0 G L w)(hid:L.get key=some ⟨b,.cells c e (0,0),0⟩)(c':Array Value):St w0 G0 G ((key,some ⟨b,.cells c' e (0,0),0⟩)::L) (w.setRow b c'):=by
 have hblk:=(hs.loc key _ hid).1
 dsimp only at hblk
 exact hs.upd hid (by simp[World.setRow,Array.getElem?_modify,hblk]) (Nat.le_refl _) (fun k _ hk _=>absurd hk (Nat.not_lt_zero k)) (fun k hk=>by
  simp only[World.setRow,Array.getElem?_modify]
  rw[if_neg (fun e=>hk e.symm)]) rfl rfl rfl rfl (by simp[World.setRow])
theorem ZlW(w:World)(dT sT ty elem:TypeId)(g o dLen dCap sLen sCap sz k:Nat)(a:Addr)(cur:Array Value)(t:TypeId)(cs:List Value)
  (hu:P.underlying dT=some (.slice elem)) (hs:(P.info? elem).map (·.size)=some sz)
  (hg:w.heap[g]? = some (.cells cur t (0,0))) (hk:Nat.min sLen dLen=k) (hn:cs.length=k*sz)
  (hsrc:∀ j v,cs[j]? = some v->w.cell? (a.add j)=some v) (hfit:o+cs.length<=cur.size) (h1:∀ v ∈ cs,v.oneCell'=true) :
  (Builtin.copy_ #[dT,sT] ty #[.slice (some ⟨g,o,none⟩) dLen dCap,.slice (some a) sLen sCap]).run P w =
   .ok (goInt k) (w.setRow g (cur.toList.take o++cs++cur.toList.drop (o+cs.length)).toArray):=by
 have hl:=run_loadCells_list (P:=P) w a cs hsrc
 have hst:=run_storeCells_at P g o t cs 0 cur w hg (by simpa using hfit) h1
 cases hq:P.info? elem with
 | none=>simp[hq] at hs
 | some i=>
  have hi:i.size=sz:=by simpa [hq] using hs
  simp[Builtin.copy_,run_underlying hu,Builtin.lenOf,Builtin.firstCells,sizeOf,typeInfo,hq,hi,hk,<- hn,hl,hst]
theorem Zol{z:Array Value}(h0:0<z.size)(n:Nat):(Builtin.zeroCells z n).toList=(List.replicate n z.toList).flatten:=Zg9 h0 n
theorem ZjD(w:World)(t e ty:TypeId)(z:Value)(ht:P.underlying t=some (.slice e))(hv:∀ w,(zeroValue e).run P w = .ok z w)(h1:∀ v ∈ z.cells.toList,v.oneCell'=true)(h0:0<z.cells.size)(g o n c:Nat)(cur:Array Value)(tt:TypeId)
  (hg:w.heap[g]? = some (.cells cur tt (0,0))) (hfit:o+n*z.cells.size<=cur.size) :
  ∃ ds:List Value,ds=(List.replicate n z.cells.toList).flatten/\(Builtin.clear_ #[t] ty #[.slice (some ⟨g,o,none⟩) n c]).run P w = .ok (.tuple #[]) (w.setRow g (cur.toList.take o++ds++cur.toList.drop (o+ds.length)).toArray):=by
 refine⟨_,rfl,?_⟩
 cases n with
 | zero=>
  simp only[List.replicate_zero,List.flatten_nil,List.append_nil,List.length_nil,Nat.add_zero,List.take_append_drop,Array.toArray_toList]
  rw[setRow_self w g cur tt (0,0) hg]
  simp[Builtin.clear_,run_underlying ht]
 | succ m=>
  have hz:=Zol h0 (m+1)
  have hone:∀ v ∈ (List.replicate (m+1) z.cells.toList).flatten,v.oneCell'=true:=by
   intro v hv'
   obtain⟨q,hq,hvq⟩:=List.mem_flatten.1 hv'
   rw[List.eq_of_mem_replicate hq] at hvq
   exact h1 v hvq
  have hlen:(List.replicate (m+1) z.cells.toList).flatten.length=(m+1)*z.cells.size:=by simp
  have hst:=run_storeCells_at P g o tt (List.replicate (m+1) z.cells.toList).flatten 0 cur w hg (by rw[hlen]; simpa using hfit) hone
  simp only[Nat.add_zero] at hst
  simp only[Builtin.clear_]
  simp[run_underlying ht,hv,hz,hst]
end
section
variable {P:Program}{N:Nat}{Q:Post}{fr:Fr}{S:Asrt}{ops:Array Oper}{l:List Oper}{dst:Option Nat}{ty:TypeId}{pos:String}{af:Array Edge}{g:Option (Nat×Bool)}{w0:Bs}{G0 G:Mem}{L:Lo}
theorem Zcz(b o n:Nat):(⟨b,o,none⟩:Addr).add n=⟨b,o+n,none⟩:=Z6 b o n
theorem Y0.slc{t e:TypeId}{x:Operand}{lo hi mx:Option Operand}{b o n cap sz:Nat}{l h m:Nat}(ht:P.underlying t=some (.slice e))(hsz:(P.info? e).map (·.size)=some sz)(hx:fr.ev x=some (.slice (some ⟨b,o,none⟩) n cap))
  (hm:match mx with|none=>m=cap|some y=>∃ k,fr.ev y=some (.int k (m:Int))) (hh:match hi with|none=>h=n/\mx=none|some y=>∃ k,fr.ev y=some (.int k (h:Int))) (hl:match lo with|none=>l=0|some y=>∃ k,fr.ev y=some (.int k (l:Int)))
  (h1:l<=h) (h2:h<=m) (h3:m<=cap):Y0 P N ⟨dst,.slice t x lo hi mx,ty,pos,af,g⟩ fr S (.slice (some ⟨b,if m=l then o else o+l*sz,none⟩) (h-l) (m-l)):=fun a w ha _=>by
 have hadd:(if m=l then some (⟨b,o,none⟩:Addr) else some (⟨b,o+l*sz,none⟩:Addr))=some ⟨b,if m=l then o else o+l*sz,none⟩:=by split <;> rfl
 have i1:(l:Int)<=(h:Int):=by omega
 have i2:(h:Int)<=(m:Int):=by omega
 have i3:(m:Int)<=(cap:Int):=by omega
 have i4:(h:Int)<=(cap:Int):=by omega
 cases mx with
 | none=>
  subst hm
  cases hi with
  | none=>
   obtain⟨rfl,_⟩:=hh
   cases lo with
   | none=>
    subst hl
    simp[execOp,ha.ev hx,Instr.sliceAt,run_underlying ht,Instr.slice,Instr.sliceBounds,run_sizeOf hsz,Zcz]
   | some y=>
    obtain⟨k,hy⟩:=hl
    simp only[execOp,ha.ev hx,Option.map_none,Option.map_some,ha.ev hy]
    simp[Instr.sliceAt,run_underlying ht,Instr.slice,Instr.sliceBounds,Instr.sliceBound,asIntOf,run_sizeOf hsz,Zcz,h1,<- hadd]
  | some y2=>
   obtain⟨k2,hy2⟩:=hh
   cases lo with
   | none=>
    subst hl
    simp only[execOp,ha.ev hx,Option.map_none,Option.map_some,ha.ev hy2]
    simp[Instr.sliceAt,run_underlying ht,Instr.slice,Instr.sliceBounds,Instr.sliceBound,asIntOf,run_sizeOf hsz,Zcz,h2]
   | some y=>
    obtain⟨k,hy⟩:=hl
    simp only[execOp,ha.ev hx,Option.map_none,Option.map_some,ha.ev hy,ha.ev hy2]
    simp[Instr.sliceAt,run_underlying ht,Instr.slice,Instr.sliceBounds,Instr.sliceBound,asIntOf,run_sizeOf hsz,Zcz,h1,h2,<- hadd]
 | some y3=>
  obtain⟨k3,hy3⟩:=hm
  cases hi with
  | none=>exact absurd hh.2 (by simp)
  | some y2=>
   obtain⟨k2,hy2⟩:=hh
   cases lo with
   | none=>
    subst hl
    simp only[execOp,ha.ev hx,Option.map_none,Option.map_some,ha.ev hy2,ha.ev hy3]
    simp[Instr.sliceAt,run_underlying ht,Instr.slice,Instr.sliceBounds,Instr.sliceBound,asIntOf,run_sizeOf hsz,Zcz,h2,h3]
   | some y=>
    obtain⟨k,hy⟩:=hl
    simp only[execOp,ha.ev hx,Option.map_none,Option.map_some,ha.ev hy,ha.ev hy2,ha.ev hy3]
    simp[Instr.sliceAt,run_underlying ht,Instr.slice,Instr.sliceBounds,Instr.sliceBound,asIntOf,run_sizeOf hsz,Zcz,h1,h2,h3,<- hadd]
theorem Y0.slcN{t e:TypeId}{x y:Operand}{b n cap sz l:Nat}{k:IntKind}(ht:P.underlying t=some (.slice e))(hsz:(P.info? e).map (·.size)=some sz)(hx:fr.ev x=some (.slice (some ⟨b,0,none⟩) n cap))(hy:fr.ev y=some (.int k (l:Int)))(h1:l<=n)(h2:n<=cap)(h3:¬ cap=l):
  Y0 P N ⟨dst,.slice t x (some y) none none,ty,pos,af,g⟩ fr S (.slice (some ⟨b,l*sz,none⟩) (n-l) (cap-l)):=by
 have:=Y0.slc (P:=P) (N:=N) (S:=S) (dst:=dst) (ty:=ty) (pos:=pos) (af:=af) (g:=g) (lo:=some y) (hi:=none) (mx:=none) ht hsz hx rfl ⟨rfl,rfl⟩ ⟨k,hy⟩ h1 h2 (Nat.le_refl _)
 rwa [if_neg h3,Nat.zero_add] at this
theorem WL.copyOwn{dT sT elem e:TypeId}{x y:Operand}{b o dn dc sb so sn sc sz:Nat}{c ds:List Value}(key:Nat)(hg:guardOK ops fr ⟨dst,.call ⟨.builtin .copy,#[x,y],#[dT,sT]⟩,ty,pos,af,g⟩ true)(hd:dstOK N dst)(hu:P.underlying dT=some (.slice elem))(hsz:(P.info? elem).map (·.size)=some sz)
  (hid:L.get key=some ⟨b,.cells c.toArray e (0,0),0⟩) (hx:fr.ev x=some (.slice (some ⟨b,o,none⟩) dn dc)) (hy:fr.ev y=some (.slice (some ⟨sb,so,none⟩) sn sc)) (hn:ds.length=Nat.min sn dn*sz)
  (hsrc:∀ w,St w0 G0 G L w->∀ j v,ds[j]? = some v->w.cell? ⟨sb,so+j,none⟩=some v) (hfit:o+ds.length<=c.length) (h1:∀ v ∈ ds,v.oneCell'=true)
  (k:WL P N ops Q l (putFr dst (goInt (Nat.min sn dn)) fr) (St w0 G0 G ((key,some ⟨b,.cells (spl c o ds).toArray e (0,0),0⟩)::L))):WL P N ops Q (⟨dst,.call ⟨.builtin .copy,#[x,y],#[dT,sT]⟩,ty,pos,af,g⟩::l) fr (St w0 G0 G L):=by
 refine WL.yr (Φ:=fun v w=>v=goInt (Nat.min sn dn)/\St w0 G0 G ((key,some ⟨b,.cells (spl c o ds).toArray e (0,0),0⟩)::L) w) hg (fun a w ha hs=>?_) hd (fun v a w ha ⟨h1,h2⟩=>by subst h1; exact k a w ha h2)
 have hblk:=(hs.loc key _ hid).1
 have hr:=ZlW (P:=P) w dT sT ty elem b o dn dc sn sc sz _ ⟨sb,so,none⟩ c.toArray e ds hu hsz hblk rfl hn (fun j v hj=>by rw[Zcz]; exact hsrc w hs j v hj) (by simpa using hfit) h1
 have:(execOp a.eval ⟨dst,.call ⟨.builtin .copy,#[x,y],#[dT,sT]⟩,ty,pos,af,g⟩).run P w = .ok (.value (goInt (Nat.min sn dn))) (w.setRow b (c.toArray.toList.take o++ds++c.toArray.toList.drop (o+ds.length)).toArray):=by
  simp only[execOp,resolve,invoke,builtin]
  simp[ha.ev hx,ha.ev hy,hr]
 rw[this]
 exact⟨rfl,hs.setRow hid _⟩
theorem Y0.capS{x:Operand}{t e:TypeId}{p:Option Addr}{n c:Nat}(ht:P.underlying t=some (.slice e))(hx:fr.ev x=some (.slice p n c)):Y0 P N ⟨dst,.call ⟨.builtin .cap,#[x],#[t]⟩,ty,pos,af,g⟩ fr S (.int .i64 (c:Int)):=fun a w ha _=>by
 simp[execOp,resolve,invoke,builtin,ha.ev hx,Builtin.cap_,run_underlying ht,goInt]
theorem Y0.lenC{x:Operand}{t e:TypeId}{p:Option Addr}{n c:Nat}(ht:P.underlying t=some (.slice e))(hx:fr.ev x=some (.slice p n c)):Y0 P N ⟨dst,.call ⟨.builtin .len,#[x],#[t]⟩,ty,pos,af,g⟩ fr S (.int .i64 (n:Int)):=fun a w ha _=>by
 simp[execOp,resolve,invoke,builtin,ha.ev hx,Builtin.len_,run_underlying ht,goInt]
theorem ZfF(w:World)(t ti ty e:TypeId)(i:TypeInfo)(z:Value)(ik:IntKind)(ht:P.underlying t=some (.slice e))(hti:P.underlying ti=some (.int ik))(hi:P.info? e=some i)(hz:i.zero=some z)(hsz:0<i.size)(base:Option Addr)(n cap m:Nat)(olds:List Value)
  (hold:(Builtin.firstCells i.size n (.slice base n cap)).run P w.drew = .ok olds.toArray w.drew) (hm:0<m) (hg:cap<n+m) (hn:n+m<=1000000000) (hby:i.bytes<=100000) :
  (Builtin.append_ #[t,ti] ty #[.slice base n cap,.int .i64 (m:Int)]).run P w =
   .ok (.slice (some ⟨w.heap.size,0,none⟩) (n+m) (grownCap w (n+m) cap e)) (w.drew.alloc (.cells (olds.toArray++Builtin.zeroCells z.cells m++Builtin.zeroCells z.cells (grownCap w (n+m) cap e-(n+m))) e)):=by
 have hw:i64.wrap (m:Int)=m:=by rw[IntKind.wrap_i64]; omega
 have hneg:¬ ((m:Int)<0):=by omega
 have hns:¬ (m*i.size=0):=Nat.mul_ne_zero (by omega) (by omega)
 have hmb:m*i.bytes<=100000000000000:=by
  have:m*i.bytes<=1000000000*100000:=Nat.mul_le_mul (by omega) hby
  omega
 have h48i:¬ (281474976710656<(m:Int)*(i.bytes:Int)):=by rw[<- Int.natCast_mul]; omega
 have hcp:¬ (n+m<=cap):=by omega
 have h63':¬ (9223372036854775807<((n:Int)+(m:Int))):=by omega
 have hnb:(n+m)*i.bytes<=140737488355328:=by
  have:(n+m)*i.bytes<=1000000000*100000:=Nat.mul_le_mul hn hby
  omega
 have h48':¬ (281474976710656<Builtin.nextslicecap (n+m) cap*i.bytes):=by have:=growslice_fits hg hnb; omega
 have hm0:m≠0:=by omega
 simp[Builtin.append_,run_underlying ht,run_underlying hti,sizeOf,typeInfo,zeroValue,hi,hz,asInt,asIntOf,hw,hm0,hneg,hns,h48i,hcp,h63',h48',Question.forced,hold,newRow,grownCap]
theorem Y0.slcG{t e:TypeId}{x y:Operand}{p:Option Addr}{n cap sz:Nat}{l:Nat}{k:IntKind}(ht:P.underlying t=some (.slice e))(hsz:(P.info? e).map (·.size)=some sz)(hx:fr.ev x=some (.slice p n cap))(hy:fr.ev y=some (.int k (l:Int)))(h1:l<=n):
  Y0 P N ⟨dst,.slice t x (some y) none none,ty,pos,af,g⟩ fr S (.slice (if cap=l then p else p.map (·.add (l*sz))) (n-l) (cap-l)):=fun a w ha _=>by
 have i1:(l:Int)<=(n:Int):=by omega
 simp only[execOp,ha.ev hx,Option.map_none,Option.map_some,ha.ev hy]
 simp[Instr.sliceAt,run_underlying ht,Instr.slice,Instr.sliceBounds,Instr.sliceBound,asIntOf,run_sizeOf hsz,h1]
end
end Go.EL
namespace Go.EL
open Go.IntKind (i8 i16 i32 i64 u8 u16 u32 u64)
open Go Go.RowKit Go.Proofs Go.MapKept
def Cq.pick{α β:Type}(R:List α)(over:Cq β)(k:α->List α->Cq β):Cq β:=
 ⟨fun p=>(R=[]->over.wp p)/\∀ R1 a R2,R=R1++a::R2->(k a (R1++R2)).wp p,fun h ⟨h1,h2⟩=>⟨fun e=>over.mono h (h1 e),fun R1 a R2 e=>(k a _).mono h (h2 R1 a R2 e)⟩,fun n=>if R.isEmpty then over.ev n else none,fun n b h p hp=>by
  cases R with
  | nil=>exact⟨fun _=>over.sound n b h p hp,fun R1 a R2 e=>by cases R1 <;> cases e⟩
  | cons x R=>simp at h⟩
section
variable {P:Program}{N:Nat}{Q:Post}{fr:Fr}{S:Asrt}{ops:Array Oper}{l:List Oper}{dst:Option Nat}{ty:TypeId}{pos:String}{af:Array Edge}{g:Option (Nat×Bool)}{w0:Bs}{G0 G:Mem}{L:Lo}
variable {α:Type}{r:Rp α}{e:TypeId}
theorem WL.takeRow{t e':TypeId}{x y:Operand}{k:IntKind}{hi:Int}{p:Option Addr}{n c sz:Nat}{xs:List α}{tk:Option Ow}(hg:guardOK ops fr ⟨dst,.slice t x none (some y) none,ty,pos,af,g⟩ true)(hd:dstOK N dst)(ht:P.underlying t=some (.slice e'))(hsz:(P.info? e').map (·.size)=some sz)(hsr:sz=r.size)(h:RowR r e G (.slice p n c) xs tk)
  (hx:fr.ev x=some (.slice p n c)) (hy:fr.ev y=some (.int k hi)) (hb:0<=(0:Int)/\(0:Int)<=hi/\hi<=(xs.length:Int))
  (kk:RowR r e G (.slice p hi.toNat c) (xs.take hi.toNat) tk->WL P N ops Q l (putFr dst (.slice p hi.toNat c) fr) S):WL P N ops Q (⟨dst,.slice t x none (some y) none,ty,pos,af,g⟩::l) fr S:=by
 obtain⟨m,rfl⟩:∃ m:Nat,hi=m:=⟨hi.toNat,by omega⟩
 have hm:m<=xs.length:=by omega
 rw[Int.toNat_natCast] at kk
 cases tk with
 | none=>
  obtain⟨rfl,q,hv,hq⟩:=h
  cases hv
  have:m=0:=by simpa using hm
  subst this
  refine WL.y0' hg (v:=.slice p 0 0) (fun a w ha _=>?_) hd (kk ⟨rfl,p,rfl,hq⟩)
  simp only[execOp,ha.ev hx,Option.map_none,Option.map_some,ha.ev hy]
  simp[Instr.sliceAt,run_underlying ht,Instr.slice,Instr.sliceBounds,Instr.sliceBound,asIntOf,run_sizeOf hsz]
 | some y0=>
  obtain⟨c1,cs,rest,hv,ho,hm0,hrep,hlen,hcm,hle⟩:=h
  cases hv
  obtain⟨b,ob,mk⟩:=y0
  dsimp only at ho hm0
  subst ho hm0
  obtain⟨ca,cb,hcab,hra,hrb⟩:=RepL.split (l:=xs.take m) (m:=xs.drop m) (by rw[List.take_append_drop]; exact hrep)
  subst hcab
  have h1:=Y0.slc (P:=P) (N:=N) (S:=S) (dst:=dst) (ty:=ty) (pos:=pos) (af:=af) (g:=g) (lo:=none) (hi:=some y) (mx:=none) (l:=0) (h:=m) (m:=c) ht hsz hx rfl ⟨_,hy⟩ rfl (Nat.zero_le _) (by omega) (Nat.le_refl _)
  simp only[Nat.zero_mul,Nat.add_zero,ite_self,Nat.sub_zero] at h1
  refine WL.y0' hg h1 hd (kk ⟨c,ca,cb++rest,by rw[List.length_take,Nat.min_eq_left hm],by rw[List.append_assoc],rfl,hra,by rw[<- List.append_assoc]; exact hlen,hcm,by rw[List.length_take]; omega⟩)
theorem WL.clearTail{t:TypeId}{x y:Operand}{k:IntKind}{lo:Int}{p:Option Addr}{n c d sz bytes:Nat}{xs:List α}{tk:Option Ow}{z:Value}{zx:α}{y1 y2:TypeId}{p1 p2:String}{a1 a2:Array Edge}(key:Nat)(hd:dstOK N (some d))(ht:P.underlying t=some (.slice e))(hE:ElT P e z sz bytes)(hzs:z.cells.size=sz)(hsr:sz=r.size)(h1z:∀ v ∈ z.cells.toList,v.oneCell'=true)(h0:0<sz)
  (hzr:r.rep G z.cells.toList zx) (h:RowR r e G (.slice p n c) xs tk) (hid:L.get key=tk) (hx:fr.ev x=some (.slice p n c)) (hy:fr.ev y=some (.int k lo)) (hb:0<=lo/\lo<=(xs.length:Int)/\(xs.length:Int)<=(xs.length:Int))
  (kk:∀ v tk',RowR r e G (.slice p n c) (xs.take lo.toNat++List.replicate (xs.length-lo.toNat) zx) tk'->WL P N ops Q l ((d,v)::fr) (St w0 G0 G ((key,tk')::L))) :
  WL P N ops Q (⟨some d,.slice t x (some y) none none,y1,p1,a1,none⟩::⟨none,.call ⟨.builtin .clear,#[.tmp d],#[t]⟩,y2,p2,a2,none⟩::l) fr (St w0 G0 G L):=by
 obtain⟨m,rfl⟩:∃ m:Nat,lo=m:=⟨lo.toNat,by omega⟩
 have hm:m<=xs.length:=by omega
 rw[Int.toNat_natCast] at kk
 have hev:∀ (v:Value),Fr.ev ((d,v)::fr) (.tmp d)=some v:=fun v=>by simp[Fr.ev,Fr.get]
 obtain⟨i,hii,hiz,hisz,_⟩:=hE.parts
 have hsz:(P.info? e).map (·.size)=some sz:=by rw[hii]; simp[hisz]
 cases tk with
 | none=>
  obtain⟨rfl,q,hv,hq⟩:=h
  cases hv
  have:m=0:=by simpa using hm
  subst this
  refine WL.y0' Ze (Y0.slcG ht hsz hx hy (by simp)) hd ?_
  refine WL.y0' Ze (v:=.tuple #[]) (fun a w ha _=>?_) trivial ?_
  .simp only[execOp,resolve,invoke,builtin]
   have hv:=ha.ev (hev _)
   simp only[List.map_toArray,List.map_cons,List.map_nil]
   cases p <;> simp[Act.eval] at hv ⊢ <;> simp[hv,Builtin.clear_,run_underlying ht]
  have:=kk (.slice (if 0=0 then p else p.map (·.add (0*sz))) (0-0) (0-0)) none ⟨by simp,p,rfl,hq⟩
  exact fun a w ha hs=>this a w ha (hs.weaken (Lo.Zlp (Lo.Zb3 _)))
 | some y0=>
  obtain⟨c1,cs,rest,hv,ho,hm0,hrep,hlen,hcm,hle⟩:=h
  cases hv
  obtain⟨b,ob,mk⟩:=y0
  dsimp only at ho hm0
  subst ho hm0
  obtain⟨ca,cb,hcab,hra,hrb⟩:=RepL.split (l:=xs.take m) (m:=xs.drop m) (by rw[List.take_append_drop]; exact hrep)
  subst hcab
  have hla:=hra.len
  have hlb:=hrb.len
  rw[List.length_take,Nat.min_eq_left hm,<- hsr] at hla
  rw[List.length_drop,<- hsr] at hlb
  rw[<- hsr] at hlen
  simp only[List.length_append] at hlen
  refine WL.y0' Ze (Y0.slc (l:=m) (h:=xs.length) (m:=c) (b:=b) (o:=0) ht hsz hx rfl ⟨rfl,rfl⟩ ⟨_,hy⟩ hm (by omega) (Nat.le_refl _)) hd ?_
  have hz:(P.info? e).map (·.zero)=some (some z):=by rw[hii]; simp[hiz]
  have hfit:(if c=m then 0 else 0+m*sz)+(xs.length-m)*z.cells.size<=(ca++cb++rest).length:=by
   simp only[List.length_append]
   rw[hzs]
   split
   .rename_i e0; subst e0; rw[show xs.length-c=0 by omega]; omega
   omega
  refine WL.yr (Φ:=fun v w=>v = .tuple #[]/\St w0 G0 G ((key,some ⟨b,.cells (spl (ca++cb++rest) (if c=m then 0 else 0+m*sz) (List.replicate (xs.length-m) z.cells.toList).flatten).toArray e (0,0),0⟩)::L) w) Ze (fun a w ha hs=>?_) trivial (fun v a w ha ⟨_,h2⟩=>?_)
  .have hblk:=(hs.loc key _ hid).1
   have hzv:∀ w,(zeroValue e).run P w = .ok z w:=fun w=>by simp[zeroValue,typeInfo,hii,hiz]
   obtain⟨ds,hl,hr⟩:=ZjD (P:=P) w t e y2 z ht hzv h1z (by omega) b (if c=m then 0 else 0+m*sz) (xs.length-m) (c-m) (ca++cb++rest).toArray e hblk (by simpa using hfit)
   subst hl
   have:(execOp a.eval ⟨none,.call ⟨.builtin .clear,#[.tmp d],#[t]⟩,y2,p2,a2,none⟩).run P w = .ok (.value (.tuple #[])) (w.setRow b ((ca++cb++rest).toArray.toList.take (if c=m then 0 else 0+m*sz)++(List.replicate (xs.length-m) z.cells.toList).flatten++(ca++cb++rest).toArray.toList.drop ((if c=m then 0 else 0+m*sz)+(List.replicate (xs.length-m) z.cells.toList).flatten.length)).toArray):=by
    simp only[execOp,resolve,invoke,builtin]
    simp only[List.map_toArray,List.map_cons,List.map_nil,ha.ev (hev _),Sem.run_bind,hr,Result.andThen_ok,Sem.run_pure]
   rw[this]
   exact⟨rfl,hs.setRow hid _⟩
  have hdl:(List.replicate (xs.length-m) z.cells.toList).flatten.length=(xs.length-m)*sz:=by simp[hzs]
  have e4:spl (ca++cb++rest) (if c=m then 0 else 0+m*sz) (List.replicate (xs.length-m) z.cells.toList).flatten=ca++(List.replicate (xs.length-m) z.cells.toList).flatten++rest:=by
   by_cases e0:c=m
   .have:xs.length-m=0:=by omega
    have hcb:cb=[]:=List.eq_nil_of_length_eq_zero (by rw[hlb,this]; simp)
    rw[this,hcb]
    simp[spl]
   rw[if_neg e0,Nat.zero_add,<- hla,List.append_assoc]
   simp only[spl,List.take_left]
   rw[hdl,<- List.drop_drop,List.drop_left,<- hlb,List.drop_left]
  rw[e4] at h2
  refine kk _ (some ⟨b,.cells (ca++(List.replicate (xs.length-m) z.cells.toList).flatten++rest).toArray e (0,0),0⟩) ⟨c,ca++(List.replicate (xs.length-m) z.cells.toList).flatten,rest,?_,rfl,rfl,hra.append (RepL.replicate hzr _),?_,hcm,?_⟩ a w ha h2
  .congr 1; simp only[List.length_append,List.length_take,List.length_replicate]; omega
  .rw[<- hsr]; simp only[List.length_append]; rw[hdl]; omega
  simp only[List.length_append,List.length_take,List.length_replicate]; omega
theorem WL.makeC{t:TypeId}{z:Value}{x y:Operand}{bytes:Nat}{k k':IntKind}{n:Int}(key:Nat)(hg:guardOK ops fr ⟨dst,.makeSlice t x y,ty,pos,af,g⟩ true)(hd:dstOK N dst)(ht:P.underlying t=some (.slice e))(hE:ElT P e z r.size bytes)(hzs:z.cells.size=r.size)(hby:bytes<=100000)
  (hx:fr.ev x=some (.int k 0)) (hy:fr.ev y=some (.int k' n)) (hn:0<=n/\n<=1000000)
  (kk:∀ p c tk,RowR r e G (.slice p 0 c) ([]:List α) tk->WL P N ops Q l (putFr dst (.slice p 0 c) fr) (St w0 G0 G ((key,tk)::L))):WL P N ops Q (⟨dst,.makeSlice t x y,ty,pos,af,g⟩::l) fr (St w0 G0 G L):=by
 obtain⟨i,hi,hz,hsz,hbt⟩:=hE.parts
 refine WL.yr (Φ:=fun v w=>∃ p c tk,v = .slice p 0 c/\RowR r e G (.slice p 0 c) ([]:List α) tk/\St w0 G0 G ((key,tk)::L) w) hg (fun a w ha hs=>?_) hd (fun v a w ha ⟨p,c,tk,h1,h2,h3⟩=>by subst h1; exact kk p c tk h2 a w ha h3)
 have hbn:(i.bytes:Int)*n<=281474976710656:=by
  have h1:(i.bytes:Int)<=100000:=by omega
  have:(i.bytes:Int)*n<=100000*1000000:=Int.mul_le_mul h1 hn.2 hn.1 (by omega)
  omega
 have hr:=run_make w t e i z ht hi hz k k' 0 n (Int.le_refl _) hn.1 hbn (by omega)
 have:(execOp a.eval ⟨dst,.makeSlice t x y,ty,pos,af,g⟩).run P w = .ok (.value (.slice (some ⟨w.heap.size,0,none⟩) 0 n.toNat)) (w.alloc (.cells (madeCells z.cells (n.toNat*i.size)) e)):=by
  simp[execOp,ha.ev hx,ha.ev hy,hr]
 rw[this]
 refine⟨_,_,some ⟨w.heap.size,.cells (madeCells z.cells (n.toNat*i.size)) e (0,0),0⟩,rfl,?_,hs.push key _⟩
 refine⟨n.toNat,[],(madeCells z.cells (n.toNat*i.size)).toList,rfl,by simp,rfl,rfl,by simp[madeCells,hsz],by simp only[maxLen]; omega,by simp⟩
theorem St.setBlk{w:World}{key b:Nat}{ob:Obj}(hs:St w0 G0 G L w)(hid:L.get key=some ⟨b,ob,0⟩)(ob':Obj):St w0 G0 G ((key,some ⟨b,ob',0⟩)::L) (ChangeMaps.setBlock w b ob'):=by
 have hblk:=(hs.loc key _ hid).1
 dsimp only at hblk
 have hlt:=(Array.getElem?_eq_some_iff.1 hblk).1
 refine hs.upd hid ?_ (Nat.le_refl _) (fun k _ hk _=>absurd hk (Nat.not_lt_zero k)) (fun k hk=>?_) rfl rfl rfl rfl (by simp[ChangeMaps.setBlock])
 .simp only[ChangeMaps.setBlock]
  rw[Array.getElem?_setIfInBounds_self_of_lt hlt]
 simp only[ChangeMaps.setBlock]
 rw[Array.getElem?_setIfInBounds_ne (fun e=>hk e.symm)]
theorem WL.rangeS{t:TypeId}{x:Operand}{s:ByteArray}(key:Nat)(hg:guardOK ops fr ⟨dst,.range t x,ty,pos,af,g⟩ true)(hd:dstOK N dst)(ht:P.underlying t=some .string)(hx:fr.ev x=some (.string s))
  (k:∀ b,WL P N ops Q l (putFr dst (.pointer (some ⟨b,0,none⟩)) fr) (St w0 G0 G ((key,some ⟨b,.stringIter s 0,0⟩)::L))):WL P N ops Q (⟨dst,.range t x,ty,pos,af,g⟩::l) fr (St w0 G0 G L):=by
 refine WL.yr (Φ:=fun v w=>∃ b,v = .pointer (some ⟨b,0,none⟩)/\St w0 G0 G ((key,some ⟨b,.stringIter s 0,0⟩)::L) w) hg (fun a w ha hs=>?_) hd (fun v a w ha ⟨b,h1,h2⟩=>by subst h1; exact k b a w ha h2)
 have:(execOp a.eval ⟨dst,.range t x,ty,pos,af,g⟩).run P w = .ok (.value (.pointer (some ⟨w.heap.size,0,none⟩))) (w.alloc (.stringIter s 0)):=by
  simp[execOp,ha.ev hx,Instr.range,run_underlying ht,newObj,Sem.run,Result.andThen]
 rw[this]
 exact⟨_,rfl,hs.push key _⟩
theorem WL.nextS{it:Operand}{b:Nat}{s:ByteArray}{i:Nat}(key:Nat)(hg:guardOK ops fr ⟨dst,.next it true,ty,pos,af,g⟩ true)(hd:dstOK N dst)(hid:L.get key=some ⟨b,.stringIter s i,0⟩)(hx:fr.ev it=some (.pointer (some ⟨b,0,none⟩)))
  (k1:i<s.size->WL P N ops Q l (putFr dst (.tuple #[.bool true,.int .i64 (i:Int),.int .i32 ((Utf8.decode s i).1:Int)]) fr) (St w0 G0 G ((key,some ⟨b,.stringIter s (i+(Utf8.decode s i).2),0⟩)::L)))
  (k2:¬ i<s.size->WL P N ops Q l (putFr dst (.tuple #[.bool false]) fr) (St w0 G0 G L)):WL P N ops Q (⟨dst,.next it true,ty,pos,af,g⟩::l) fr (St w0 G0 G L):=by
 by_cases hc:i<s.size
 .refine WL.yr (Φ:=fun v w=>v = .tuple #[.bool true,.int .i64 (i:Int),.int .i32 ((Utf8.decode s i).1:Int)]/\St w0 G0 G ((key,some ⟨b,.stringIter s (i+(Utf8.decode s i).2),0⟩)::L) w) hg (fun a w ha hs=>?_) hd (fun v a w ha ⟨h1,h2⟩=>by subst h1; exact k1 hc a w ha h2)
  have hblk:=(hs.loc key _ hid).1
  dsimp only at hblk
  have hlt:=(Array.getElem?_eq_some_iff.1 hblk).1
  have:(execOp a.eval ⟨dst,.next it true,ty,pos,af,g⟩).run P w = .ok (.value (.tuple #[.bool true,.int .i64 (i:Int),.int .i32 ((Utf8.decode s i).1:Int)])) (ChangeMaps.setBlock w b (.stringIter s (i+(Utf8.decode s i).2))):=by
   simp[execOp,ha.ev hx,Instr.next,getObj,Sem.run,hblk,hc,setObj,Result.andThen,goInt,ChangeMaps.setBlock]
  rw[this]
  exact⟨rfl,hs.setBlk hid _⟩
 refine WL.yr (Φ:=fun v w=>v = .tuple #[.bool false]/\St w0 G0 G L w) hg (fun a w ha hs=>?_) hd (fun v a w ha ⟨h1,h2⟩=>by subst h1; exact k2 hc a w ha h2)
 have hblk:=(hs.loc key _ hid).1
 dsimp only at hblk
 have:(execOp a.eval ⟨dst,.next it true,ty,pos,af,g⟩).run P w = .ok (.value (.tuple #[.bool false])) w:=by
  simp[execOp,ha.ev hx,Instr.next,getObj,Sem.run,hblk,hc,Result.andThen]
 rw[this]
 exact⟨rfl,hs⟩
end
section
variable {P:Program}{kt:TypeId}{K V:Type}{ky:Ky P kt K}{Rv Rv':K->Value->V->Prop}
variable {N:Nat}{Q:Post}{fr:Fr}{S:Asrt}{ops:Array Oper}{l:List Oper}{dst:Option Nat}{ty:TypeId}{pos:String}{af:Array Edge}{g:Option (Nat×Bool)}{w0:Bs}{G0 G:Mem}{L:Lo}
def IterR(ky:Ky P kt K)(Rv:K->Value->V->Prop)(tkm:Option Ow)(v:Value)(R:List (K×V))(last:Option (K×V))(tk:Option Ow):Prop:=
 ∃ b es clock r seen c0,tkm=some ⟨b,.map es clock,0⟩/\v = .pointer (some ⟨r,0,none⟩)/\tk=some ⟨r,.mapIter (some b) clock seen c0,0⟩/\clock<=c0/\Stamped es clock/\MapL ky.enc Rv (leftOf es seen).toList R/\(∀ p ∈ R,ky.ok p.1)/\
  ∀ q,last=some q->ky.ok q.1/\∃ en ∈ es.toList,en.key=ky.enc q.1/\Rv q.1 en.val q.2/\c0=clock/\∃ s:Array Nat,seen=s.push en.born
theorem IterR.imp{tkm tk:Option Ow}{v:Value}{R:List (K×V)}{last:Option (K×V)}(h:IterR ky Rv tkm v R last tk)(hi:∀ k u x,Rv k u x->Rv' k u x):IterR ky Rv' tkm v R last tk:=by
 obtain⟨b,es,clock,r,seen,c0,h1,h2,h3,h4,h5,h6,h7,h8⟩:=h
 exact⟨b,es,clock,r,seen,c0,h1,h2,h3,h4,h5,h6.imp (fun p _ u hu=>hi _ _ _ hu),h7,fun q hq=>by
  obtain⟨k0,en,k1,k2,k3,k4⟩:=h8 q hq
  exact⟨k0,en,k1,k2,hi _ _ _ k3,k4⟩⟩
theorem IterR.forget{tkm tk:Option Ow}{v:Value}{R:List (K×V)}{last:Option (K×V)}(h:IterR ky Rv tkm v R last tk):IterR ky Rv tkm v R none tk:=by
 obtain⟨b,es,clock,r,seen,c0,h1,h2,h3,h4,h5,h6,h7,h8⟩:=h
 exact⟨b,es,clock,r,seen,c0,h1,h2,h3,h4,h5,h6,h7,fun q hq=>by cases hq⟩
theorem MapL.split{enc:K->Value}:∀ {es:List MapEntry}{D:List (K×V)},MapL enc Rv es D->∀ {e1:List MapEntry}{en:MapEntry}{e2:List MapEntry},es=e1++en::e2->∃ D1 p D2,D=D1++p::D2/\en.key=enc p.1/\Rv p.1 en.val p.2/\MapL enc Rv (e1++e2) (D1++D2)
 | _,[],h,[],en,e2,e=>by subst e; cases h
 | _,p::D,h,[],en,e2,e=>by
  subst e
  exact⟨[],p,D,rfl,h.1,h.2.1,h.2.2⟩
 | _,[],h,x::e1,en,e2,e=>by subst e; cases h
 | _,q::D,h,x::e1,en,e2,e=>by
  subst e
  obtain⟨D1,p,D2,h1,h2,h3,h4⟩:=MapL.split (es:=e1++en::e2) h.2.2 rfl
  exact⟨q::D1,p,D2,by rw[h1]; rfl,h2,h3,h.1,h.2.1,h4⟩
theorem ZnM{es:Array MapEntry}{clock:Nat}{seen:Array Nat}(hS:Stamped es clock){en:MapEntry}(he:en ∈ (leftOf es seen).toList):∃ e1 e2,(leftOf es seen).toList=e1++en::e2/\(leftOf es (seen.push en.born)).toList=e1++e2/\en ∈ es.toList:=by
 have hnd:=((stamped_iff es clock).1 hS).2.1
 have hmem:en ∈ es.toList:=by simp only[leftOf,Array.toList_filter,List.mem_filter] at he; exact he.1
 have hns:seen.contains en.born=false:=by simp only[leftOf,Array.toList_filter,List.mem_filter] at he; simpa using he.2
 simp only[leftOf,Array.toList_filter]
 have key:∀ l:List MapEntry,(l.map (·.born)).Nodup->en ∈ l->∃ e1 e2,l.filter (fun e=>!seen.contains e.born)=e1++en::e2/\l.filter (fun e=>!(seen.push en.born).contains e.born)=e1++e2:=by
  intro l
  induction l with
  | nil=>intro _ h; cases h
  | cons x l ih=>
   intro hn hm
   simp only[List.map_cons,List.nodup_cons,List.mem_map,not_exists,not_and] at hn
   rcases List.mem_cons.1 hm with rfl|hm
   .refine⟨[],l.filter (fun e=>!seen.contains e.born),by rw[List.filter_cons,if_pos (by rw[hns]; rfl)]; rfl,?_⟩
    have:(seen.push en.born).contains en.born=true:=by simp
    rw[List.filter_cons,if_neg (by rw[this]; simp)]
    refine List.filter_congr fun y hy=>?_
    have hne:y.born≠en.born:=hn.1 y hy
    simp[Array.contains_push,hne]
   obtain⟨e1,e2,h1,h2⟩:=ih hn.2 hm
   have hne:x.born≠en.born:=fun e=>hn.1 en hm e.symm
   by_cases hx:seen.contains x.born=true
   .refine⟨e1,e2,by rw[List.filter_cons,if_neg (by rw[hx]; simp)]; exact h1,?_⟩
    have:(seen.push en.born).contains x.born=true:=by simp only[Array.contains_push,hx,Bool.true_or]
    rw[List.filter_cons,if_neg (by rw[this]; simp)]
    exact h2
   have hx':seen.contains x.born=false:=by simpa using hx
   refine⟨x::e1,e2,by rw[List.filter_cons,if_pos (by rw[hx']; rfl),h1]; rfl,?_⟩
   have:(seen.push en.born).contains x.born=false:=by rw[Array.contains_push,hx']; simpa using hne
   rw[List.filter_cons,if_pos (by rw[this]; rfl),h2]; rfl
 obtain⟨e1,e2,h1,h2⟩:=key es.toList hnd hmem
 exact⟨e1,e2,h1,h2,hmem⟩
theorem WL.rangeM{t e:TypeId}{x:Operand}{v:Value}{D:List (K×V)}{tkm:Option Ow}(km key:Nat)(hg:guardOK ops fr ⟨dst,.range t x,ty,pos,af,g⟩ true)(hd:dstOK N dst)(ht:P.underlying t=some (.map kt e))(h:MapR ky Rv v D tkm)(hid:L.get km=tkm)(hx:fr.ev x=some v)
  (k:∀ u tk,IterR ky Rv tkm u D none tk->WL P N ops Q l (putFr dst u fr) (St w0 G0 G ((key,tk)::L))):WL P N ops Q (⟨dst,.range t x,ty,pos,af,g⟩::l) fr (St w0 G0 G L):=by
 refine WL.yr (Φ:=fun u w=>∃ tk,IterR ky Rv tkm u D none tk/\St w0 G0 G ((key,tk)::L) w) hg (fun a w ha hs=>?_) hd (fun u a w ha ⟨tk,h1,h2⟩=>k u tk h1 a w ha h2)
 obtain⟨b,es,clock,rfl,rfl,h3,h4,h5,h6⟩:=h
 have hb:=(hs.loc km _ hid).1
 dsimp only at hb
 have:(execOp a.eval ⟨dst,.range t x,ty,pos,af,g⟩).run P w = .ok (.value (.pointer (some ⟨w.heap.size,0,none⟩))) (w.alloc (.mapIter (some b) clock #[] clock)):=by
  simp[execOp,ha.ev hx,Instr.range,run_underlying ht,getObj,Sem.run,hb,newObj,Result.andThen]
 rw[this]
 refine⟨_,⟨b,es,clock,w.heap.size,#[],clock,rfl,rfl,rfl,Nat.le_refl _,h3,?_,h4,fun q hq=>by cases hq⟩,hs.push key _⟩
 have:leftOf es #[]=es:=by simp[leftOf]
 rw[this]; exact h5
theorem WL.nextM{it:Operand}{v:Value}{R:List (K×V)}{tkm tk:Option Ow}{lst:Option (K×V)}(km key:Nat)(hg:guardOK ops fr ⟨dst,.next it false,ty,pos,af,g⟩ true)(hd:dstOK N dst)(h:IterR ky Rv tkm v R lst tk)(hm:L.get km=tkm)(hid:L.get key=tk)(hx:fr.ev it=some v)
  (k1:∀ R1 q R2 tk',R=R1++q::R2->IterR ky Rv tkm v (R1++R2) (some q) tk'->∀ u1 u2,WL P N ops Q l (putFr dst (.tuple #[.bool true,u1,u2]) fr) (St w0 G0 G ((key,tk')::L)))
  (k2:R=[]->WL P N ops Q l (putFr dst (.tuple #[.bool false]) fr) (St w0 G0 G L)):WL P N ops Q (⟨dst,.next it false,ty,pos,af,g⟩::l) fr (St w0 G0 G L):=by
 obtain⟨b,es,clock,r,seen,c0,rfl,rfl,rfl,h4,h5,h6,h7,h8⟩:=h
 refine WL.yr (Φ:=fun u w=>(u = .tuple #[.bool false]/\R=[]/\St w0 G0 G L w)\/∃ R1 q R2 tk' u1 u2,u = .tuple #[.bool true,u1,u2]/\R=R1++q::R2/\IterR ky Rv (some ⟨b,.map es clock,0⟩) (.pointer (some ⟨r,0,none⟩)) (R1++R2) (some q) tk'/\St w0 G0 G ((key,tk')::L) w) hg (fun a w ha hs=>?_) hd (fun u a w ha hh=>?_)
 .have hb:=(hs.loc km _ hm).1
  have hr:=(hs.loc key _ hid).1
  dsimp only at hb hr
  have hS:=(stamped_iff es clock).1 h5
  have hlift:∀ (x:Value) (w':World),(Instr.next (.pointer (some ⟨r,0,none⟩)) false ty).run P w = .ok x w'->(execOp a.eval ⟨dst,.next it false,ty,pos,af,g⟩).run P w = .ok (.value x) w':=fun x w' he=>by
   simp[execOp,ha.ev hx,he]
  rcases run_next_at (P:=P) w ty r b clock c0 seen es clock hr hb hS.1 h4 with ⟨h0,h1⟩|⟨en,hen,w1,hw1,h1⟩
  .rw[hlift _ _ h1]
   refine .inl ⟨rfl,?_,hs⟩
   have:(leftOf es seen).toList=[]:=by simpa using Array.eq_empty_of_size_eq_zero h0
   rw[this] at h6
   cases R with
   | nil=>rfl
   | cons p R=>cases h6
  rw[hlift _ _ h1]
  obtain⟨e1,e2,q1,q2,q3⟩:=ZnM h5 hen
  obtain⟨R1,q,R2,r1,r2,r3,r4⟩:=MapL.split h6 q1
  subst r1
  refine .inr ⟨R1,q,R2,some ⟨r,.mapIter (some b) clock (seen.push en.born) clock,0⟩,_,_,rfl,rfl,⟨b,es,clock,r,seen.push en.born,clock,rfl,rfl,rfl,Nat.le_refl _,h5,by rw[q2]; exact r4,fun p hp=>h7 p (by rcases List.mem_append.1 hp with hp|hp <;> simp[hp]),fun q' hq'=>?_⟩,?_⟩
  .cases hq'
   exact⟨h7 _ (by simp),en,q3,r2,r3,rfl,seen,rfl⟩
  rcases hw1 with rfl|rfl
  .exact hs.setBlk hid _
  have hd':St w0 G0 G L w.drew:=hs.drew
  exact hd'.setBlk hid _
 rcases hh with ⟨rfl,h1,h2⟩|⟨R1,q,R2,tk',u1,u2,rfl,h1,h2,h3⟩
 .exact k2 h1 a w ha h2
 exact k1 R1 q R2 tk' h1 h2 u1 u2 a w ha h3
theorem WL.entryM{it:Operand}{v:Value}{R:List (K×V)}{tkm tk:Option Ow}{q:K×V}(km key:Nat)(hg:guardOK ops fr ⟨dst,.entry it,ty,pos,af,g⟩ true)(hd:dstOK N dst)(h:IterR ky Rv tkm v R (some q) tk)(hm:L.get km=tkm)(hid:L.get key=tk)(hx:fr.ev it=some v)
  (k:∀ u,Rv q.1 u q.2->ky.ok q.1->WL P N ops Q l (putFr dst (.tuple #[ky.enc q.1,u]) fr) (St w0 G0 G L)):WL P N ops Q (⟨dst,.entry it,ty,pos,af,g⟩::l) fr (St w0 G0 G L):=by
 obtain⟨b,es,clock,r,seen,c0,rfl,rfl,rfl,h4,h5,h6,h7,h8⟩:=h
 obtain⟨hok,en,k1,k2,k3,rfl,sn,rfl⟩:=h8 q rfl
 refine WL.y0' hg (v:=.tuple #[ky.enc q.1,en.val]) (fun a w ha hs=>?_) hd (k _ k3 hok)
 have hb:=(hs.loc km _ hm).1
 have hr:=(hs.loc key _ hid).1
 dsimp only at hb hr
 have hn:=((stamped_iff es _).1 h5).2.1
 have hf:es.find? (·.born == en.born)=some en:=by rw[<- Array.find?_toList]; exact find_born en es.toList hn k1
 have:(Instr.entry (.pointer (some ⟨r,0,none⟩))).run P w = .ok (.tuple #[en.key,en.val]) w:=by
  simp only[Instr.entry,getObj,Sem.run_bind,Sem.run,hr,hb,Result.andThen,Array.back?_push,bne_self_eq_false,Bool.false_eq_true,if_false,hf]
  rfl
 rw[k2] at this
 simp[execOp,ha.ev hx,this]
theorem Y0.lenM{t e:TypeId}{x:Operand}{v:Value}{D:List (K×V)}{tk:Option Ow}(key:Nat)(ht:P.underlying t=some (.map kt e))(h:MapR ky Rv v D tk)(hid:L.get key=tk)(hx:fr.ev x=some v):
  Y0 P N ⟨dst,.call ⟨.builtin .len,#[x],#[t]⟩,ty,pos,af,g⟩ fr (St w0 G0 G L) (.int .i64 (D.length:Int)):=fun a w ha hs=>by
 obtain⟨b,es,clock,rfl,rfl,h3,h4,h5,h6⟩:=h
 have hb:=(hs.loc key _ hid).1
 dsimp only at hb
 have hl:=h5.length
 rw[Array.length_toList] at hl
 simp[execOp,resolve,invoke,builtin,ha.ev hx,Builtin.len_,run_underlying ht,getObj,Sem.run,hb,goInt,Result.andThen,hl]
def RvA{K V:Type}(r:Rp V)(G:Mem):K->Value->V->Prop:=fun _ u x=>∃ cs,u = .agg cs.toArray/\r.rep G cs x
theorem RvA.mono{K V:Type}{r:Rp V}{G G':Mem}{k:K}{u:Value}{x:V}(hle:Mem.le G G')(h:RvA r G k u x):RvA r G' k u x:=by
 obtain⟨cs,h1,h2⟩:=h
 exact⟨cs,h1,r.mono hle h2⟩
theorem MapR.monoA{r:Rp V}{G G':Mem}{v:Value}{D:List (K×V)}{tk:Option Ow}(h:MapR ky (RvA r G) v D tk)(hle:Mem.le G G'):MapR ky (RvA r G') v D tk:=h.imp fun _ _ _ h=>h.mono hle
theorem IterR.monoA{r:Rp V}{G G':Mem}{tkm tk:Option Ow}{v:Value}{R:List (K×V)}{last:Option (K×V)}(h:IterR ky (RvA r G) tkm v R last tk)(hle:Mem.le G G'):IterR ky (RvA r G') tkm v R last tk:=h.imp fun _ _ _ h=>h.mono hle
end
section
variable {P:Program}{N:Nat}{Q:Post}{fr:Fr}{ops:Array Oper}{l:List Oper}{dst:Option Nat}{ty:TypeId}{pos:String}{af:Array Edge}{g:Option (Nat×Bool)}{w0:Bs}{G0 G:Mem}{L:Lo}
theorem Y0.nilH{S:Asrt}{t e:TypeId}{x y:Operand}{sz:Nat}{k:IntKind}(ht:P.underlying t=some (.slice e))(hsz:(P.info? e).map (·.size)=some sz)(hx:fr.ev x=some (.slice none 0 0))(hy:fr.ev y=some (.int k ((0:Nat):Int))):Y0 P N ⟨dst,.slice t x none (some y) none,ty,pos,af,g⟩ fr S (.slice none 0 0):=fun a w ha _=>by
 simp only[execOp,ha.ev hx,Option.map_none,Option.map_some,ha.ev hy]
 simp[Instr.sliceAt,run_underlying ht,Instr.slice,Instr.sliceBounds,Instr.sliceBound,asIntOf,run_sizeOf hsz]
theorem WL.appendZ0{t ti e:TypeId}{x y:Operand}{z:Value}{ik:IntKind}{m bytes sz:Nat}(knew:Nat)(hg:guardOK ops fr ⟨dst,.call ⟨.builtin .append,#[x,y],#[t,ti]⟩,ty,pos,af,g⟩ true)(hd:dstOK N dst)(ht:P.underlying t=some (.slice e))(hti:P.underlying ti=some (.int ik))
  (hE:ElT P e z sz bytes) (hzs:z.cells.size=sz) (hs0:0<sz) (hby:bytes<=100000) (hx:fr.ev x=some (.slice none 0 0)) (hy:fr.ev y=some (.int .i64 (m:Int))) (hm:0<m) (hsm:m<=small)
  (k:∀ b2 cap2 zs,cap2<=maxLen->(zs:List Value).length=cap2*sz->WL P N ops Q l (putFr dst (.slice (some ⟨b2,0,none⟩) m cap2) fr) (St w0 G0 G ((knew,some ⟨b2,.cells zs.toArray e (0,0),0⟩)::L))):WL P N ops Q (⟨dst,.call ⟨.builtin .append,#[x,y],#[t,ti]⟩,ty,pos,af,g⟩::l) fr (St w0 G0 G L):=by
 refine WL.yr (Φ:=fun v w=>∃ b2 cap2 zs,v = .slice (some ⟨b2,0,none⟩) m cap2/\cap2<=maxLen/\(zs:List Value).length=cap2*sz/\St w0 G0 G ((knew,some ⟨b2,.cells zs.toArray e (0,0),0⟩)::L) w) hg (fun a w ha hs=>?_) hd (fun v a w ha ⟨b2,cap2,zs,h1,h3,h4,h5⟩=>by subst h1; exact k b2 cap2 zs h3 h4 a w ha h5)
 obtain⟨i,hi,hz,hsz,hbt⟩:=hE.parts
 have hold:(Builtin.firstCells i.size 0 (.slice none 0 0)).run P w.drew = .ok ([]:List Value).toArray w.drew:=run_firstCells_none _ _ _ _ _
 have hr:=ZfF (P:=P) w t ti ty e i z ik ht hti hi hz (by omega) none 0 0 m [] hold hm (by omega) (by simpa [small] using hsm) (by omega)
 rw[Nat.zero_add] at hr
 have:(execOp a.eval ⟨dst,.call ⟨.builtin .append,#[x,y],#[t,ti]⟩,ty,pos,af,g⟩).run P w = .ok (.value (.slice (some ⟨w.heap.size,0,none⟩) m (grownCap w m 0 e))) (w.drew.alloc (.cells (([]:List Value).toArray++Builtin.zeroCells z.cells m++Builtin.zeroCells z.cells (grownCap w m 0 e-m)) e)):=by
  simp only[execOp,resolve,invoke,builtin]
  simp only[List.map_toArray,List.map_cons,List.map_nil,ha.ev hx,ha.ev hy,Sem.run_bind,hr,Result.andThen_ok,Sem.run_pure]
 rw[this]
 have hge:=grownCap_ge w m 0 e
 have hle:=grownCap_le_maxLen w m 0 e (by simp only[small,maxLen] at *; omega)
 refine⟨_,_,(Builtin.zeroCells z.cells m++Builtin.zeroCells z.cells (grownCap w m 0 e-m)).toList,rfl,hle,?_,?_⟩
 .rw[Array.length_toList,Array.size_append,size_zeroCells,size_zeroCells,hzs,<- Nat.add_mul]
  congr 1; omega
 have hd':St w0 G0 G L w.drew:=hs.drew
 have hp:=hd'.push knew (.cells (([]:List Value).toArray++Builtin.zeroCells z.cells m++Builtin.zeroCells z.cells (grownCap w m 0 e-m)) e)
 have e1:(([]:List Value).toArray++Builtin.zeroCells z.cells m++Builtin.zeroCells z.cells (grownCap w m 0 e-m))=(Builtin.zeroCells z.cells m++Builtin.zeroCells z.cells (grownCap w m 0 e-m)).toList.toArray:=by
  apply Array.ext'; simp
 rw[e1] at hp
 rw[e1]
 exact hp
end
section
variable {P:Program}{N:Nat}{Q:Post}{fr:Fr}{S Bt:Asrt}{w0:Bs}{G0 G:Mem}{L LF:Lo}{ops:Array Oper}{dst:Option Nat}{op:Op}{ty:TypeId}{pos:String}{af:Array Edge}{g:Option (Nat×Bool)}{fs:List Bool}{l:List Oper}{det:Fr}
theorem WLT.y0{v:Value}(hT:∀ w,S w->Bt w)(hg:guardOK ops fr ⟨dst,op,ty,pos,af,g⟩ true)(h:Y0 P N ⟨dst,op,ty,pos,af,g⟩ fr S v)(hd:dstOK N dst)(k:WLT P N ops Bt Q l (putFr dst v fr) S):WLT P N ops Bt Q (⟨dst,op,ty,pos,af,g⟩::l) fr S:=fun a w ha hs=>by
 refine⟨hT w hs,?_⟩
 rw[if_pos (ha.wanted hg)]
 simp only[Oper.wp,h a w ha hs,Oper.upon]
 exact k _ w (ha.putFr v hd) hs
theorem WLT.nil(hT:∀ w,S w->Bt w)(h:WE N Q .normal fr S):WLT P N ops Bt Q [] fr S:=fun a w ha hs=>⟨hT w hs,h a w ha hs⟩
theorem WLT.storeL{t t':TypeId}{x y:Operand}{b off:Nat}{c:Array Value}{v:Value}(hT:∀ w,St w0 G0 G L w->Bt w)(i:Nat)(c':Array Value)(hg:guardOK ops fr ⟨none,.store t x y,ty,pos,af,g⟩ true)(ht:(P.info? t).map (·.size)=some 1)
  (hx:fr.ev x=some (.pointer (some ⟨b,off,none⟩))) (hy:fr.ev y=some v) (hi:L.get i=some ⟨b,.cells c t' (0,0),0⟩) (ho:off<c.size) (h1:v.oneCell'=true) (hc':c.setIfInBounds off v=c')
  (k:WLT P N ops Bt Q l fr (St w0 G0 G ((i,some ⟨b,.cells c' t' (0,0),0⟩)::L))):WLT P N ops Bt Q (⟨none,.store t x y,ty,pos,af,g⟩::l) fr (St w0 G0 G L):=fun a w ha hs=>by
 subst hc'
 refine⟨hT w hs,?_⟩
 rw[if_pos (ha.wanted hg)]
 have hb:=(hs.loc i _ hi).1
 have hc:=cell_of_row w b off c t' (0,0) hb
 rw[Array.getElem?_eq_getElem ho] at hc
 have hf:=frozen_of_row w b off c t' hb
 have hcl:v.cells = #[v]:=by cases v <;> first|rfl|simp[Value.oneCell'] at h1
 have:(execOp a.eval ⟨none,.store t x y,ty,pos,af,g⟩).run P w = .ok .skip (w.setCell ⟨b,off,none⟩ v):=by
  simp[execOp,ha.ev hx,ha.ev hy,Instr.storeAt,Instr.sureAddr,storeVar,run_sizeOf ht,hcl,storeCells,run_store P w _ v _ h1,Z6,hc,hf]
 simp only[Oper.wp,this,Oper.upon]
 exact k _ _ (ha.putFr (d:=none) undef trivial) (hs.upd hi (Zho hb) (Nat.le_refl _) (fun k _ hk _=>absurd hk (Nat.not_lt_zero k)) (fun k hk=>Below.heap_setCell w ⟨b,off,none⟩ v k hk) rfl rfl rfl rfl (by simp))
theorem Chain.floatB{o:Oper}{c:Value}(hg:guardOK ops (det++fr) o true)(h:Y0 P N o (det++fr) Bt c)(k:Chain P N Q fr w0 G0 G L ops Bt fs l (putFr o.dst c det) []):
  Chain P N Q fr w0 G0 G L ops Bt (true::fs) (o::l) det []:=.inl ⟨c,fun _ _ _ _=>⟨hg,h⟩,k⟩
theorem Chain.tailB(hb:Mem.le G0 G)(k:WLT P N ops Bt (NX Q) l (det++fr) (St w0 G0 G L)):Chain P N Q fr w0 G0 G L ops Bt [] l det []:=fun _ _ hle _ a w ha hs=>k a w ha (hs.st.memLe hb hle.1)
end
end Go.EL
namespace Go.EL
open Go.IntKind (i8 i16 i32 i64 u8 u16 u32 u64)
open Go Go.RowKit
section
variable {α:Type}{r:Rp α}{G:Mem}
abbrev Elt(r:Rp α)(G:Mem):={q:List Value×α // r.rep G q.1 q.2}
def Elt.enc(a:Elt r G):List Value:=a.1.1
theorem RepL.elts:∀ {l:List α}{cs:List Value},RepL r G cs l->∃ d:List (Elt r G),cs=d.flatMap Elt.enc/\d.map (fun a=>a.1.2)=l
 | [],cs,h=>⟨[],h,rfl⟩
 | x::l,cs,h=>by
  obtain⟨c,d,rfl,h1,h2⟩:=h
  obtain⟨es,h3,h4⟩:=RepL.elts h2
  exact⟨⟨(c,x),h1⟩::es,by rw[h3]; rfl,by rw[List.map_cons,h4]⟩
theorem RepL.ofElts:∀ d:List (Elt r G),RepL r G (d.flatMap Elt.enc) (d.map (fun a=>a.1.2))
 | []=>rfl
 | a::d=>⟨a.1.1,d.flatMap Elt.enc,rfl,a.2,RepL.ofElts d⟩
end
variable {P:Program}{ρ:Go.Shelf.Ren}
set_option maxHeartbeats 1000000 in
theorem pdqR{α:Type}{r:Rp α}{sz:Nat}(hrz:r.size=sz)(h0:0<sz){cmp:α->α->Int}(swo:Go.Sort.SWO (Go.Proofs.ltOf cmp))(S:Go.Proofs.SlLaysF0.n14 P ρ){f g:Nat}(hf:ρ.f 14=f)(aE:∀ w,(isAgg (ρ.t 24)).run P w = .ok true w)(zE:∀ w,(Go.sizeOf (ρ.t 24)).run P w = .ok sz w)
  (hg:∀ (x y:α) (cx cy:List Value),Ctr P g #[.agg cx.toArray,.agg cy.toArray] (fun G=>r.rep G cx x/\r.rep G cy y) (fun _ v=>v = .int .i64 (cmp x y))) (eg:∀ args w,(callFunc g args).run P w = .ok (.enter g args) w)
  (e:TypeId) (p:Option Addr) (n c:Nat) (l:List α) (tk:Option Ow) (lim:Nat) (hlim:lim<4611686018427387904) (hlen:l.length<=1000000000) :
  CtrL P f #[.slice p n c,.int .i64 0,.int .i64 (l.length:Int),.int .i64 (lim:Int),.func (.func g) #[] #[]] [(5000,tk)] (fun G=>RowR r e G (.slice p n c) l tk)
   (fun G L v=>∃ ys tk',L=[(5000,tk')]/\v = .tuple #[]/\RowR r e G (.slice p n c) ys tk'/\ys.Perm l/\ys.Pairwise (fun a b=>Go.Proofs.ltOf cmp b a=false)):=by
 subst hf
 intro w G hi hrow
 by_cases hnil:l=[]
 .subst hnil
  obtain⟨p',c',hv⟩:=hrow.form
  cases hv
  refine (Go.Proofs.AnyF.pdqsortCmpFunc_none S p c (lim:Int) _ w).mono ?_
  rintro en w' ⟨rfl,rfl⟩
  exact⟨_,G,[(5000,tk)],rfl,hi.st.toExt,[],tk,rfl,rfl,hrow,List.Perm.refl _,List.Pairwise.nil⟩
 cases tk with
 | none=>exact absurd hrow.1 hnil
 | some y=>
  obtain⟨cap,cs,rest,h1,h2,h3,h4,h5,h6,h7⟩:=hrow
  obtain⟨b,o,m⟩:=y
  dsimp only at h1 h2 h3
  subst h2 h3
  cases h1
  obtain⟨d,hcs,hd⟩:=RepL.elts h4
  subst hcs
  have hdl:d.length=l.length:=by rw[<- hd,List.length_map]
  haveI:Inhabited (Elt r G):=⟨d[0]'(by have:=List.length_pos_iff.2 hnil; omega)⟩
  have hl:∀ x:Elt r G,(Elt.enc x).length=sz:=fun x=>by rw[<- hrz]; exact r.len x.2
  have hone:∀ x:Elt r G,∀ v ∈ Elt.enc x,v.oneCell'=true:=fun x=>r.one x.2
  let cf:Elt r G->Elt r G->Int:=fun x y=>cmp x.1.2 y.1.2
  have hO:Go.Sort.SWO (Go.Proofs.ltOf cf):=⟨fun x=>swo.irrefl x.1.2,fun x y z=>swo.trans x.1.2 y.1.2 z.1.2,fun x y z=>swo.ntrans x.1.2 y.1.2 z.1.2⟩
  have hget:Lo.get [(5000,some ⟨b,Obj.cells (d.flatMap Elt.enc++rest).toArray e (0,0),0⟩)] 5000=some ⟨b,.cells (d.flatMap Elt.enc++rest).toArray e (0,0),0⟩:=by simp[Lo.get]
  obtain⟨hb,hGb⟩:=hi.loc 5000 _ hget
  dsimp only at hb hGb
  have hbs:b<w.heap.size:=(Array.getElem?_eq_some_iff.1 hb).1
  have himm:∀ (m:Nat) (os:Array Obj) (dk:Array (Elt r G)),Imm G (Go.Proofs.sortWorldK Elt.enc sz w b 0 m dk os):=by
   intro m os dk b' o' v hv
   have hne:b'≠b:=fun e=>by subst e; rw[hGb o' (Nat.zero_le _)] at hv; cases hv
   have hc:=hi.imm b' o' v hv
   have hlt:b'<w.heap.size:=Imm.lt hi.imm hv
   have hh:(Go.Proofs.sortWorldK Elt.enc sz w b 0 m dk os).heap[b']? = w.heap[b']?:=by
    simp only[Go.Proofs.sortWorldK,Go.Sort.putRowK,Go.Sort.grow,Go.Sort.putRow,Go.Sort.mapBlock,Go.Sort.ahead]
    rw[Array.getElem?_append_left (by simpa using hlt),Array.getElem?_modify,if_neg (fun e=>hne e.symm)]
   unfold World.cell? at hc ⊢
   dsimp only at hc ⊢
   rw[hh]; exact hc
  have hc:Go.Proofs.CmpLays P g #[] Elt.enc sz cf b 0 d.toArray.size w:=by
   intro m os dk _ x y
   refine (hg x.1.2 y.1.2 x.1.1 y.1.1 _ G ⟨himm m os dk,fun i x hx=>by simp[Lo.get] at hx,fun i j x y _ hx=>by simp[Lo.get] at hx⟩ ⟨x.2,y.2⟩).mono ?_
   rintro en w' ⟨r',G',L',he,hx,rfl⟩
   exact⟨he,ZhU hx.os hx.tape hx.output hx.drawn hx.size fun k hk=>hx.block k hk (fun _ _ h=>by simp[Lo.get] at h)⟩
  have hH:Go.Sort.HoldsK Elt.enc sz w b 0 d.toArray:=by
   unfold Go.Sort.HoldsK
   rw[ZhX hl h0]
   intro j hj
   simp only[List.size_toArray] at hj
   have:(d.flatMap Elt.enc)[j]? = some (d.flatMap Elt.enc)[j]:=List.getElem?_eq_getElem hj
   constructor
   .simp only[World.cell?,hb,Nat.zero_add,Option.isSome_none,Bool.false_eq_true,if_false,List.getElem?_toArray]
    rw[List.getElem?_append_left hj,this]
    rw[getElem!_pos _ _ (by simpa using hj)]; simp
   simp[World.frozen?,hb]
  have hS:=Go.Proofs.AnyQ.pdqsortCmpFunc_all S sz aE zE Elt.enc cf g #[] hO b 0 c d.toArray w eg hc ⟨hl,hone,hH,hbs⟩ (d.toArray.size+1) 0 d.toArray.size lim d.toArray w (by omega) rfl (Go.Proofs.SWK.start hH) (Nat.zero_le _) (Nat.le_refl _) (by simp; omega) hlim (Or.inl rfl)
  have hsorts:=Go.Sort.pdq_sorts (Go.Proofs.ltOf cf) hO d.toArray 0 d.toArray.size lim true true (Nat.zero_le _) (Nat.le_refl _) (Or.inl rfl)
  generalize Go.Sort.pdq (Go.Proofs.ltOf cf) d.toArray 0 d.toArray.size lim true true=d' at hS hsorts
  obtain⟨⟨hsz',_,hperm⟩,hsorted⟩:=hsorts
  have hperm':d'.toList.Perm d:=by
   have e1:(d'.extract 0 d.toArray.size).toList=d'.toList:=by rw[<- hsz',Array.extract_size]
   have e2:(d.toArray.extract 0 d.toArray.size).toList=d:=by simp
   rw[e1,e2] at hperm; exact hperm
  rw[show (d.toArray.size:Nat)=l.length by simpa using hdl] at hS
  refine Calls.mono (by simpa using hS) ?_
  rintro en w' ⟨rfl,n,os,hw⟩
  have hd'l:d'.toList.length=d.length:=hperm'.length_eq
  have hw':w'=Go.Sort.grow (Go.Sort.putRow id (Go.Sort.ahead w n) b 0 (d'.toList.flatMap Elt.enc).toArray) os:=by
   rw[hw]; simp only[Go.Proofs.sortWorldK,Go.Sort.putRowK]
   have:=ZhX hl h0 d'.toList
   rw[Array.toArray_toList] at this
   rw[this]
  have hother:∀ k,k<w.heap.size->k≠b->w'.heap[k]? = w.heap[k]?:=by
   intro k hk hne
   rw[hw']
   simp only[Go.Sort.grow,Go.Sort.putRow,Go.Sort.mapBlock,Go.Sort.ahead]
   rw[Array.getElem?_append_left (by simpa using hk),Array.getElem?_modify,if_neg (fun e=>hne e.symm)]
  have hfl:(d'.toList.flatMap Elt.enc).length=(d.flatMap Elt.enc).length:=by rw[ZbT hl,ZbT hl,hd'l]
  have hrow:w'.heap[b]? = some (.cells (d'.toList.flatMap Elt.enc++rest).toArray e (0,0)):=by
   rw[hw']
   simp only[Go.Sort.grow,Go.Sort.putRow,Go.Sort.mapBlock,Go.Sort.ahead]
   rw[Array.getElem?_append_left (by simpa using hbs),Array.getElem?_modify,if_pos rfl,hb]
   simp only[Option.map_some,Go.Sort.onCells,Option.some.injEq,Obj.cells.injEq,and_true]
   apply Array.ext_getElem?
   intro k
   simp only[Go.Sort.putCells,Array.getElem?_mapIdx,List.getElem?_toArray,Nat.zero_le,true_and,Nat.zero_add,Nat.sub_zero,List.size_toArray,id]
   by_cases hk:k<(d.flatMap Elt.enc).length
   .rw[List.getElem?_append_left hk,List.getElem?_append_left (by omega),List.getElem?_eq_getElem hk,List.getElem?_eq_getElem (by omega:k<(d'.toList.flatMap Elt.enc).length)]
    simp only[Option.map_some,if_pos (show k<(d'.toList.flatMap Elt.enc).length by omega)]
    rw[getElem!_pos _ _ (by simp only[List.size_toArray]; omega)]; simp
   rw[List.getElem?_append_right (by omega),List.getElem?_append_right (by omega),hfl]
   cases rest[k-(d.flatMap Elt.enc).length]? with
   | none=>rfl
   | some v=>simp only[Option.map_some,if_neg hk]
  have hsz:w.heap.size<=w'.heap.size:=by
   rw[hw']; simp[Go.Sort.grow,Go.Sort.putRow,Go.Sort.mapBlock,Go.Sort.ahead]
  have one:∀ j x,Lo.get [(5000,some (⟨b,Obj.cells (d'.toList.flatMap Elt.enc++rest).toArray e (0,0),0⟩:Ow))] j=some x->x=⟨b,Obj.cells (d'.toList.flatMap Elt.enc++rest).toArray e (0,0),0⟩/\5000=j:=by
   intro j x hx
   rw[Lo.Zi] at hx
   split at hx
   .rename_i e'; cases hx; exact⟨rfl,e'⟩
   simp[Lo.get] at hx
  have hml:(d'.toList.map (fun a=>a.1.2)).length=l.length:=by rw[List.length_map,hd'l,hdl]
  refine⟨_,G,[(5000,some ⟨b,.cells (d'.toList.flatMap Elt.enc++rest).toArray e (0,0),0⟩)],rfl,⟨by rw[hw']; rfl,by rw[hw']; rfl,by rw[hw']; rfl,by rw[hw']; simp[Go.Sort.grow,Go.Sort.putRow,Go.Sort.mapBlock,Go.Sort.ahead],hsz,?_,Mem.le_refl _,?_,fun _ _ _ h=>.inl h,?_,?_⟩,d'.toList.map (fun a=>a.1.2),_,rfl,rfl,?_,?_,?_⟩
  .intro k hk hn
   exact hother k hk fun e=>by subst e; exact hn 5000 _ hget rfl
  .intro k o v hv
   have hc:=hi.imm k o v hv
   have hne:k≠b:=fun e=>by subst e; rw[hGb o (Nat.zero_le _)] at hv; cases hv
   have hk:k<w.heap.size:=World.block_lt_of_cell? w _ hc
   simp only[World.cell?,hother k hk hne] at hc ⊢
   exact hc
  .intro j x hj
   obtain⟨rfl,rfl⟩:=one j x hj
   exact⟨hrow,.inl ⟨_,hget,rfl⟩,hGb⟩
  .intro j k x y hne h1 h2
   exact absurd ((one j x h1).2.symm.trans (one k y h2).2) hne
  .refine⟨c,d'.toList.flatMap Elt.enc,rest,by rw[hml],rfl,rfl,RepL.ofElts _,?_,h6,by rw[hml]; exact h7⟩
   rw[List.length_append,hfl,<- List.length_append]; exact h5
  .have:=hperm'.map (fun a=>a.1.2)
   rwa [hd] at this
  rw[List.pairwise_map]
  rw[List.pairwise_iff_getElem]
  intro i j hi' hj' hij
  have hs:=hsorted i j (Nat.zero_le _) hij (by simp only[Array.length_toList] at hj'; omega)
  rw[getElem!_pos _ _ (by simpa using hj'),getElem!_pos _ _ (by simpa using hi')] at hs
  simp only[Array.getElem_toList]
  exact hs
end Go.EL
namespace Go.EL
open Go.IntKind (i8 i16 i32 i64 u8 u16 u32 u64)
open Go Go.RowKit Go.Proofs Go.MapKept
section
variable {P:Program}{kt:TypeId}{K V:Type} [DecidableEq K] {ky:Ky P kt K}{Rv Rv':K->Value->V->Prop}
variable {N:Nat}{Q:Post}{fr:Fr}{S:Asrt}{ops:Array Oper}{l:List Oper}{dst:Option Nat}{ty:TypeId}{pos:String}{af:Array Edge}{g:Option (Nat×Bool)}{w0:Bs}{G0 G:Mem}{L:Lo}
variable {fs:List Bool}{det:Fr}{und:Und}{d:Nat}{op:Op}
omit [DecidableEq K] in
end
end Go.EL
namespace Go.EL
open Go.IntKind (i8 i16 i32 i64 u8 u16 u32 u64)
open Go Go.RowKit Go.Proofs
theorem Oper.Zqw{P:Program}{o:Oper}{a:Act}{w:World}{K:Act->World->Prop}{Q Q':Post}(h:o.wp P a w K (NX Q)):o.wp P a w K (NX Q'):=by
 unfold Oper.wp at h ⊢
 generalize (execOp a.eval o).run P w=r at h ⊢
 cases r with
 | ok x w'=>
  cases x <;> simp only[Oper.upon] at h ⊢
  case value v=>exact h
  case skip=>exact h
  case defer d=>exact h
  case enter f args=>
   refine Calls.mono h fun e w'' he=>?_
   cases e with
   | returned v=>exact he
   | panicked c=>exact he
   | outgrown=>obtain⟨_,_,he⟩:=he; exact he.elim
  case row row args=>exact h
 | halt x w'=>cases x <;> simp only[Oper.upon] at h ⊢; exact h
section
variable {P:Program}{N:Nat}{Q:Post}{fr:Fr}{S Bt:Asrt}{w0:Bs}{G0 G:Mem}{L:Lo}{ops:Array Oper}{ty:TypeId}{pos:String}{af:Array Edge}{g:Option (Nat×Bool)}{l:List Oper}{o:Oper}
theorem WLT.one(hT:∀ w,S w->Bt w)(h:WL P N ops (NX fun _ a w=>wpListT P ops Bt (NX Q) l a w) [o] fr S):WLT P N ops Bt (NX Q) (o::l) fr S:=fun a w ha hs=>by
 refine⟨hT w hs,?_⟩
 have h:=h a w ha hs
 unfold wpList at h
 split at h
 .rename_i hw
  rw[if_pos hw]
  rcases h with h|⟨_,a₀,w₀,hq⟩
  .exact Oper.Zqw h
  exact hq.elim
 rename_i hw
 rw[if_neg hw]
 exact h
theorem WLT.back{fr':Fr}{S':Asrt}(h:WLT P N ops Bt (NX Q) l fr' S'):WL P N ops (NX fun _ a w=>wpListT P ops Bt (NX Q) l a w) [] fr' S':=fun a w ha hs=>h a w ha hs
end
section
variable {P:Program}{N:Nat}{dst:Option Nat}{ty:TypeId}{pos:String}{af:Array Edge}{g:Option (Nat×Bool)}{G:Mem}{α:Type}{r:Rp α}
theorem SlR.cut{t e:TypeId}{n cap sz:Nat}{p:Option Addr}{xs:List α}{lo hi:Int}(low high:Option Value)(hsz:(P.info? e).map (·.size)=some sz)(hsr:sz=r.size)(ht:P.underlying t=some (.slice e))(h:SlR r G (.slice p n cap) xs)
  (hlo:low=none/\lo=0\/∃ k,low=some (.int k lo)) (hhi:high=none/\hi=(xs.length:Int)\/∃ k,high=some (.int k hi)) (hb:0<=lo/\lo<=hi/\hi<=(xs.length:Int)) :
  ∃ p' cap',SlR r G (.slice p' ((xs.take hi.toNat).drop lo.toNat).length cap') ((xs.take hi.toNat).drop lo.toNat)/\∀ w,(Instr.slice t (.slice p n cap) low high none).run P w = .ok (.slice p' ((xs.take hi.toNat).drop lo.toNat).length cap') w:=by
 have hn:n=xs.length:=by obtain⟨p',cap',cs,h1,_⟩:=h; cases h1; rfl
 have hcap:n<=cap/\cap<=9223372036854775807:=by obtain⟨p',cap',cs,h1,h2,_⟩:=h; cases h1; exact h2
 have hspot:∀ a,p=some a->0<cap->a.spot=none:=by obtain⟨p',cap',cs,h1,_,h2,_⟩:=h; cases h1; exact h2
 have hlen:((xs.take hi.toNat).drop lo.toNat).length=hi.toNat-lo.toNat:=by simp; omega
 refine⟨if cap=lo.toNat then p else p.map (·.add (lo.toNat*sz)),cap-lo.toNat,?_,fun w=>?_⟩
 .rw[hlen]
  refine h.take (by omega) (by omega) ?_ (by omega)
  by_cases hc:cap=lo.toNat
  .right
   rw[if_pos hc]
   exact⟨by omega,rfl,by omega⟩
  left
  rw[if_neg hc]
  cases p with
  | none=>rfl
  | some a=>
   obtain⟨ab,ao,ap⟩:=a
   have:=hspot _ rfl (by omega)
   dsimp only at this
   subst this
   simp only[Option.map_some,Z6,hsr]
 have hbs:(Instr.sliceBounds true n cap low high none).run P w = .ok (lo.toNat,hi.toNat,cap) w:=by
  rcases hlo with ⟨rfl,rfl⟩|⟨k,rfl⟩ <;> rcases hhi with ⟨rfl,rfl⟩|⟨k',rfl⟩
  .simp[Instr.sliceBounds,hn]
  .have h1:0<=hi/\hi<=(cap:Int):=by omega
   simp[Instr.sliceBounds,Instr.sliceBound,asIntOf,h1]
  .have h1:0<=lo/\lo<=(n:Int):=by omega
   simp[Instr.sliceBounds,Instr.sliceBound,asIntOf,h1,hn]
   intro h; omega
  have h1:0<=hi/\hi<=(cap:Int):=by omega
  have h2:0<=lo/\lo<=((hi.toNat:Nat):Int):=by omega
  simp[Instr.sliceBounds,Instr.sliceBound,asIntOf,h1,h2]
  intro h; omega
 rw[hlen]
 simp[Instr.slice,run_underlying ht,hbs,run_sizeOf hsz]
theorem Y0.cutH{S:Asrt}{F:Fr}{t e:TypeId}{x x2:Operand}{k2:IntKind}{hi:Int}{u v:Value}(ht:P.underlying t=some (.slice e))(h:∀ w,(Instr.slice t u none (some (.int k2 hi)) none).run P w = .ok v w)(hx:F.ev x=some u)(h2:F.ev x2=some (.int k2 hi)):
  Y0 P N ⟨dst,.slice t x none (some x2) none,ty,pos,af,g⟩ F S v:=fun a w ha _=>by
 simp only[execOp,ha.ev hx,ha.ev h2,Option.map_none,Option.map_some]
 simp[Instr.sliceAt,run_underlying ht,h w]
end
end Go.EL
namespace Go.EL
open Go.IntKind (i8 i16 i32 i64 u8 u16 u32 u64)
open Go Go.RowKit Go.Proofs
section
variable {P:Program}{N:Nat}{Q:Post}{fr:Fr}{S:Asrt}{ops:Array Oper}{l:List Oper}{dst:Option Nat}{ty:TypeId}{pos:String}{af:Array Edge}{g:Option (Nat×Bool)}{w0:Bs}{G0 G:Mem}{L L':Lo}
variable {α:Type}{A B:Cq α}{Φ:α->Prop}{p:Prop} [Decidable p] {b:Bool}
theorem z{α:Sort _}{a:α}:a=a:=rfl
abbrev mx:=@Mem.le_trans
abbrev fc:=@Fr.Zd
abbrev lc:=@Lo.Zd
abbrev lw:=@Lo.Zlp
theorem wk(h:Lo.sub L' L):∀ w,St w0 G0 G L w->St w0 G0 G L' w:=fun _ hs=>hs.weaken h
theorem ln:Lo.sub [] L:=Lo.Zt L
theorem fn{fr:Fr}:Fr.sub [] fr:=Fr.Zt fr
theorem mr:Mem.le G G:=Mem.le_refl G
theorem WC.cr{c:Operand}{x y:Code}(hr:(if p then A else B).wp Φ)(hc:fr.ev c=some (.bool (decide p)))(ht:p->A.wp Φ->WC P N x Q fr S)(hf:¬ p->B.wp Φ->WC P N y Q fr S):WC P N (.cond c x y) Q fr S:=
 WC.condD hc (fun h=>ht h (by rwa [if_pos h] at hr)) (fun h=>hf h (by rwa [if_neg h] at hr))
theorem WC.crB{c:Operand}{x y:Code}(hr:(if b=true then A else B).wp Φ)(hc:fr.ev c=some (.bool b))(ht:b=true->A.wp Φ->WC P N x Q fr S)(hf:b=false->B.wp Φ->WC P N y Q fr S):WC P N (.cond c x y) Q fr S:=
 WC.cond hc (fun h=>ht h (by rwa [if_pos h] at hr)) (fun h=>hf h (by rwa [if_neg (by rw[h]; decide)] at hr))
theorem WL.cr{op:Op}(hr:(if p then A else B).wp Φ)(hg:guardOK ops fr ⟨dst,op,ty,pos,af,g⟩ true)(h:Y0 P N ⟨dst,op,ty,pos,af,g⟩ fr S (.bool (decide p)))(hd:dstOK N dst)
  (kt:p->A.wp Φ->WL P N ops Q l (putFr dst (.bool true) fr) S) (kf:¬ p->B.wp Φ->WL P N ops Q l (putFr dst (.bool false) fr) S):WL P N ops Q (⟨dst,op,ty,pos,af,g⟩::l) fr S:=
 WL.caseY0 hg h hd (fun h=>kt h (by rwa [if_pos h] at hr)) (fun h=>kf h (by rwa [if_neg h] at hr))
theorem Chain.cr{Bt:Asrt}{fs:List Bool}{r:List Oper}{det:Fr}{o:Oper}(hr:(if p then A else B).wp Φ)(hg:guardOK ops (det++fr) o true)(h:∀ G',Mem.le G G'->Y0 P N o (det++fr) (St w0 G0 G' L) (.bool (decide p)))
  (kt:p->A.wp Φ->Chain P N Q fr w0 G0 G L ops Bt fs r (putFr o.dst (.bool true) det) []) (kf:¬ p->B.wp Φ->Chain P N Q fr w0 G0 G L ops Bt fs r (putFr o.dst (.bool false) det) []):Chain P N Q fr w0 G0 G L ops Bt (false::fs) (o::r) det []:=
 Chain.caseY0 hg h (fun h=>kt h (by rwa [if_pos h] at hr)) (fun h=>kf h (by rwa [if_neg h] at hr))
theorem cs{Bt:Asrt}{fs:List Bool}{det:Fr}{op:Op}{j d:Nat}{c:Bool}(h1:(ops[j]?).bind (·.dst)=some d)(h2:(det++fr).get d=some undef)(k:Chain P N Q fr w0 G0 G L ops Bt fs l (putFr dst undef det) []):Chain P N Q fr w0 G0 G L ops Bt (false::fs) (⟨dst,op,ty,pos,af,some (j,c)⟩::l) det []:=Chain.skip (ZhY h1 h2) k
theorem ct{Bt:Asrt}{fs:List Bool}{det:Fr}{op:Op}{j d:Nat}(h1:(ops[j]?).bind (·.dst)=some d)(h2:(det++fr).get d=some (.bool false))(k:Chain P N Q fr w0 G0 G L ops Bt fs l (putFr dst undef det) []):Chain P N Q fr w0 G0 G L ops Bt (false::fs) (⟨dst,op,ty,pos,af,some (j,true)⟩::l) det []:=Chain.skip (ZcN h1 h2) k
theorem cf{Bt:Asrt}{fs:List Bool}{det:Fr}{op:Op}{j d:Nat}(h1:(ops[j]?).bind (·.dst)=some d)(h2:(det++fr).get d=some (.bool true))(k:Chain P N Q fr w0 G0 G L ops Bt fs l (putFr dst undef det) []):Chain P N Q fr w0 G0 G L ops Bt (false::fs) (⟨dst,op,ty,pos,af,some (j,false)⟩::l) det []:=Chain.skip (ZjU h1 h2) k
theorem cy{Bt:Asrt}{fs:List Bool}{det:Fr}{op:Op}{v:Value}{j d:Nat}{c:Bool}(h1:(ops[j]?).bind (·.dst)=some d)(h2:(det++fr).get d=some (.bool c))(h:∀ G',Mem.le G G'->Y0 P N ⟨dst,op,ty,pos,af,some (j,c)⟩ (det++fr) (St w0 G0 G' L) v)(k:Chain P N Q fr w0 G0 G L ops Bt fs l (putFr dst v det) []):Chain P N Q fr w0 G0 G L ops Bt (false::fs) (⟨dst,op,ty,pos,af,some (j,c)⟩::l) det []:=Chain.y0 (ZgW h1 h2) h k
end
end Go.EL
namespace Go.EL
open Go.IntKind (i8 i16 i32 i64 u8 u16 u32 u64)
open Go Go.RowKit Go.Proofs
def Rp.arr{α:Type}(r:Rp α)(n:Nat):Rp (List α) where
 size:=n*r.size
 rep G cs xs:=RepL r G cs xs/\xs.length=n
 len:=fun ⟨h,e⟩=>by rw[h.len,e]
 mono:=fun hle ⟨h,e⟩=>⟨h.mono hle,e⟩
 one:=fun ⟨h,_⟩=>h.one
def ArRd{α:Type}(r:Rp α)(n:Nat)(G:Mem)(cs:List Value)(_:Unit)(xs:List α):Prop:=(Rp.arr r n).rep G cs xs
section
variable {α:Type}{r:Rp α}{n:Nat}{G:Mem}{cs:List Value}{u:Unit}{xs:List α}
theorem ArRd.mono{G':Mem}(h:ArRd r n G cs u xs)(hle:Mem.le G G'):ArRd r n G' cs u xs:=(Rp.arr r n).mono hle h
theorem ArRd.size(h:ArRd r n G cs u xs):cs.toArray.size=n*r.size:=by rw[List.size_toArray]; exact (Rp.arr r n).len h
theorem ArRd.one(h:ArRd r n G cs u xs):∀ v ∈ cs.toArray.toList,v.oneCell'=true:=fun v hv=>(Rp.arr r n).one h v (by simpa using hv)
theorem ArRd.lt{z:α}{i:Int}(h:ArRd r n G cs u xs)(hi:0<=i/\xs[i.toNat]? = some z):0<=i/\i<(n:Int):=by
 have:=(List.getElem?_eq_some_iff.1 hi.2).1
 have e:=h.2
 omega
theorem ArRd.at{z:α}{i:Int}(h:ArRd r n G cs u xs)(hi:0<=i/\xs[i.toNat]? = some z):AtK r G (fun o v=>cs.toArray[o]? = some v) (i.toNat*r.size) z:=by
 obtain⟨c,h1,h2⟩:=h.1.get hi.2
 exact⟨c,h1,fun j v hv=>by show cs.toArray[_]? = some v; rw[List.getElem?_toArray]; exact h2 j v hv⟩
theorem ArRd.zero{zc:List Value}{z:α}(h:r.rep G zc z):ArRd r n G (List.replicate n zc).flatten () (List.replicate n z):=by
 refine⟨?_,List.length_replicate⟩
 induction n with
 | zero=>exact rfl
 | succ n ih=>exact⟨zc,_,by simp[List.replicate_succ],h,ih⟩
end
section
variable {P:Program}{N:Nat}{Q:Post}{fr:Fr}{S:Asrt}{dst:Option Nat}{ops:Array Oper}{l:List Oper}{ty:TypeId}{pos:String}{af:Array Edge}{g:Option (Nat×Bool)}{w0:Bs}{G0 G:Mem}{L:Lo}{α:Type}{r:Rp α}
theorem Y0.idxAy{t e:TypeId}{x y:Operand}{len b sz:Nat}{k:IntKind}{i:Int}(ht:P.underlying t=some (.array len e))(hsz:(P.info? e).map (·.size)=some sz)
  (hx:fr.ev x=some (.pointer (some ⟨b,0,none⟩))) (hy:fr.ev y=some (.int k i)) (hi:0<=i/\i<len):Y0 P N ⟨dst,.indexAddr t x y,ty,pos,af,g⟩ fr S (.pointer (some ⟨b,i.toNat*sz,none⟩)):=
 (Y0.idxArr ht hsz hx hy hi).eq (by simp)
theorem WL.storeAy{t t':TypeId}{x y:Operand}{b n sz:Nat}{val:Value}{cs cs':List Value}{i:Int}{xs:List α}{z z':α}{u:Unit}(key:Nat)(hg:guardOK ops fr ⟨none,.store t x y,ty,pos,af,g⟩ true)(ht:(P.info? t).map (·.size)=some sz)(hsr:sz=r.size)
  (hn:n<=maxLen) (h:ArRd r n G cs u xs) (hid:L.get key=some ⟨b,.cells cs.toArray t' (0,0),0⟩) (hx:fr.ev x=some (.pointer (some ⟨b,i.toNat*sz,none⟩))) (hy:fr.ev y=some val) (hval:val.cells=cs'.toArray) (hrep:r.rep G cs' z') (hi:0<=i/\xs[i.toNat]? = some z)
  (k:∀ ds,ArRd r n G ds u (xs.set i.toNat z')->WL P N ops Q l fr (St w0 G0 G ((key,some ⟨b,.cells ds.toArray t' (0,0),0⟩)::L))):WL P N ops Q (⟨none,.store t x y,ty,pos,af,g⟩::l) fr (St w0 G0 G L):=by
 obtain⟨h1,h2⟩:=h
 have hr:RowR r t' G (.slice (some ⟨b,0,none⟩) n n) xs (some ⟨b,.cells cs.toArray t' (0,0),0⟩):=
  ⟨n,cs,[],by rw[h2],by simp,rfl,h1,by simp[h1.len,h2],hn,by omega⟩
 refine WL.storeT (p:=some ⟨b,0,none⟩) (n:=n) (cap:=n) key hg ht hsr hr hid hx hy hval hrep hi fun tk' hr'=>?_
 cases tk' with
 | none=>
  obtain⟨e,_⟩:=hr'
  have hl:(xs.set i.toNat z').length=0:=by rw[e]; rfl
  rw[List.length_set] at hl
  have:=(List.getElem?_eq_some_iff.1 hi.2).1
  omega
 | some q=>
  obtain⟨cap,cs2,rest,e1,e2,e3,e4,e5,_⟩:=hr'
  obtain⟨qb,qo,qm⟩:=q
  dsimp only at e2 e3
  subst e2 e3
  cases e1
  have l1:=e4.len
  rw[List.length_set,h2] at l1
  have l2:rest=[]:=List.eq_nil_of_length_eq_zero (by rw[List.length_append,l1] at e5; omega)
  subst l2
  simp only[List.append_nil]
  exact k cs2 ⟨e4,by rw[List.length_set]⟩
end
end Go.EL
namespace Go.EL
open Go.IntKind (i8 i16 i32 i64 u8 u16 u32 u64)
open Go Go.RowKit Go.Proofs
end Go.EL

namespace Go.EL
open Go.IntKind (i8 i16 i32 i64 u8 u16 u32 u64)
open Go Go.RowKit Go.Proofs Go.ChangeShapes Go.WideShapes Go.ChangeAt
theorem Zgn{H:Type}{enc:TypeId×Value->H}{P:Program}(hl:laidOutB P=true){W W':World}(hb:Below W.heap.size W W'):∀ {ts:List TypeId}{vs:List Value}{ds:List (DataW H)}{ps:List MemPlace},
  (ts.all fun t=>P.readableRec t && decide (t<P.types.size))=true->DataW.TrodAll enc P W 0 (fun _=>true) true ts vs ds ps->DataW.TrodAll enc P W' 0 (fun b=>decide (b<W.heap.size)) true ts vs ds ps
 | [],[],[],_,_,h=>h
 | t::ts,v::vs,d::ds,ps,hr,h=>by
  have hlt:=DataW.TrodAll.lt h
  obtain⟨p,q,h1,h2,rfl⟩:=h
  simp only[List.all_cons,Bool.and_eq_true,decide_eq_true_eq] at hr
  exact⟨p,q,Below.trod hl hr.1.1 hr.1.2 h1 hb (fun x hx=>hlt x (by simp[hx])),Zgn hl hb hr.2 h2,rfl⟩
 | [],[],_::_,_,_,h=>h.elim
 | [],_::_,_,_,_,h=>h.elim
 | _::_,[],_,_,_,h=>h.elim
 | _::_,_::_,[],_,_,h=>h.elim
theorem Zh8{H:Type}{enc:TypeId×Value->H}{P:Program}{w:World}{b:Nat}{sp:Nat->Bool}{held:Bool}:∀ {ts:List TypeId}{vs:List Value}{ds:List (DataW H)}{ps:List MemPlace},DataW.TrodAll enc P w b sp held ts vs ds ps->ds.length=ts.length
 | [],[],[],_,_=>rfl
 | t::ts,v::vs,d::ds,ps,h=>by
  obtain⟨p,q,h1,h2,rfl⟩:=h
  simp[Zh8 h2]
 | [],[],_::_,_,h=>h.elim
 | [],_::_,_,_,h=>h.elim
 | _::_,[],_,_,h=>h.elim
 | _::_,_::_,[],_,h=>h.elim
theorem Ext.below{w w':World}{G G':Mem}{L':Lo}(h:Ext w G [] w' G' L'):Below w.heap.size w w':=⟨h.os,h.tape,h.output,h.size,fun k hk=>h.block k hk (fun _ _ e=>(by simp[Lo.get] at e))⟩
def LawCalls{H:Type}(enc:TypeId×Value->H)(P:Program)(f:FuncId)(ts:List TypeId):Prop:=
 ∀ (W:World) (base:Nat) (args:Array Value) (ds:List (DataW H)) (p:List MemPlace),(∀ (j:Nat) t v,ts[j]? = some t->args[j]? = some v->Value.okWide P W .any base t v)->
  DataW.TrodAll enc P W 0 (fun _=>true) true ts args.toList ds p->Calls P f args W fun e w'=>e = .returned (.bool true)/\Below W.heap.size W w'
theorem ZmR{C:Checked}{os:Os}{f:FuncId}{fn:Func}{s:ChangeSpec}{conds:List PathCond}{bt:TypeId}{H:Type}{enc:TypeId×Value->H}
  (own:ownKnob C.prog.godebug=none) (started:os.Started) (noInit:C.prog.inits.idxOf? f=none) (hfn:C.prog.funcs[f]? = some fn)
  (witness:∃ (w:World) (tape:Tape) (i:Input),w.os=os/\(w.forCall tape i).Shaped C.prog/\i.vars=[]/\Input.okWide C.prog (w.forCall tape i) .any w.heap.size f i/\
   s.pre6 enc C.prog fn conds false (w.forCall tape i).memory i.args/\({}:Assume).holds C.prog (lone (Frame.enter C.prog f i.args .normal) [] (w.forCall tape i)))
  (hl:laidOutB C.prog=true) (hr:(fn.params.toList.all fun t=>C.prog.readableRec t && decide (t<C.prog.types.size))=true) (hres:fn.resultTypes = #[bt]) (hbt:C.prog.underlying bt=some .bool) (hv:s.vars=[])
  (hs:∀ ds:List (DataW H),ds.length=fn.params.toList.length->s.fn H ds = { results:=[.lit (.bool true)],args:=ds })
  (walk:LawCalls enc C.prog f fn.params.toList) :
  ReturnsInHanded {} C os f .any (s.pre6 enc C.prog fn conds false) (s.post enc C.prog fn false true false false):=by
 refine returnsInHanded_of_change own started noInit hfn witness ?_
 intro W base args ds gs before hval hW _ _
 have hW':=hW
 obtain⟨p,q,hA,hV,rfl,hfz,hnd⟩:=hW
 rw[hv] at hV
 obtain⟨rfl,rfl⟩:=trodVars_none hV
 refine (walk W base args ds p (fun j t v h1 h2=>hval j t v (by simpa using h1) h2) hA).mono fun e w' ⟨he,hb⟩=>?_
 subst he
 have hlen:=Zh8 hA
 have hfn':s.fn H (ds++[]) = { results:=[.lit (.bool true)],args:=ds }:=by rw[List.append_nil]; exact hs ds hlen
 refine⟨_,rfl,ds,[],p++[],[],p,[],hW',?_,?_,?_,Below.frame hb _,fun h=>by cases h⟩
 .rw[hfn',hres]
  exact trodAll_mk1 (shut_bool hbt true)
 .rw[hfn']
  exact Zgn hl hb hr hA
 rw[hfn',hv]; rfl
theorem wf_u8{x:Int}(h:(Lit.int .u8 x).wf=true):0<=x/\x<=255:=by
 simp only[Lit.wf,Bool.and_eq_true,decide_eq_true_eq] at h
 have h1:u8.min=0:=by decide
 have h2:u8.max=255:=by decide
 omega
theorem Ctr.law{P:Program}{f:FuncId}{args:Array Value}{pre:Mem->Prop}(h:Ctr P f args pre (fun _ r=>r = .bool true))(W:World)(G:Mem)(hi:Imm G W)(hp:pre G):Calls P f args W fun e w'=>e = .returned (.bool true)/\Below W.heap.size W w':=
 (h W G ⟨hi,(by intro _ _ h; simp[Lo.get] at h),(by intro _ _ _ _ _ h; simp[Lo.get] at h)⟩ hp).mono fun _ _ ⟨_,_,_,h1,h2,h3⟩=>⟨by rw[h1,h3],h2.below⟩
end Go.EL
namespace Go.EL
open Go.IntKind (i8 i16 i32 i64 u8 u16 u32 u64)
open Go Go.RowKit Go.Proofs Go.ChangeShapes Go.WideShapes Go.ChangeAt
def allMem(W:World):Mem:=fun b o=>W.cell? ⟨b,o,none⟩
theorem ZpK(W:World):Imm (allMem W) W:=by intro _ _ _ h; exact h
theorem ZjN(a:Addr)(n:Nat)(h:a.spot=none):a.add n=⟨a.block,a.off+n,none⟩:=by
 unfold Addr.add
 split
 .rename_i h0; subst h0; cases a; simp_all
 rfl
structure Opens {α:Type}(P:Program) (W:World) (t:TypeId) (r:Rp α) (ok:α->Prop):Prop where
 go:∀ {H:Type}{enc:TypeId×Value->H}{b:Nat}{held:Bool}{fuel:Nat}{cs:List Value}{x:DataW H×List MemPlace},DataW.trod enc P W b (fun _=>true) held fuel t cs=some x->∃ y,r.rep (allMem W) cs y/\ok y
section
variable {P:Program}{W:World}
theorem Opens.int{t:TypeId}{k:IntKind}(ht:P.underlying t=some (.int k)):Opens P W t (Rp.int k) (fun y=>(Lit.int k y).wf=true):=by
 constructor
 intro H enc b held fuel cs x h
 obtain⟨n,h2,_,h3⟩:=DataW.trod_int ht h
 exact⟨n,h2,h3⟩
theorem Opens.bool{t:TypeId}(ht:P.underlying t=some .bool):Opens P W t Rp.bool (fun _=>True):=by
 constructor
 intro H enc b held fuel cs x h
 obtain⟨n,h2,_⟩:=DataW.trod_bool ht h
 exact⟨n,h2,trivial⟩
theorem Opens.vec{t e:TypeId}{k:IntKind}{n:Nat}(ht:P.underlying t=some (.array n e))(he:P.underlying e=some (.int k))(hc:P.cellsOf t=n)(hce:P.cellsOf e=1):Opens P W t (Rp.vec k n) (fun f=>∀ i,(Lit.int k (f i)).wf=true):=by
 constructor
 intro H enc b held fuel cs x h
 obtain⟨xs,m,_,_,hl,hxl,hx⟩:=DataW.trod_array ht h
 have hcell:∀ i:Fin n,∃ z,cs[i.val]? = some (.int k z)/\(Lit.int k z).wf=true:=by
  intro i
  have h1:=hx i.val i.isLt
  rw[List.getElem?_eq_getElem (by omega),hce] at h1
  obtain⟨z,h2,_,h3⟩:=DataW.trod_int he h1
  refine⟨z,?_,h3⟩
  have h5:((cs.drop (i.val*1)).take 1)[0]? = some (.int k z):=by rw[h2]; rfl
  rw[List.getElem?_take,if_pos (by decide),List.getElem?_drop] at h5
  simpa using h5
 have hch:=fun i=>(hcell i).choose_spec
 refine⟨fun i=>(hcell i).choose,?_,fun i=>(hch i).2⟩
 show cs=vecG (Value.int k) n _
 apply List.ext_getElem?
 intro j
 by_cases hj:j<n
 .rw[ZcK _ _ _ hj]; exact (hch ⟨j,hj⟩).1
 rw[List.getElem?_eq_none (by omega),List.getElem?_eq_none (by rw[ZdK]; omega)]
theorem Zo0{α:Type}{r:Rp α}{ok:α->Prop}{t e:TypeId}{H:Type}{enc:TypeId×Value->H}{b:Nat}{held:Bool}{fuel:Nat}{cs:List Value}{x:DataW H×List MemPlace}
  (ht:P.underlying t=some (.slice e)) (hc:P.cellsOf e=r.size) (hpos:0<r.size) (he:Opens P W e r ok) (h:DataW.trod enc P W b (fun _=>true) held fuel t cs=some x) :
  ∃ p cap l,cs=[.slice p (List.length l) cap]/\SlR r (allMem W) (.slice p l.length cap) l/\∀ y ∈ l,ok y:=by
 rcases Go.Deep.open_slice ht h with ⟨h0,_⟩|⟨a,len,cap,m,n,D,Pl,h0,_,hl,hcap,hm,_,hx⟩
 .exact⟨none,0,[],h0,SlR.nil _ _,by simp⟩
 rw[if_pos rfl] at hm
 subst hm
 have hs:0<m->a.spot=none:=fun h0=>by
  obtain⟨cs',g1,_⟩:=hx 0 h0
  obtain⟨_,hlen,hcell⟩:=World.cells?_some g1
  have h5:=hcell 0 (by rw[hc]; exact hpos)
  rw[Nat.zero_mul] at h5
  cases h6:cs'[0]? with
  | none=>rw[List.getElem?_eq_none_iff] at h6; omega
  | some u=>
   rw[h6] at h5
   have:=World.cell?_spot h5
   unfold Addr.add at this
   simpa using this
 have hel:∀ k,k<=len->∃ (C:List Value) (l:List α),l.length=k/\RepL r (allMem W) C l/\(∀ y ∈ l,ok y)/\∀ j u,C[j]? = some u->W.cell? ⟨a.block,a.off+j,none⟩=some u:=by
  intro k
  induction k with
  | zero=>exact fun _=>⟨[],[],rfl,rfl,by simp,fun j u h=>by simp at h⟩
  | succ k ih=>
   intro hk
   obtain⟨C,l,h1,h2,h3,h4⟩:=ih (by omega)
   obtain⟨cs',g1,g2⟩:=hx k (by omega)
   rw[hc] at g1
   obtain⟨_,hlen,hcell⟩:=World.cells?_some g1
   obtain⟨y,g3,g4⟩:=he.go g2
   refine⟨C++cs',l++[y],by simp[h1],h2.append (RepL.single g3),fun z hz=>?_,fun j u hu=>?_⟩
   .rcases List.mem_append.1 hz with hz|hz
    .exact h3 z hz
    simp at hz; subst hz; exact g4
   by_cases hj:j<C.length
   .rw[List.getElem?_append_left hj] at hu; exact h4 j u hu
   rw[List.getElem?_append_right (by omega)] at hu
   have hlt:=(List.getElem?_eq_some_iff.1 hu).1
   have hC:=h2.len
   rw[h1] at hC
   have h5:=hcell (j-C.length) (by omega)
   rw[ZjN a _ (hs (by omega)),ZjN _ _ rfl,hu] at h5
   have e:a.off+k*r.size+(j-C.length)=a.off+j:=by omega
   simp only[e] at h5
   exact h5
 obtain⟨C,l,h1,h2,h3,h4⟩:=hel len (Nat.le_refl _)
 subst h1
 refine⟨some a,m,l,h0,⟨some a,m,C,rfl,⟨hl,by simpa [maxLen] using hcap⟩,fun a' e hm0=>?_,fun _=>rfl,h2,fun j u hu=>h4 j u hu⟩,h3⟩
 cases e; exact hs hm0
theorem Opens.sl{α:Type}{r:Rp α}{ok:α->Prop}{t e:TypeId}(ht:P.underlying t=some (.slice e))(hc:P.cellsOf e=r.size)(hpos:0<r.size)(he:Opens P W e r ok):Opens P W t (Rp.sl r) (fun l=>∀ y ∈ l,ok y):=by
 constructor
 intro H enc b held fuel cs x h
 obtain⟨p,cap,l,h1,h2,h3⟩:=Zo0 ht hc hpos he h
 exact⟨l,⟨_,h1,h2⟩,h3⟩
structure OpensF {α:Type}(P:Program) (W:World) (fs:List Field) (o:Nat) (r:Rp α) (ok:α->Prop):Prop where
 go:∀ {H:Type}{enc:TypeId×Value->H}{b:Nat}{held:Bool}{fuel:Nat}{cs:List Value},cs.length=o+r.size->(∀ f ∈ fs,∃ x,DataW.trod enc P W b (fun _=>true) held fuel f.type ((cs.drop f.offset).take (P.cellsOf f.type))=some x)->∃ y,r.rep (allMem W) (cs.drop o) y/\ok y
theorem OpensF.last{α:Type}{r:Rp α}{ok:α->Prop}{f:Field}{o:Nat}(ho:f.offset=o)(hc:P.cellsOf f.type=r.size)(h:Opens P W f.type r ok):OpensF P W [f] o r ok:=by
 constructor
 intro H enc b held fuel cs hl hf
 obtain⟨x,hx⟩:=hf f (by simp)
 rw[ho,hc,List.take_of_length_le (by rw[List.length_drop]; omega)] at hx
 exact h.go hx
theorem OpensF.cons{α β:Type}{r:Rp α}{q:Rp β}{ok:α->Prop}{ok2:β->Prop}{f:Field}{fs:List Field}{o:Nat}(ho:f.offset=o)(hc:P.cellsOf f.type=r.size)(h:Opens P W f.type r ok)(hr:OpensF P W fs (o+r.size) q ok2):OpensF P W (f::fs) o (Rp.pair r q) (fun x=>ok x.1/\ok2 x.2):=by
 constructor
 intro H enc b held fuel cs hl hf
 have hl':cs.length=o+(r.size+q.size):=hl
 obtain⟨x,hx⟩:=hf f (by simp)
 rw[ho,hc] at hx
 obtain⟨y,h1,h2⟩:=h.go hx
 obtain⟨z,h3,h4⟩:=hr.go (by omega) (fun g hg=>hf g (by simp[hg]))
 refine⟨(y,z),⟨_,_,?_,h1,h3⟩,h2,h4⟩
 rw[<- List.drop_drop,List.take_append_drop]
theorem Opens.struct{α β:Type}{r:Rp α}{ok:α->Prop}{t:TypeId}{fs:Array Field}(ht:P.underlying t=some (.struct fs))(hc:P.cellsOf t=r.size)(h:OpensF P W fs.toList 0 r ok)(f:β->α)(g:α->β)(hg:∀ x,f (g x)=x):Opens P W t (Rp.via r f) (fun y=>ok (f y)):=by
 constructor
 intro H enc b held fuel cs x hx
 obtain⟨xs,n,_,_,hl,hxl,hf⟩:=DataW.trod_struct ht hx
 obtain⟨y,h1,h2⟩:=h.go (enc:=enc) (b:=b) (held:=held) (fuel:=n) (cs:=cs) (by omega) (fun u hu=>by
  obtain⟨i,hi,e⟩:=List.mem_iff_getElem.1 hu
  have hi':i<fs.size:=by simpa using hi
  have:=hf i u (by rw[Array.getElem?_eq_getElem hi']; simpa using e)
  rw[List.getElem?_eq_getElem (by omega)] at this
  exact⟨_,this⟩)
 exact⟨g y,by show r.rep _ cs (f (g y)); rw[hg]; exact h1,by show ok (f (g y)); rw[hg]; exact h2⟩
theorem ZlU{α:Type}{r:Rp α}{ok:α->Prop}{t:TypeId}{fs:Array Field}{base:Nat}{v:Value}{H:Type}{enc:TypeId×Value->H}{b:Nat}{held:Bool}{d:DataW H}{ps:List MemPlace}
  (ht:P.underlying t=some (.struct fs)) (he:Opens P W t r ok) (hok:Value.okWide P W .any base t v) (h:DataW.Trod enc P W b (fun _=>true) held t v d ps) :
  ∃ cs y,v = .agg (cs:List Value).toArray/\r.rep (allMem W) cs y/\ok y:=by
 obtain⟨cs,rfl,_,_⟩:∃ cs,v = .agg cs/\cs.size=P.cellsOf t/\Row.okWide P W .any base t cs:=by simpa [Value.okWide,ht] using hok
 obtain⟨fuel,hf⟩:=h
 have hcs:(Value.agg cs).cells.toList=cs.toList:=rfl
 rw[hcs] at hf
 obtain⟨y,h1,h2⟩:=he.go hf
 exact⟨cs.toList,y,by simp,h1,h2⟩
theorem Zov{α:Type}{r:Rp α}{G:Mem}{cs:List Value}{x:α}(h:r.rep G cs x){ds:List Value}(hd:ds.length=r.size)(hk:∀ j u,ds.toArray[j]? = some u->cs[0+j]? = some u):cs=ds:=by
 have hl:=r.len h
 refine List.ext_getElem (by omega) fun i h1 h2=>?_
 have:=hk i ds[i] (by rw[List.getElem?_toArray,List.getElem?_eq_getElem h2])
 rw[Nat.zero_add,List.getElem?_eq_getElem h1] at this
 exact Option.some.inj this
theorem Zos{α:Type}{r:Rp α}{G:Mem}{cs:List Value}{x:α}(h:r.rep G cs x):AtK r G (fun j u=>cs[j]? = some u) 0 x:=⟨cs,h,fun j u hu=>by rw[Nat.zero_add]; exact hu⟩
theorem wf_i8{x:Int}(h:(Lit.int .i8 x).wf=true):-128<=x/\x<=127:=by
 simp only[Lit.wf,Bool.and_eq_true,decide_eq_true_eq] at h
 have h1:i8.min = -128:=by decide
 have h2:i8.max=127:=by decide
 omega
end
end Go.EL
namespace Go.EL
open Go.IntKind (i8 i16 i32 i64 u8 u16 u32 u64)
open Go Go.RowKit Go.Proofs Go.WideShapes Go.ChangeAt
section
variable {P:Program}{W:World}
theorem Opens.arr{α:Type}{r:Rp α}{ok:α->Prop}{t e:TypeId}{n:Nat}(ht:P.underlying t=some (.array n e))(hct:P.cellsOf t=n*r.size)(hc:P.cellsOf e=r.size)(he:Opens P W e r ok):Opens P W t (Rp.arr r n) (fun l=>l.length=n/\∀ y ∈ l,ok y):=by
 constructor
 intro H enc b held fuel cs x h
 obtain⟨xs,m,_,_,hl,hxl,hx⟩:=DataW.trod_array ht h
 have hel:∀ k,k<=n->∃ l:List α,l.length=k/\RepL r (allMem W) (cs.take (k*r.size)) l/\∀ y ∈ l,ok y:=by
  intro k
  induction k with
  | zero=>exact fun _=>⟨[],rfl,by rw[Nat.zero_mul]; rfl,by simp⟩
  | succ k ih=>
   intro hk
   obtain⟨l,h1,h2,h3⟩:=ih (by omega)
   have h4:=hx k (by omega)
   rw[List.getElem?_eq_getElem (by omega),hc] at h4
   obtain⟨y,g3,g4⟩:=he.go h4
   refine⟨l++[y],by simp[h1],?_,fun z hz=>?_⟩
   .have e1:cs.take ((k+1)*r.size)=cs.take (k*r.size)++(cs.drop (k*r.size)).take r.size:=by rw[Nat.add_mul,Nat.one_mul,List.take_add]
    rw[e1]
    exact h2.append (RepL.single g3)
   rcases List.mem_append.1 hz with hz|hz
   .exact h3 z hz
   simp at hz; subst hz; exact g4
 obtain⟨l,h1,h2,h3⟩:=hel n (Nat.le_refl _)
 rw[List.take_of_length_le (by omega)] at h2
 exact⟨l,⟨h2,h1⟩,h1,h3⟩
theorem ZmW{α:Type}{r:Rp α}{ok:α->Prop}{t e:TypeId}{n:Nat}{base:Nat}{v:Value}{H:Type}{enc:TypeId×Value->H}{b:Nat}{held:Bool}{d:DataW H}{ps:List MemPlace}
  (ht:P.underlying t=some (.array n e)) (he:Opens P W t r ok) (hok:Value.okWide P W .any base t v) (h:DataW.Trod enc P W b (fun _=>true) held t v d ps) :
  ∃ cs y,v = .agg (cs:List Value).toArray/\r.rep (allMem W) cs y/\ok y:=by
 obtain⟨cs,rfl,_,_⟩:∃ cs,v = .agg cs/\cs.size=P.cellsOf t/\Row.okWide P W .any base t cs:=by simpa [Value.okWide,ht] using hok
 obtain⟨fuel,hf⟩:=h
 have hcs:(Value.agg cs).cells.toList=cs.toList:=rfl
 rw[hcs] at hf
 obtain⟨y,h1,h2⟩:=he.go hf
 exact⟨cs.toList,y,by simp,h1,h2⟩
end
end Go.EL

