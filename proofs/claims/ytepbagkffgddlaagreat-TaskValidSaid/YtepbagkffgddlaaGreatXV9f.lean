/- The law TaskValid holds for every input: a part of its proof (fY the code does, plain models, and fY they return). No condition. -/
import Derived.Test.YtepbagkffgddlaaGreatXV9e
import Derived.Test.YtepbagkffgddlaaGreatXV9c
import Derived.Test.YtepbagkffgddlaaGreatXV9d
import Derived.Test.YtepbagkffgddlaaGreatXV9b
set_option linter.unusedVariables false
set_option linter.unusedSimpArgs false
namespace Go.EL
open Go.IntKind (i8 i16 i32 i64 u8 u16 u32 u64)
set_option maxRecDepth 20000
open Go Go.RowKit Go.Proofs
class Sca (P:Program) (t:TypeId):Prop where
 h:è P t
class Agg (P:Program) (t:TypeId) (n:outParam Nat):Prop where
 h:fq P t n
class Siz (P:Program) (t:TypeId) (n:outParam Nat):Prop where
 h:(P.info? t).map (·.size)=some n
class Udl (P:Program) (t:TypeId) (d:outParam TypeDesc):Prop where
 h:P.underlying t=some d
class Zer (P:Program) (t:TypeId) (z:outParam Value):Prop where
 h:(P.info? t).map (·.zero)=some (some z)
class Fad (P:Program) (t i:Nat) (k:outParam Nat):Prop where
 h:∀{N:Nat}{dst:ŀ Nat}{ty:TypeId}{pos:String}{af:Array Edge}{g:ŀ (Nat×Bool)}{fr:Fr}{S:Ξ}{x:Operand}{b off:Nat},fr.ev x=some (.pointer (some ⟨b,off,none⟩))->Y0 P N ⟨dst,.fieldAddr t x i,ty,pos,af,g⟩ fr S (.pointer (some ⟨b,off+k,none⟩))
class Off (P:Program) (t i:Nat) (k:outParam Nat):Prop where
 h:True
class RpT (P:Program) (e:TypeId) (α:outParam Type) (r:outParam (Rp α)):Prop where
 h:True
class ElC (P:Program) (e:TypeId) (z:outParam Value) (s b:outParam Nat):Prop where
 h:jo P e z s b
def B9(P:Program)(f:FuncId):Bool:=match P.funcs[f]? with
 |some fn=>!(fn.name == "runtime.NumGoroutine")&&fn.body.isSome
 |none=>false
theorem uo{P:Program}{f:FuncId}(h:B9 P f=true):Enters P f:=by
 unfold B9 at h;split at h
 .rename_i fn d;simp only[ĉ,Ř,ek]at h;obtain⟨a,c,h2⟩:=h;exact enters_of d a h2
 cases h
class SpcM {α:Type}(m:Cq α) (r:α) (S:outParam Prop):Prop where
 h:m.ω r->S
class Exp {α:Type}(r:Rp α) (x:α) (D:outParam (Mem->(Nat->Value->Prop)->Nat->Prop)):Prop where
 h:∀{G K o},AtK r G K o x->D G K o
def pf:Ŀ Value->Nat->ŀ Value
 |[],_=>none
 |v::_,0=>some v
 |_::r,n+1=>pf r n
theorem MB:∀(c:Ŀ Value) (i:Nat),pf c i=c[i]?
 |[],_=>by simp[pf]
 |_::_,0=>by simp[pf]
 |_::r,n+1=>by simp[pf,MB r n]
theorem vK{a b c:Prop}(h:a/\b)(k:a->b->c):c:=k h.1 h.2
theorem zQ{α:Sort _}{p:α->Prop}{c:Prop}(h:∃x,p x)(k:∀x,p x->c):c:=let ⟨x,h⟩:=h;k x h
theorem HX{a b r:Prop}(k:a->b->r):a/\b->r:=λh=>k h.1 h.2
theorem qi{α:Type}{p q:α->Prop}{r:Prop}(k:∀x,p x->q x->r):(∃x,p x/\q x)->r:=λ⟨x,a,b⟩=>k x a b
theorem lh{i:Nat}{x:ŀ Ow}{L:Lo}:Lo.get ((i,x)::L) i=x:=by simp[Lo.get]
theorem lt{i j:Nat}{x y:ŀ Ow}{L:Lo}(h:L.get i=x)(a:Nat.beq j i=false):Lo.get ((j,y)::L) i=x:=by show(bif Nat.beq j i then y else L.get i)=x;rw[a];exact h
theorem uN{A B:Mem}(h:Mem.le A B:=by((repeat (first|exact Mem.le_refl _|assumption|refine Mem.le_trans (by assumption) ?_));fail_if_success refine ?_)):Mem.le A B:=h
section
variable {α:Type}{r:Rp α}{G G':Mem}{v:Value}{xs:Ŀ α}{b o j:Nat}{cells:Array Value}
theorem zW(h:Δ r G v xs:=by with_reducible assumption)(a:Mem.le G G':=by exact uN):Δ r G' v xs:=h.mono a
theorem zU{e:TypeId}{tk:ŀ Ow}(h:Β r e G v xs tk:=by with_reducible assumption)(a:Mem.le G G':=by exact uN):Β r e G' v xs tk:=h.mono a
theorem XR:Δ r G (.slice none 0 0) ([]:Ŀ α):=Δ.nil r G
theorem gz(h:∀j u,cells[j]?=some u->(λk u=>G b k=some u) (o+j) u:=by with_reducible assumption)(c:pf cells.toList j=some v:=by exact rfl)(a:Mem.le G G':=by exact uN):G' b (o+j)=some v:=a _ _ _ (h j v (by rw[MB]at c;simpa using c))
theorem gz1(h:(λk u=>G b k=some u) o v:=by with_reducible assumption)(a:Mem.le G G':=by exact uN):G' b o=some v:=a _ _ _ h
theorem gzA(h:∀j u,cells[j]?=some u->(λk u=>G b k=some u) (o+j) u:=by with_reducible assumption)(a:Mem.le G G':=by exact uN):∀j v,cells[j]?=some v->G' b (o+j)=some v:=λj v c=>a _ _ _ (h j v c)
end
section
variable {P:Program}{N:Nat}{Q:ï}{fr:Fr}{S:Ξ}{ops:Array Oper}{l:Ŀ Oper}{dst:ŀ Nat}{op:Op}{ty:TypeId}{pos:String}{af:Array Edge}{g:ŀ (Nat×Bool)}{v:Value}{x y:Operand}{w0:Bs}{G0 G:Mem}{L:Lo}
section
variable {t t' e:TypeId}{b off m n k:Nat}{c:Array Value}
theorem YK[h:Sca P t](d:fr.ev x=some (.pointer (some ⟨b,off,none⟩))){i:Nat}(hi:L.get i=some ⟨b,.cells c t' (0,0),m⟩)(a:pf c.toList off=some v):Y0 P N ⟨dst,.load t x,ty,pos,af,g⟩ fr (St w0 G0 G L) v:=Y0.î i h.h d hi (by rw[MB]at a;simpa using a)
theorem Zzk[h:Agg P t n](d:fr.ev x=some (.pointer (some ⟨b,0,none⟩))){i:Nat}(hi:L.get i=some ⟨b,.cells c t' (0,0),m⟩)(a:c.size=n):Y0 P N ⟨dst,.load t x,ty,pos,af,g⟩ fr (St w0 G0 G L) (.agg c):=Y0.eK i h.h d hi a
theorem YJ[h:Sca P t](c:fr.ev x=some (.pointer (some ⟨b,off,none⟩)))(a:G b off=some v):Y0 P N ⟨dst,.load t x,ty,pos,af,g⟩ fr (St w0 G0 G L) v:=Y0.ia h.h c a
theorem Zzh[h:Agg P t n](e:fr.ev x=some (.pointer (some ⟨b,off,none⟩)))(d:∀j v,c[j]?=some v->G b (off+j)=some v)(a:c.size=n):Y0 P N ⟨dst,.load t x,ty,pos,af,g⟩ fr (St w0 G0 G L) (.agg c):=Y0.jF c h.h e a d
theorem ZBT{i:Nat}[h:Fad P t i k](a:fr.ev x=some (.pointer (some ⟨b,off,none⟩))):Y0 P N ⟨dst,.fieldAddr t x i,ty,pos,af,g⟩ fr S (.pointer (some ⟨b,off+k,none⟩)):=h.h a
theorem ZBy{p:ŀ Addr}{cap:Nat}[h:Udl P t (.slice e)](a:fr.ev x=some (.slice p n cap)):Y0 P N ⟨dst,.call ⟨.builtin .len,#[x],#[t]⟩,ty,pos,af,g⟩ fr S (.int .i64 (n:Int)):=Y0.sF h.h a
theorem YH{d:TypeId}{a:TypeDesc}{k k':IntKind}{n:Int}[e:Udl P t a][c:Udl P d (.int k')](f:fr.ev x=some (.int k n)):Y0 P N ⟨dst,.convert t d x,ty,pos,af,g⟩ fr S (.int k' (k'.wrap n)):=Y0.conv e.h c.h f
end
theorem ZBt{α:Type}{t e:TypeId}{r:Rp α}{n m cap:Nat}{p:ŀ Addr}{k:IntKind}{i:Int}{xs:Ŀ α}{z:α}{D:Mem->(Nat->Value->Prop)->Nat->Prop}[a:Udl P t (.slice e)][h2:Siz P e m](g:fr.ev x=some (.slice p n cap))(j:fr.ev y=some (.int k i))(hi:0<=i/\xs[i.toNat]?=some z)(h:Δ r G (.slice p n cap) xs)(c:Exp r z D)(f:r.size=m)(d:Ω N dst)
  (kk:D G (λk u=>G (pb p) k=some u) (po p+i.toNat*m)->WL P N ops Q l (θ dst (.pointer (some ⟨pb p,po p+i.toNat*m,none⟩)) fr) (St w0 G0 G L)):WL P N ops Q (⟨dst,.indexAddr t x y,ty,pos,af,none⟩::l) fr (St w0 G0 G L):=
 yy (Y0.lS a.h h2.h h g j hi) d (kk (f ▸ c.h (Δ.at h hi)))
theorem ZAr{f:FuncId}{c:Value}{pre:Mem->Prop}{xs:Array Operand}{a:Array TypeId}{vs:Ŀ Value}(e:Enters P f)(g:fr.iy xs.toList=some vs)(h:iC P f vs.toArray pre (λ_ u=>u=c))(d:Ω N dst)(hp:pre G)
  (k:WL P N ops Q l (θ dst c fr) (St w0 G0 G L)):WL P N ops Q (⟨dst,.call ⟨.value (.func f),xs,a⟩,ty,pos,af,none⟩::l) fr (St w0 G0 G L):=WL.gg Zh d (YC.of e g) h rfl hp k
theorem YD{f:FuncId}{pre:Mem->Prop}{post:Mem->Value->Prop}{xs:Array Operand}{a:Array TypeId}{vs:Ŀ Value}(d:Enters P f)(e:fr.iy xs.toList=some vs)(h:iC P f vs.toArray pre post)(c:Ω N dst)(hp:pre G)
  (k:∀v G',Mem.le G G'->post G' v->WL P N ops Q l (θ dst v fr) (St w0 G0 G' L)):WL P N ops Q (⟨dst,.call ⟨.value (.func f),xs,a⟩,ty,pos,af,none⟩::l) fr (St w0 G0 G L):=WL.call Zh c (YC.of d e) h rfl hp k
theorem ZAt{f:FuncId}{pre:Mem->Prop}{post:Mem->Value->Prop}{xs:Array Operand}{a:Array TypeId}{vs:Ŀ Value}{j d:Nat}{b:Bool}(g:Enters P f)(c:(ops[j]?).bind (·.dst)=some d)(h2:fr.get d=some (.bool b))(i:fr.iy xs.toList=some vs)(h:iC P f vs.toArray pre post)(e:Ω N dst)(hp:pre G)
  (k:∀v G',Mem.le G G'->post G' v->WL P N ops Q l (θ dst v fr) (St w0 G0 G' L)):WL P N ops Q (⟨dst,.call ⟨.value (.func f),xs,a⟩,ty,pos,af,some (j,b)⟩::l) fr (St w0 G0 G L):=WL.call (rV c h2) e (YC.of g i) h rfl hp k
theorem Zy8{f:FuncId}{z:Operand}{c:Value}{pre:Mem->Prop}{xs:Array Operand}{a:Array TypeId}{vs:Ŀ Value}(i:fr.ev z=some (.func (.func f) #[] #[]))(e:Enters P f)(g:fr.iy xs.toList=some vs)(h:iC P f vs.toArray pre (λ_ u=>u=c))(d:Ω N dst)(hp:pre G)
  (k:WL P N ops Q l (θ dst c fr) (St w0 G0 G L)):WL P N ops Q (⟨dst,.call ⟨.value z,xs,a⟩,ty,pos,af,none⟩::l) fr (St w0 G0 G L):=WL.gg Zh d (YC.ym e i g) h ß hp k
theorem Zy7{f:FuncId}{c:Value}{pre:Mem->Prop}{xs:Array Operand}{a:Array TypeId}{vs:Ŀ Value}{j d:Nat}{b:Bool}(i:Enters P f)(e:(ops[j]?).bind (·.dst)=some d)(h2:fr.get d=some (.bool b))(m:fr.iy xs.toList=some vs)(h:iC P f vs.toArray pre (λ_ u=>u=c))(g:Ω N dst)(hp:pre G)
  (k:WL P N ops Q l (θ dst c fr) (St w0 G0 G L)):WL P N ops Q (⟨dst,.call ⟨.value (.func f),xs,a⟩,ty,pos,af,some (j,b)⟩::l) fr (St w0 G0 G L):=WL.gg (rV e h2) g (YC.of i m) h rfl hp k
theorem ZAq{t:TypeId}{z:Value}{i:Nat}[h:Zer P t z](a:Ω N (some i))(k:∀b,WL P N ops Q l (θ (some i) (.pointer (some ⟨b,0,none⟩)) fr) (St w0 G0 G ((i,some ⟨b,.cells z.cells t (0,0),0⟩)::L))):WL P N ops Q (⟨some i,.alloc t,ty,pos,af,none⟩::l) fr (St w0 G0 G L):=WL.alloc i Zh h.h a k
theorem MR{β:Type}{p:Prop}{d:Decidable p}{A B:Cq β}{Φ:β->Prop}{a:Prop}(hr:(@ite _ p d A B).wp Φ)(e:@decide p d=true->p->A.wp Φ->a)(c:@decide p d=false->¬p->B.wp Φ->a):a:=
 if h:p then e (ă h) h (by rwa [ą h]at hr)else c (Ĉ h) h (by rwa [ā h]at hr)
theorem MS{β:Type}{b:Bool}{A B:Cq β}{Φ:β->Prop}{a:Prop}(hr:(match b with|false=>A|true=>B).wp Φ)(c:b=false->A.wp Φ->a)(d:b=true->B.wp Φ->a):a:=by
 cases b with
 |false=>exact c rfl hr
 |true=>exact d rfl hr
theorem Gl{t e:TypeId}{len b:Nat}{k:IntKind}{i:Int}[h:Udl P t (.array len e)][h':Siz P e 1](a:fr.ev x=some (.pointer (some ⟨b,0,none⟩)))(c:fr.ev y=some (.int k i))(hi:0<=i/\i<(len:Int)):Y0 P N ⟨dst,.indexAddr t x y,ty,pos,af,g⟩ fr S (.pointer (some ⟨b,i.toNat,none⟩)):=Y0.jD h.h h'.h a c hi
theorem GL{t e:TypeId}{len b off:Nat}{k:IntKind}{i:Int}[h:Udl P t (.array len e)][h':Siz P e 1](a:fr.ev x=some (.pointer (some ⟨b,off,none⟩)))(c:fr.ev y=some (.int k i))(hi:0<=i/\i<(len:Int)):Y0 P N ⟨dst,.indexAddr t x y,ty,pos,af,g⟩ fr S (.pointer (some ⟨b,off+i.toNat,none⟩)):=Y0.Cm h.h h'.h a c hi
theorem Zzo{a:IntKind}{n:Nat}{f:Fin n->Int}{i:Int}{t t':TypeId}{b m key:Nat}[h:Sca P t](d:fr.ev x=some (.pointer (some ⟨b,i.toNat,none⟩)))(hi:L.get key=some ⟨b,.cells (õ (Value.int a) n f).toArray t' (0,0),m⟩)(c:0<=i/\i<(n:Int)):Y0 P N ⟨dst,.load t x,ty,pos,af,g⟩ fr (St w0 G0 G L) (Value.int a (Ζ f i)):=Y0.î key h.h d hi (tE _ _ _ c)
theorem Zzn{n:Nat}{f:Fin n->Bool}{i:Int}{t t':TypeId}{b m key:Nat}[h:Sca P t](c:fr.ev x=some (.pointer (some ⟨b,i.toNat,none⟩)))(hi:L.get key=some ⟨b,.cells (õ Value.bool n f).toArray t' (0,0),m⟩)(a:0<=i/\i<(n:Int)):Y0 P N ⟨dst,.load t x,ty,pos,af,g⟩ fr (St w0 G0 G L) (Value.bool (Ζ f i)):=Y0.î key h.h c hi (tE _ _ _ a)
theorem GN{t yt:TypeId}{k k':IntKind}{a b:Int}(d:fr.ev x=some (.int k a))(e:fr.ev y=some (.int k' b))(c:0<=b):Y0 P N ⟨dst,.binOp .shr t x y yt,ty,pos,af,g⟩ fr S (.int k (a.fdiv (2 ^ (min b.toNat k.bits)))):=Y0.shr d e c
def oV:Ŀ Value->Ŀ Value
 |[]=>[]
 |v::r=>v.cells.toList++oV r
def sc:Ŀ Value->Ŀ Value
 |[]=>[]
 |[v]=>v.cells.toList
 |v::w::r=>v.cells.toList++sc (w::r)
theorem ZAz{t:TypeId}{n:Nat}{parts:Array (Nat×Operand)}{vs:Ŀ Value}[h':Siz P t n](a:fr.iy (parts.toList.map (·.2))=some vs)(_:(sc vs).length=n)(h:∀w,(Instr.build t ((parts.toList.map (·.1)).zip vs).toArray).run P w=.ok (.agg (sc vs).toArray) w)(e:(parts.toList.map (·.1)).length=vs.length):Y0 P N ⟨dst,.build t parts,ty,pos,af,g⟩ fr S (.agg (sc vs).toArray):=by
 refine Y0.build (vs:=((parts.toList.map (·.1)).zip vs).toArray) ?_ ?_ h
 .rw[a,List.map_snd_zip ŉ]
 rw[List.map_fst_zip ŉ]
theorem Zzf{t:TypeId}{v:Value}[h':Zer P t v](h:∀w,(Instr.build t #[]).run P w=.ok v w):Y0 P N ⟨dst,.build t #[],ty,pos,af,g⟩ fr S v:=Y0.build (vs:=#[]) rfl rfl h
def lb:Nat->Ŀ Value->ŀ (Ŀ Value)
 |0,l=>some l
 |_+1,[]=>none
 |n+1,_::r=>lb n r
theorem Gc:∀{n:Nat}{l r:Ŀ Value},lb n l=some r->∃p,l=p++r/\p.length=n
 |0,l,r,h=>⟨[],by simpa[lb]using h,rfl⟩
 |n+1,[],r,h=>by cases h
 |n+1,x::l,r,h=>by obtain⟨p,a,h2⟩:=Gc (n:=n) (l:=l) (r:=r) h;exact⟨x::p,by rw[a];rfl,by simp[h2]⟩
def l8:Nat->Ŀ Value->ŀ (Ŀ Value)
 |0,_=>some []
 |_+1,[]=>none
 |n+1,x::r=>match l8 n r with
  |some s=>some (x::s)
  |none=>none
theorem LX:∀{n:Nat}{l r:Ŀ Value},l8 n l=some r->∃q,l=r++q/\r.length=n
 |0,l,r,h=>⟨l,by simp only[l8,Đ]at h;rw[<-h];rfl,by simp only[l8,Đ]at h;rw[<-h];rfl⟩
 |n+1,[],r,h=>by cases h
 |n+1,x::l,r,h=>by
  unfold l8 at h;split at h
  .rename_i s c;simp only[Đ]at h;obtain⟨q,a,h2⟩:=LX c;subst h;exact⟨q,by rw[a];rfl,by simp[h2]⟩
  cases h
theorem MO{c:Array Value}{off:Nat}{p rest vs q:Ŀ Value}(h:c.toList=p++rest)(hp:p.length=off)(h2:rest=vs++q):∀j v,vs.toArray[j]?=some v->c[off+j]?=some v:=by
 intro j v a;have e:c=(p++(vs++q)).toArray:=by rw[<-h2,<-h]
 subst hp;rw[e];exact UZ p vs q j v a
theorem Zzl{t t':TypeId}{b off m n:Nat}{c:Array Value}{rest:Ŀ Value}[h:Agg P t n](f:fr.ev x=some (.pointer (some ⟨b,off,none⟩))){i:Nat}(hi:L.get i=some ⟨b,.cells c t' (0,0),m⟩)(d:lb off c.toList=some rest)(e:rest.length=n):Y0 P N ⟨dst,.load t x,ty,pos,af,g⟩ fr (St w0 G0 G L) (.agg rest.toArray):=by obtain⟨p,a,h2⟩:=Gc d;exact Y0.ny rest.toArray i h.h f hi (by simpa using e) (MO a h2 (ę rest).symm)
theorem Zzm{t t':TypeId}{b off m n:Nat}{c:Array Value}{rest vs:Ŀ Value}[h:Agg P t n](j:fr.ev x=some (.pointer (some ⟨b,off,none⟩))){i:Nat}(hi:L.get i=some ⟨b,.cells c t' (0,0),m⟩)(e:lb off c.toList=some rest)(f:l8 n rest=some vs):Y0 P N ⟨dst,.load t x,ty,pos,af,g⟩ fr (St w0 G0 G L) (.agg vs.toArray):=by obtain⟨p,a,h2⟩:=Gc e;obtain⟨q,h3,d⟩:=LX f;exact Y0.ny vs.toArray i h.h j hi (by simpa using d) (MO a h2 h3)
def sZ:Ŀ Value->Nat->Value->ŀ (Ŀ Value)
 |[],_,_=>none
 |_::r,0,v=>some (v::r)
 |x::r,n+1,v=>match sZ r n v with
  |some s=>some (x::s)
  |none=>none
theorem U6:∀{l s:Ŀ Value}{n:Nat}{v:Value},sZ l n v=some s->l.set n v=s/\n<l.length
 |[],_,_,_,h=>by cases h
 |_::r,s,0,v,h=>by simp only[sZ,Đ]at h;subst h;exact⟨rfl,ß⟩
 |x::r,s,n+1,v,h=>by
  unfold sZ at h;split at h
  .rename_i s' c;simp only[Đ]at h;obtain⟨a,h2⟩:=U6 c;subst h;exact⟨by simp[a],by simpa using h2⟩
  cases h
theorem Zy9{t t':TypeId}{b off:Nat}{c:Array Value}{s:Ŀ Value}[h:Siz P t 1](e:fr.ev x=some (.pointer (some ⟨b,off,none⟩)))(f:fr.ev y=some v){i:Nat}(hi:L.get i=some ⟨b,.cells c t' (0,0),0⟩)(d:sZ c.toList off v=some s)(a:v.oneCell'=true)
  (k:WL P N ops Q l fr (St w0 G0 G ((i,some ⟨b,.cells s.toArray t' (0,0),0⟩)::L))):WL P N ops Q (⟨none,.store t x y,ty,pos,af,none⟩::l) fr (St w0 G0 G L):=by
 obtain⟨h2,h3⟩:=U6 d
 refine WL.eW i s.toArray Zh h.h e f hi (by simpa using h3) a ?_ k
 rw[<-h2];apply ź;simp
theorem ZBR{t ty t' i b m n:Nat}{c:Array Value}[e:Agg P ty n](a:fr.get t=some (.pointer (some ⟨b,0,none⟩)))(h2:L.get i=some ⟨b,.cells c t' (0,0),m⟩)(d:c.size=n):RV P fr L (.cell t ty) (.agg c):=RV.pT e.h a h2 d
theorem ZBS{t:Nat}{v:Value}(a:fr.get t=some v):RV P fr L (.tmp t) v:=a
theorem yu{z:ResultVar}{v:Value} (h:RV P fr L z v:=by
 first
 |((with_reducible apply ZBS);exact rfl)
 |((with_reducible apply ZBR);exact rfl;(focus ((repeat (first|exact lh|apply lt));all_goals exact rfl));first|exact rfl|exact Zz _ _ _)):RV P fr L z v:=h
theorem gN{α:Type}{r:Rp α}{v:Value}{xs:Ŀ α}(h:Δ r G v xs:=by first|exact zW|exact XR):Δ r G v xs:=h
theorem HZ{α:Type}{r:Rp α}{v:Value}{xs:Ŀ α}(h:Δ r G v xs:=by first|exact gN|assumption):Δ r G v xs:=h
theorem ZxL{t t':TypeId}{b n:Nat}{c c':Array Value}[h:Agg P t n][h':Siz P t n](e:fr.ev x=some (.pointer (some ⟨b,0,none⟩)))(f:fr.ev y=some (.agg c')){i:Nat}(hi:L.get i=some ⟨b,.cells c t' (0,0),0⟩)(d:c.size=n)(nR:c'.size=n)(a:c'.toList.all Value.oneCell'=true)
  (k:WL P N ops Q l fr (St w0 G0 G ((i,some ⟨b,.cells c' t' (0,0),0⟩)::L))):WL P N ops Q (⟨none,.store t x y,ty,pos,af,none⟩::l) fr (St w0 G0 G L):=WL.fg i Zh h'.h e f hi d nR (Ć.1 a) k
theorem ZBz(h:fr.ev x=some v)(a:Ω N dst)(k:WL P N ops Q l (θ dst v fr) S):WL P N ops Q (⟨dst,.move x,ty,pos,af,none⟩::l) fr S:=mv h a k
theorem ZBA(h:fr.ev x=some v)(a:Ω N dst)(k:WL P N ops Q l (θ dst v fr) S):WL P N ops Q (⟨dst,.assign x,ty,pos,af,none⟩::l) fr S:=sg h a k
theorem ZBf{t:TypeId}{i:Nat}(c:fr.ev x=some v)(a:Ω N (some i))
  (k:∀b,WL P N ops Q l (θ (some i) (.pointer (some ⟨b,0,none⟩)) fr) (St w0 G0 G ((i,some ⟨b,.cells v.cells t (0,0),0⟩)::L))):WL P N ops Q (⟨some i,.box t x,ty,pos,af,none⟩::l) fr (St w0 G0 G L):=WL.box i Zh c a k
theorem ZBB{β:Type}{p:Prop}{d:Decidable p}{A B:Cq β}{Φ:β->Prop}{c:Operand}{x y:Code}(hr:(@ite _ p d A B).wp Φ)(a:fr.ev c=some (.bool (@decide p d)))(f:p->A.wp Φ->WC P N x Q fr S)(e:¬p->B.wp Φ->WC P N y Q fr S):WC P N (.cond c x y) Q fr S:=WC.cr hr a f e
class Mix (P:Program):Prop where
 h:P.follows .mixedOrders=true
structure Dr (fs:Ŀ Bool) (p:Prop):Prop where
 h:p
def wc:Ŀ Oper->Ŀ Bool
 |[]=>[]
 |_::r=>false::wc r
def sC:Ŀ Bool->ŀ (Ŀ Bool)
 |[]=>some []
 |b::r=>match sC r with
  |some s=>some (b::s)
  |none=>none
theorem ZBC{id:Nat}{fs:Ŀ Bool}[c:Mix P](a:jh N l fs=true)(h:Mem.le G0 G->γ P N Q fr w0 G0 G L l.toArray (λ_=>True) fs l [] []):Dr fs (WC P N (.region id l.toArray true) Q fr (St w0 G0 G L)):=⟨WC.drawn fs c.h a h⟩
theorem ZBD{id:Nat}{fs:Ŀ Bool}(_:iM .any l fs=true)(h:Dr fs (WC P N (.region id l.toArray true) Q fr S)):Dr (false::fs) (WC P N (.region id l.toArray true) Q fr S):=⟨h.h⟩
theorem ZAu{id:Nat}{fs:Ŀ Bool}(_:sC (wc l)=some fs)(h:Dr fs (WC P N (.region id l.toArray true) Q fr (St w0 G0 G L))):WC P N (.region id l.toArray true) Q fr (St w0 G0 G L):=h.h
section
variable {Bt:Ξ}{fs:Ŀ Bool}{Ι:Fr}
theorem WA{v:Value}(h:∀G',Mem.le G G'->Y0 P N ⟨dst,op,ty,pos,af,none⟩ (Ι++fr) (St w0 G0 G' L) v)(k:γ P N Q fr w0 G0 G L ops Bt fs l (θ dst v Ι) []):γ P N Q fr w0 G0 G L ops Bt (false::fs) (⟨dst,op,ty,pos,af,none⟩::l) Ι []:=cn h k
theorem ZzW{f:FuncId}{c:Value}{pre:Mem->Prop}{xs:Array Operand}{a:Array TypeId}{vs:Ŀ Value}(d:Enters P f)(e:(Ι++fr).iy xs.toList=some vs)(h:iC P f vs.toArray pre (λ_ u=>u=c))(hp:∀G',Mem.le G G'->pre G')
  (k:γ P N Q fr w0 G0 G L ops Bt fs l (θ dst c Ι) []):γ P N Q fr w0 G0 G L ops Bt (false::fs) (⟨dst,.call ⟨.value (.func f),xs,a⟩,ty,pos,af,none⟩::l) Ι []:=γ.gg Zh (λ_=>YC.of d e) h rfl hp k
theorem Zyr{f:FuncId}{c:Value}{pre:Mem->Prop}{xs:Array Operand}{a:Array TypeId}{vs:Ŀ Value}{j d:Nat}{b:Bool}(g:Enters P f)(e:(ops[j]?).bind (·.dst)=some d)(h2:(Ι++fr).get d=some (.bool b))(i:(Ι++fr).iy xs.toList=some vs)(h:iC P f vs.toArray pre (λ_ u=>u=c))(hp:∀G',Mem.le G G'->pre G')
  (k:γ P N Q fr w0 G0 G L ops Bt fs l (θ dst c Ι) []):γ P N Q fr w0 G0 G L ops Bt (false::fs) (⟨dst,.call ⟨.value (.func f),xs,a⟩,ty,pos,af,some (j,b)⟩::l) Ι []:=γ.gg (rV e h2) (λ_=>YC.of g i) h rfl hp k
theorem ZBk{α:Type}{t e:TypeId}{r:Rp α}{n m cap:Nat}{p:ŀ Addr}{k:IntKind}{i:Int}{xs:Ŀ α}{z:α}{D:Mem->(Nat->Value->Prop)->Nat->Prop}[c:Udl P t (.slice e)][h2:Siz P e m](g:(Ι++fr).ev x=some (.slice p n cap))(j:(Ι++fr).ev y=some (.int k i))(hi:0<=i/\xs[i.toNat]?=some z)(h:Δ r G (.slice p n cap) xs)(d:Exp r z D)(f:r.size=m)
  (kk:D G (λk u=>G (pb p) k=some u) (po p+i.toNat*m)->γ P N Q fr w0 G0 G L ops Bt fs l (θ dst (.pointer (some ⟨pb p,po p+i.toNat*m,none⟩)) Ι) []):γ P N Q fr w0 G0 G L ops Bt (false::fs) (⟨dst,.indexAddr t x y,ty,pos,af,none⟩::l) Ι []:=
 cn (λ_ a=>Y0.lS c.h h2.h (h.mono a) g j hi) (kk (f ▸ d.h (Δ.at h hi)))
end
section
variable {fs:Ŀ Bool}{Ι:Fr}{Bt:Ξ}{Ρ:jr}
theorem ZBo{post:Mem->Value->Prop} (h:∀v e f,Mem.le e f->post e v->post f v:=by
 first
 |exact λ_ _ _ _ h=>h
 |(rintro _ _ _ zh ⟨_,_,rfl,a⟩;exact⟨_,_,rfl,a.mono zh⟩)
 |(rintro _ _ _ zh ⟨_,_,_,_,rfl,a,b⟩;exact⟨_,_,_,_,rfl,a.mono zh,b.mono zh⟩)
 |(rintro _ _ _ zh ⟨_,_,_,_,_,_,rfl,a,b,c⟩;exact⟨_,_,_,_,_,_,rfl,a.mono zh,b.mono zh,c.mono zh⟩)
 |(rintro _ _ _ zh ⟨_,_,_,_,_,_,_,_,rfl,a,b,c,d⟩;exact⟨_,_,_,_,_,_,_,_,rfl,a.mono zh,b.mono zh,c.mono zh,d.mono zh⟩)):∀v e f,Mem.le e f->post e v->post f v:=h
theorem ZzX{f:FuncId}{d:Nat}{pre:Mem->Prop}{post:Mem->Value->Prop}{xs:Array Operand}{e:Array TypeId}{vs:Ŀ Value}(i:Enters P f)(m:∀u,(ς Ρ u++(Ι++fr)).iy xs.toList=some vs)(h:iC P f vs.toArray pre post)(j:∀v a c,Mem.le a c->post a v->post c v)(hp:∀G',Mem.le G G'->pre G')
  (k:γ P N Q fr w0 G0 G L ops Bt fs l Ι ((d,λv g=>post g.m v)::Ρ)):γ P N Q fr w0 G0 G L ops Bt (false::fs) (⟨some d,.call ⟨.value (.func f),xs,e⟩,ty,pos,af,none⟩::l) Ι Ρ:=γ.oa (λ_=>Zh) (λu _=>YC.of i (m u)) h rfl hp j k
theorem ZBF{v:Value}(h:∀u G',Mem.le G G'->Y0 P N ⟨dst,op,ty,pos,af,none⟩ (ς Ρ u++(Ι++fr)) (St w0 G0 G' L) v)(k:γ P N Q fr w0 G0 G L ops Bt fs l (θ dst v Ι) Ρ):γ P N Q fr w0 G0 G L ops Bt (false::fs) (⟨dst,op,ty,pos,af,none⟩::l) Ι Ρ:=γ.OY (λ_=>Zh) h k
theorem h_f{v:Value}(h:Y0 P N ⟨dst,op,ty,pos,af,none⟩ (Ι++fr) (λ_=>True) v)(k:γ P N Q fr w0 G0 G L ops Bt fs l (θ dst v Ι) []):γ P N Q fr w0 G0 G L ops Bt (true::fs) (⟨dst,op,ty,pos,af,none⟩::l) Ι []:=γ.float Zh h k
theorem ZBE{v:Value}(h:∀u,Y0 P N ⟨dst,op,ty,pos,af,none⟩ (ς Ρ u++(Ι++fr)) (λ_=>True) v)(k:γ P N Q fr w0 G0 G L ops Bt fs l (θ dst v Ι) Ρ):γ P N Q fr w0 G0 G L ops Bt (true::fs) (⟨dst,op,ty,pos,af,none⟩::l) Ι Ρ:=γ.sB (λ_=>Zh) h k
end
def sM:Ŀ Value->Nat->Ŀ Value->ŀ (Ŀ Value)
 |l,0,[]=>some l
 |_::l,0,c::cs=>match sM l 0 cs with
  |some s=>some (c::s)
  |none=>none
 |x::l,n+1,cs=>match sM l n cs with
  |some s=>some (x::s)
  |none=>none
 |[],_,_=>none
section
variable {t n i j k k':Nat}{z:Value}{u v:Value}{s s':Ŀ Value}
theorem YF[d:Zer P t z][c:Off P t i k](a:fr.ev x=some v)(_:sM z.cells.toList k v.cells.toList=some s)(h:∀w,(Instr.build t #[(i,v)]).run P w=.ok (.agg s.toArray) w):Y0 P N ⟨dst,.build t #[(i,x)],ty,pos,af,g⟩ fr S (.agg s.toArray):=Y0.build (vs:=#[(i,v)]) (by simp[Fr.iy,a]) rfl h
theorem YG[f:Zer P t z][d:Off P t i k][e:Off P t j k'](a:fr.ev x=some v)(c:fr.ev y=some u)(_:sM z.cells.toList k v.cells.toList=some s)(_:sM s k' u.cells.toList=some s')(h:∀w,(Instr.build t #[(i,v),(j,u)]).run P w=.ok (.agg s'.toArray) w):Y0 P N ⟨dst,.build t #[(i,x),(j,y)],ty,pos,af,g⟩ fr S (.agg s'.toArray):=Y0.build (vs:=#[(i,v),(j,u)]) (by simp[Fr.iy,a,c]) rfl h
end
theorem Zzg{α:Type}{r:Rp α}{t e a:TypeId}{m n cap:Nat}{p:ŀ Addr}{k:IntKind}{i:Int}{xs:Ŀ α}{z:α}{tk:ŀ Ow}[c:Udl P t (.slice e)][h2:Siz P e m](d:fr.ev x=some (.slice p n cap))(f:fr.ev y=some (.int k i))(h:Β r a G (.slice p n cap) xs tk)(hi:0<=i/\xs[i.toNat]?=some z):Y0 P N ⟨dst,.indexAddr t x y,ty,pos,af,g⟩ fr S (.pointer (some ⟨pb p,i.toNat*m,none⟩)):=Y0.gT c.h h2.h h d f hi
theorem Zza{α:Type}{r:Rp α}{t e key:Nat}{p:ŀ Addr}{n cap sz:Nat}{val:Value}{cs':Ŀ Value}{i:Int}{xs:Ŀ α}{z z':α}{tk:ŀ Ow}[j:Siz P t sz](m:fr.ev x=some (.pointer (some ⟨pb p,i.toNat*sz,none⟩)))(q:fr.ev y=some val)(h:Β r e G (.slice p n cap) xs tk)(f:L.get key=tk)(g:sz=r.size)(c:val.cells=cs'.toArray)(a:r.er G cs' z')(hi:0<=i/\xs[i.toNat]?=some z)
  (k:∀d,Β r e G (.slice p n cap) (xs.set i.toNat z') d->WL P N ops Q l fr (St w0 G0 G ((key,d)::L))):WL P N ops Q (⟨none,.store t x y,ty,pos,af,none⟩::l) fr (St w0 G0 G L):=WL.storeT key Zh j.h g h f m q c a hi k
theorem ZAv{α:Type}{r:Rp α}{t e i sz:Nat}{z:Value}{bytes:Nat}{k k':IntKind}{n:Int}{zx:α}[m:Udl P t (.slice e)][g:ElC P e z sz bytes](_:RpT P e α r)(q:fr.ev x=some (.int k n))(s:fr.ev y=some (.int k' n))(j:0<=n/\n<=1000000)(h:Ω N (some i))(u:sz=r.size)(d:z.cells.size=r.size)(c:Nat.ble bytes 100000=true)(f:Nat.blt 0 r.size=true)(a:r.er G z.cells.toList zx)
  (kk:∀p tk,Β r e G (.slice p n.toNat n.toNat) (List.replicate n.toNat zx) tk->WL P N ops Q l (θ (some i) (.slice p n.toNat n.toNat) fr) (St w0 G0 G ((4000+i,tk)::L))):WL P N ops Q (⟨some i,.makeSlice t x y,ty,pos,af,none⟩::l) fr (St w0 G0 G L):=WL.wo (4000+i) Zh h m.h (u ▸ g.h) d (Ĩ c) (Ĩ f) a q s j kk
theorem en1{f:FuncId}{fn:Func}{c:Code}{args:Ŀ Value}{a:Lo}{pre:Mem->Prop}{post:Mem->Lo->Value->Prop}(i:P.funcs[f]?=some fn)(g:fn.body=some c)(d:fn.ntmps=N)(e:Nat.ble args.length N=true)
  (h:∀w0 G0,w0.L=a->pre G0->WC P N c (bodyPost P fn (jS w0 G0 post)) (kz args 0) (St w0 G0 G0 a)):eR P f args.toArray a pre post:=eR.enter i g d e h
theorem zr0(h:w0.L=[]):w0.L.zero:=by rw[h];exact λ_ h=>nomatch h
theorem zr1{α:Type}{r:Rp α}{e:TypeId}{v:Value}{xs:Ŀ α}{k:Nat}{tk:ŀ Ow}(h:w0.L=[(k,tk)])(h2:Β r e G v xs tk):w0.L.zero:=by rw[h];intro p hp x a;simp only[Ď,ĝ,ţ]at hp;subst hp;exact Β.zero h2 a
theorem tS (h:w0.L.zero:=by
 first
 |assumption
 |exact zr0 (by assumption)
 |(apply zr1;assumption;assumption)):w0.L.zero:=h
theorem ls1{k:Nat}{i:ŀ Ow}(h:L.get k=i):Lo.sub [(k,i)] L:=Lo.Zi h (Lo.Zq _)
theorem ZAs{f:FuncId}{a:Lo}{pre:Mem->Prop}{post:Mem->Lo->Value->Prop}{xs:Array Operand}{c:Array TypeId}{vs:Ŀ Value}(g:Enters P f)(i:fr.iy xs.toList=some vs)(h:eR P f vs.toArray a pre post)(e:Ω N dst)(d:Lo.sub a L)(j:w0.L.zero)(hp:pre G)
  (k:∀v G' L',Mem.le G G'->post G' L' v->WL P N ops Q l (θ dst v fr) (St w0 G0 G' (L'++L.gn (a.map (·.1))))):WL P N ops Q (⟨dst,.call ⟨.value (.func f),xs,c⟩,ty,pos,af,none⟩::l) fr (St w0 G0 G L):=WL.kd Zh e (YC.of g i) h rfl hp d j k
theorem wr_{fn:Func}{a:ResultVar}{c:Value}{post:Mem->Lo->Value->Prop}{R:ŀ Ow}{k:Nat}(hr:fn.results = #[a])(d:RV P fr [(k,R)] a c)(hp:post G [(k,R)] c)(e:L.get k=R):WE N (bodyPost P fn (jS w0 G0 post)) .ret fr (St w0 G0 G L):=WE.ö (λ_ h=>h.weaken (Lo.Zi e (Lo.Zq _))) (WE.ja hr d hp)
theorem iW{L L':Lo}(h:Lo.sub L' L:=by((repeat (first|exact Lo.Zq _|refine Lo.Zi rfl ?_|refine Lo.GJ ?_));fail_if_success refine ?_)):Lo.sub L' L:=h
section
variable {X σ:Type}{F:X->Fr}{H:X->Prop}{I:X->Ξ}{π:X->σ}{A:σ->Prop}
theorem qP{x':X}(a:A (π x'))(h:Fr.sub (F x') fr/\(∀w,S w->I x' w)/\H x'):WE N (Exit.then (jv N F H I π A) Q) .normal fr S:=WE.vO x' a h.2.2 h.1 h.2.1
theorem qQ{m:X->Prop}{x':X}(hr:m x')(h:Fr.sub (F x') fr/\(∀w,S w->I x' w)/\H x'):WE N (Exit.then (mi N F (λx=>m x/\H x) I) Q) .normal fr S:=WE.jH x' ⟨hr,h.2.2⟩ h.1 h.2.1
theorem qR{m:X->Prop}{x':X}(hr:m x')(h:Fr.sub (F x') fr/\(∀w,S w->I x' w)/\H x'):WE N (ll N F (λx=>m x/\H x) I Q) .normal fr S:=WE.B8 x' ⟨hr,h.2.2⟩ h.1 h.2.1
theorem NS(h:WE N (Exit.then (jv N F H I π A) Q) .normal fr S):WE N (Exit.then (jv N F H I π A) Q) .normal fr S:=h
theorem NT(h:WE N (Exit.then (mi N F H I) Q) .normal fr S):WE N (Exit.then (mi N F H I) Q) .normal fr S:=h
theorem NU(h:WE N (ll N F H I Q) .normal fr S):WE N (ll N F H I Q) .normal fr S:=h
end
theorem ZBi{β:Type}{b:Bool}{g:Decidable (b=true)}{A B:Cq β}{Φ:β->Prop}{j d:Nat}{c:Bool}(hr:(@ite _ (b=true) g A B).wp Φ)(m:(ops[j]?).bind (·.dst)=some d)(h2:fr.get d=some (.bool b))
  (kt:A.wp Φ->WL P N ops Q (⟨dst,op,ty,pos,af,some (j,c)⟩::l) ((d,.bool true)::fr) S) (k:B.wp Φ->WL P N ops Q (⟨dst,op,ty,pos,af,some (j,c)⟩::l) ((d,.bool false)::fr) S):WL P N ops Q (⟨dst,op,ty,pos,af,some (j,c)⟩::l) fr S:=by
 intro a w i f
 have key:∀b',b=b'->Rel N ((d,.bool b')::fr) a:=λb' e=>i.weaken (Fr.Zi (by rw[h2,e]) λ_ _ h=>h)
 cases b with
 |true=>exact kt (by simpa using hr) a w (key _ rfl) f
 |false=>exact k (by simpa using hr) a w (key _ rfl) f
theorem ZBm{β:Type}{o':BinOp}{t yt:TypeId}{p:Prop}{d:Decidable p}{A B:Cq β}{Φ:β->Prop}(hr:(@ite _ p d A B).wp Φ)(h:Y0 P N ⟨dst,.binOp o' t x y yt,ty,pos,af,none⟩ fr S (.bool (@decide p d)))(a:Ω N dst)
  (kt:p->A.wp Φ->WL P N ops Q l (θ dst (.bool true) fr) S) (c:¬p->B.wp Φ->WL P N ops Q l (θ dst (.bool false) fr) S):WL P N ops Q (⟨dst,.binOp o' t x y yt,ty,pos,af,none⟩::l) fr S:=WL.cr hr Zh h a kt c
theorem Yz{β:Type}{o':BinOp}{t yt:TypeId}{p:Prop}{d:Decidable p}{A B:Cq β}{Φ:β->Prop}{j e:Nat}{c:Bool}(hr:(@ite _ p d A B).wp Φ)(a:(ops[j]?).bind (·.dst)=some e)(h2:fr.get e=some (.bool c))(h:Y0 P N ⟨dst,.binOp o' t x y yt,ty,pos,af,some (j,c)⟩ fr S (.bool (@decide p d)))(f:Ω N dst)
  (kt:p->A.wp Φ->WL P N ops Q l (θ dst (.bool true) fr) S) (g:¬p->B.wp Φ->WL P N ops Q l (θ dst (.bool false) fr) S):WL P N ops Q (⟨dst,.binOp o' t x y yt,ty,pos,af,some (j,c)⟩::l) fr S:=WL.cr hr (rV a h2) h f kt g
theorem ZBj{Bt:Ξ}{fs:Ŀ Bool}{Ι:Fr}{β:Type}{o':BinOp}{t yt:TypeId}{p:Prop}{d:Decidable p}{A B:Cq β}{Φ:β->Prop}(hr:(@ite _ p d A B).wp Φ)(h:∀G',Mem.le G G'->Y0 P N ⟨dst,.binOp o' t x y yt,ty,pos,af,none⟩ (Ι++fr) (St w0 G0 G' L) (.bool (@decide p d)))
  (kt:p->A.wp Φ->γ P N Q fr w0 G0 G L ops Bt fs l (θ dst (.bool true) Ι) []) (a:¬p->B.wp Φ->γ P N Q fr w0 G0 G L ops Bt fs l (θ dst (.bool false) Ι) []):γ P N Q fr w0 G0 G L ops Bt (false::fs) (⟨dst,.binOp o' t x y yt,ty,pos,af,none⟩::l) Ι []:=γ.cr hr Zh h kt a
theorem Y7{Bt:Ξ}{fs:Ŀ Bool}{Ι:Fr}{β:Type}{o':BinOp}{t yt:TypeId}{p:Prop}{d:Decidable p}{A B:Cq β}{Φ:β->Prop}{j e:Nat}{c:Bool}(hr:(@ite _ p d A B).wp Φ)(a:(ops[j]?).bind (·.dst)=some e)(h2:(Ι++fr).get e=some (.bool c))(h:∀G',Mem.le G G'->Y0 P N ⟨dst,.binOp o' t x y yt,ty,pos,af,some (j,c)⟩ (Ι++fr) (St w0 G0 G' L) (.bool (@decide p d)))
  (kt:p->A.wp Φ->γ P N Q fr w0 G0 G L ops Bt fs l (θ dst (.bool true) Ι) []) (f:¬p->B.wp Φ->γ P N Q fr w0 G0 G L ops Bt fs l (θ dst (.bool false) Ι) []):γ P N Q fr w0 G0 G L ops Bt (false::fs) (⟨dst,.binOp o' t x y yt,ty,pos,af,some (j,c)⟩::l) Ι []:=γ.cr hr (rV a h2) h kt f
theorem YE{α:Type}{t e:TypeId}{r:Rp α}{n m cap j d:Nat}{c:Bool}{p:ŀ Addr}{k:IntKind}{i:Int}{xs:Ŀ α}{z:α}{D:Mem->(Nat->Value->Prop)->Nat->Prop}[g:Udl P t (.slice e)][h2:Siz P e m](a:(ops[j]?).bind (·.dst)=some d)(f:fr.get d=some (.bool c))(A:fr.ev x=some (.slice p n cap))(B:fr.ev y=some (.int k i))(hi:0<=i/\xs[i.toNat]?=some z)(h:Δ r G (.slice p n cap) xs)(q:Exp r z D)(v:r.size=m)(s:Ω N dst)
  (kk:D G (λk u=>G (pb p) k=some u) (po p+i.toNat*m)->WL P N ops Q l (θ dst (.pointer (some ⟨pb p,po p+i.toNat*m,none⟩)) fr) (St w0 G0 G L)):WL P N ops Q (⟨dst,.indexAddr t x y,ty,pos,af,some (j,c)⟩::l) fr (St w0 G0 G L):=
 gy a f (Y0.lS g.h h2.h h A B hi) s (kk (v ▸ q.h (Δ.at h hi)))
theorem Y8{Bt:Ξ}{fs:Ŀ Bool}{Ι:Fr}{α:Type}{t e:TypeId}{r:Rp α}{n m cap j d:Nat}{c:Bool}{p:ŀ Addr}{k:IntKind}{i:Int}{xs:Ŀ α}{z:α}{D:Mem->(Nat->Value->Prop)->Nat->Prop}[q:Udl P t (.slice e)][h2:Siz P e m](f:(ops[j]?).bind (·.dst)=some d)(g:(Ι++fr).get d=some (.bool c))(A:(Ι++fr).ev x=some (.slice p n cap))(B:(Ι++fr).ev y=some (.int k i))(hi:0<=i/\xs[i.toNat]?=some z)(h:Δ r G (.slice p n cap) xs)(s:Exp r z D)(v:r.size=m)
  (kk:D G (λk u=>G (pb p) k=some u) (po p+i.toNat*m)->γ P N Q fr w0 G0 G L ops Bt fs l (θ dst (.pointer (some ⟨pb p,po p+i.toNat*m,none⟩)) Ι) []):γ P N Q fr w0 G0 G L ops Bt (false::fs) (⟨dst,.indexAddr t x y,ty,pos,af,some (j,c)⟩::l) Ι []:=
 cy f g (λ_ a=>Y0.lS q.h h2.h (h.mono a) A B hi) (kk (v ▸ s.h (Δ.at h hi)))
section
variable {t e yt:TypeId}
theorem YI{a b:Bool}[h:Udl P t .bool](c:fr.ev x=some (.bool a))(d:fr.ev y=some (.bool b)):Y0 P N ⟨dst,.binOp .eql t x y yt,ty,pos,af,g⟩ fr S (.bool (decide (a=b))):=Y0.Ca h.h c d
theorem ZBd{a b:Bool}[h:Udl P t .bool](c:fr.ev x=some (.bool a))(d:fr.ev y=some (.bool b)):Y0 P N ⟨dst,.binOp .neq t x y yt,ty,pos,af,g⟩ fr S (.bool (decide (¬a=b))):=Y0.Ox h.h c d
theorem ZBa{a b:Ĳ}[h:Udl P t .string](c:fr.ev x=some (.string a))(d:fr.ev y=some (.string b)):Y0 P N ⟨dst,.binOp .eql t x y yt,ty,pos,af,g⟩ fr S (.bool (decide (a=b))):=Y0.uD h.h c d
theorem ZBb{k:IntKind}{n:Nat}{a b:Fin n->Int}[h:Udl P t (.array n e)][d:Udl P e (.int k)][f:Sca P e][l:Siz P e 1](c:P.eqGuardType P.depth t=false)(i:fr.ev x=some (.agg (jZ k n a).toArray))(j:fr.ev y=some (.agg (jZ k n b).toArray)):Y0 P N ⟨dst,.binOp .eql t x y yt,ty,pos,af,g⟩ fr S (.bool (decide (a=b))):=Y0.Nr h.h d.h f.h l.h c i j
theorem ZBe{k:IntKind}{n:Nat}{a b:Fin n->Int}[h:Udl P t (.array n e)][d:Udl P e (.int k)][f:Sca P e][l:Siz P e 1](c:P.eqGuardType P.depth t=false)(i:fr.ev x=some (.agg (jZ k n a).toArray))(j:fr.ev y=some (.agg (jZ k n b).toArray)):Y0 P N ⟨dst,.binOp .neq t x y yt,ty,pos,af,g⟩ fr S (.bool (decide (¬a=b))):=Y0.Oz h.h d.h f.h l.h c i j
theorem ZBx{p:ŀ Addr}{n c:Nat}[h:Udl P t (.slice e)](a:fr.ev x=some (.slice p n c)):Y0 P N ⟨dst,.call ⟨.builtin .cap,#[x],#[t]⟩,ty,pos,af,g⟩ fr S (.int .i64 (c:Int)):=Y0.BQ h.h a
theorem ZBc{s:Ĳ}[h:Udl P t .string](a:fr.ev x=some (.string s)):Y0 P N ⟨dst,.call ⟨.builtin .len,#[x],#[t]⟩,ty,pos,af,g⟩ fr S (.int .i64 (s.size:Int)):=Y0.CX h.h a
theorem FL{a:IntKind}{k:IntKind}{i:Int}{n:Nat}{f:Fin n->Int}[h:Udl P t (.array n e)][c:Sca P e][l:Siz P e 1](d:fr.ev x=some (.agg (õ (Value.int a) n f).toArray))(j:fr.ev y=some (.int k i))(hi:0<=i/\i<n):Y0 P N ⟨dst,.index t x y,ty,pos,af,g⟩ fr S (Value.int a (Ζ f i)):=Y0.index h.h c.h l.h d j hi (tE _ _ _ hi)
theorem FK{k:IntKind}{i:Int}{n:Nat}{f:Fin n->Bool}[h:Udl P t (.array n e)][a:Sca P e][j:Siz P e 1](c:fr.ev x=some (.agg (õ Value.bool n f).toArray))(d:fr.ev y=some (.int k i))(hi:0<=i/\i<n):Y0 P N ⟨dst,.index t x y,ty,pos,af,g⟩ fr S (Value.bool (Ζ f i)):=Y0.index h.h a.h j.h c d hi (tE _ _ _ hi)
theorem F9{s:Ĳ}{k:IntKind}{i:Int}[h:Udl P t .string](a:fr.ev x=some (.string s))(c:fr.ev y=some (.int k i))(hi:0<=i/\i<(s.size:Int)):Y0 P N ⟨dst,.index t x y,ty,pos,af,g⟩ fr S (.int .u8 (eS s i)):=Y0.sE h.h a c hi
theorem Gm{len b m:Nat}{k:IntKind}{i:Int}[a:Udl P t (.array len e)][f:Siz P e m](c:fr.ev x=some (.pointer (some ⟨b,0,none⟩)))(d:fr.ev y=some (.int k i))(hi:0<=i/\i<len):Y0 P N ⟨dst,.indexAddr t x y,ty,pos,af,g⟩ fr S (.pointer (some ⟨b,i.toNat*m,none⟩)):=Y0.wg a.h f.h c d hi
theorem Zwd{fn:Fn}{first a:Array Operand}{c d:Ŀ Value}(e:fr.iy first.toList=some c)(h2:fr.iy a.toList=some d):Y0 P N ⟨dst,.makeFunc fn first a,ty,pos,af,g⟩ fr S (.func fn c.toArray d.toArray):=Y0.makeFunc e h2
end
theorem en0{f:FuncId}{fn:Func}{c:Code}{args:Ŀ Value}{pre:Mem->Prop}{post:Mem->Value->Prop}(g:P.funcs[f]?=some fn)(e:fn.body=some c)(a:fn.ntmps=N)(d:Nat.ble args.length N=true)
  (h:∀w0 G0,w0.L=[]->pre G0->WC P N c (bodyPost P fn (vf w0 G0 post)) (kz args 0) (St w0 G0 G0 [])):iC P f args.toArray pre post:=iC.enter g e a d h
section
variable {α:Type}{r:Rp α}
theorem ZyT:ÿ r G (oV []) []:=rfl
theorem Zxv{v:Value}{vs:Ŀ Value}{x:α}{xs:Ŀ α}(h:r.er G v.cells.toList x)(h2:ÿ r G (oV vs) xs):ÿ r G (oV (v::vs)) (x::xs):=⟨_,_,rfl,h,h2⟩
theorem MM{r:Rp α}{v:Value}{xs:Ŀ α}(h:Δ r G v xs)(e:v.cells.toList=[v]):(Rp.sl r).er G v.cells.toList xs:=⟨v,e,h⟩
theorem ZBu{t e:TypeId}{len:Nat}{parts:Array (Nat×Operand)}{vs:Ŀ Value}{xs:Ŀ α}{f:Lo}[x:Udl P t (.slice e)](_:RpT P e α r)(v:fr.iy (parts.toList.map (·.2))=some vs)(c:ÿ r G (oV vs) xs)(s:(parts.toList.map (·.1)).length=vs.length)(a:xs.length=len)(d:len<=small)
  (h:∀w,(Instr.buildSlice t len ((parts.toList.map (·.1)).zip vs).toArray).run P w=.ok (.slice (some ⟨w.heap.size,0,none⟩) len len) (w.alloc (.cells (oV vs).toArray e))) (n:w0.L=f) (m:f.get 999=none) (u:L.get 999=none) (q:Ω N dst)
  (k:∀p G',Mem.le G G'->Δ r G' (.slice p len len) xs->WL P N ops Q l (θ dst (.slice p len len) fr) (St w0 G0 G' L)):WL P N ops Q (⟨dst,.buildSlice t len parts,ty,pos,af,none⟩::l) fr (St w0 G0 G L):=by
 have g:fr.iy (parts.toList.map (·.2))=some ((((parts.toList.map (·.1)).zip vs).toArray).toList.map (·.2)):=by rw[v,List.map_snd_zip ŉ]
 have i:parts.toList.map (·.1)=(((parts.toList.map (·.1)).zip vs).toArray).toList.map (·.1):=by rw[List.map_fst_zip ŉ]
 have j:w0.L.get 999=none:=by rw[n];exact m
 exact WL.qY (key:=999) (e:=e) (r:=r) (cs:=oV vs) xs Zh q g i a d h c u j k
theorem YB{t e:TypeId}{z:Value}{s:Operand}{sz bytes m c id:Nat}{v:Value}{xs ys:Ŀ α}{p:ŀ Addr}{tk:ŀ Ow}[u:Udl P t (.slice e)][j:ElC P e z sz bytes](q:fr.ev s=some v)(A:fr.ev x=some (.slice p m c))(y:Β r e G v xs tk)(g:L.get id=tk)(B:Δ r G (.slice p m c) ys)(h:(xs++ys).length<=small)(C:sz=r.size)(i:z.cells.size=r.size)(f:bytes<=100000)(n:Ω N dst)
  (k:∀p' a d,Β r e G (.slice p' (xs++ys).length a) (xs++ys) d->WL P N ops Q l (θ dst (.slice p' (xs++ys).length a) fr) (St w0 G0 G ((id,d)::L))) :
  WL P N ops Q (⟨dst,.call ⟨.builtin .append,#[s,x],#[t,t]⟩,ty,pos,af,none⟩::l) fr (St w0 G0 G L):=WL.hM id Zh n u.h (C ▸ j.h) i f q A y g B h k
end
theorem ZxN{t t':TypeId}{b n:Nat}{a:IntKind}{f:Fin n->Int}{i u:Int}{key:Nat}[h:Siz P t 1](c:fr.ev x=some (.pointer (some ⟨b,i.toNat,none⟩)))(d:fr.ev y=some (.int a u))(hi:L.get key=some ⟨b,.cells (õ (Value.int a) n f).toArray t' (0,0),0⟩)(e:0<=i/\i<(n:Int))
  (k:WL P N ops Q l fr (St w0 G0 G ((key,some ⟨b,.cells (õ (Value.int a) n (ε f i.toNat u)).toArray t' (0,0),0⟩)::L))):WL P N ops Q (⟨none,.store t x y,ty,pos,af,none⟩::l) fr (St w0 G0 G L):=
 WL.eW key _ Zh h.h c d hi (by rw[Zz];omega) rfl (vC _ _ _ _ _) k
theorem ZxM{t t':TypeId}{b n:Nat}{f:Fin n->Bool}{i:Int}{u:Bool}{key:Nat}[h:Siz P t 1](a:fr.ev x=some (.pointer (some ⟨b,i.toNat,none⟩)))(c:fr.ev y=some (.bool u))(hi:L.get key=some ⟨b,.cells (õ Value.bool n f).toArray t' (0,0),0⟩)(d:0<=i/\i<(n:Int))
  (k:WL P N ops Q l fr (St w0 G0 G ((key,some ⟨b,.cells (õ Value.bool n (ε f i.toNat u)).toArray t' (0,0),0⟩)::L))):WL P N ops Q (⟨none,.store t x y,ty,pos,af,none⟩::l) fr (St w0 G0 G L):=
 WL.eW key _ Zh h.h a c hi (by rw[Zz];omega) rfl (vC _ _ _ _ _) k
theorem sP{b o d n:Nat}{cells:Array Value}{rest vs q:Ŀ Value}(h:∀j u,cells[j]?=some u->(λk u=>G b k=some u) (o+j) u)(c:lb d cells.toList=some rest)(h2:rest=vs++q):∀j v,vs.toArray[j]?=some v->G b (o+d+j)=some v:=by obtain⟨p,h3,a⟩:=Gc c;intro j v e;have:=h _ _ (MO h3 a h2 j v e);rwa [<-Ş]at this
theorem Zzi{t:TypeId}{b o d n:Nat}{c:Mem}{cells:Array Value}{rest:Ŀ Value}[h:Agg P t n](m:fr.ev x=some (.pointer (some ⟨b,o+d,none⟩)))(e:∀j u,cells[j]?=some u->(λk u=>c b k=some u) (o+j) u)(a:Mem.le c G)(f:lb d cells.toList=some rest)(i:rest.length=n):Y0 P N ⟨dst,.load t x,ty,pos,af,g⟩ fr (St w0 G0 G L) (.agg rest.toArray):=
 Y0.jF rest.toArray h.h m (by simpa using i) (λj v l=>a _ _ _ (sP (n:=n) e f (ę rest).symm j v l))
theorem Zzj{t:TypeId}{b o d n:Nat}{c:Mem}{cells:Array Value}{rest vs:Ŀ Value}[h:Agg P t n](p:fr.ev x=some (.pointer (some ⟨b,o+d,none⟩)))(f:∀j u,cells[j]?=some u->(λk u=>c b k=some u) (o+j) u)(a:Mem.le c G)(i:lb d cells.toList=some rest)(l:l8 n rest=some vs):Y0 P N ⟨dst,.load t x,ty,pos,af,g⟩ fr (St w0 G0 G L) (.agg vs.toArray):=by obtain⟨q,h3,e⟩:=LX l;exact Y0.jF vs.toArray h.h p (by simpa using e) (λj v m=>a _ _ _ (sP (n:=n) f i h3 j v m))
theorem ZxU{t:TypeId}{b o n:Nat}{c:Mem}{d:IntKind}{f:Fin n->Int}{i:Int}[h:Sca P t](m:fr.ev x=some (.pointer (some ⟨b,o+i.toNat,none⟩)))(l:∀j u,(õ (Value.int d) n f).toArray[j]?=some u->(λk u=>c b k=some u) (o+j) u)(a:Mem.le c G)(e:0<=i/\i<(n:Int)):Y0 P N ⟨dst,.load t x,ty,pos,af,g⟩ fr (St w0 G0 G L) (Value.int d (Ζ f i)):=Y0.ia h.h m (a _ _ _ (l i.toNat _ (tE _ _ _ e)))
theorem ZBh{id:Nat}{a b:Code}(h:WC P N (.seq a b) (Exit.inBlock id Q) fr S):WC P N (.block id (.seq a b)) Q fr S:=WC.block h
theorem ZBg{id i:Nat}{a:Array Oper}{b:Bool}(h:WC P N (.region i a b) (Exit.inBlock id Q) fr S):WC P N (.block id (.region i a b)) Q fr S:=WC.block h
theorem ZBL{t:TypeId}(h:Y0 P N ⟨dst,.load t x,ty,pos,af,g⟩ fr S v):Y0 P N ⟨dst,.load t x,ty,pos,af,g⟩ fr S v:=h
theorem ZBl{o:BinOp}{t yt:TypeId}(h:Y0 P N ⟨dst,.binOp o t x y yt,ty,pos,af,g⟩ fr S v):Y0 P N ⟨dst,.binOp o t x y yt,ty,pos,af,g⟩ fr S v:=h
theorem ZBK{b:Builtin}{xs:Array Operand}{a:Array TypeId}(h:Y0 P N ⟨dst,.call ⟨.builtin b,xs,a⟩,ty,pos,af,g⟩ fr S v):Y0 P N ⟨dst,.call ⟨.builtin b,xs,a⟩,ty,pos,af,g⟩ fr S v:=h
theorem ZBJ(h:WL P N ops Q l fr S):WL P N ops Q l fr S:=h
theorem jn1{a b c d:Code}{o:Operand}(h:WC P N (.seq (.seq a (.cond o b c)) d) Q fr S):WC P N (.seq (.seq a (.cond o b c)) d) Q fr S:=h
theorem jn2{b c d:Code}{o:Operand}(h:WC P N (.seq (.cond o b c) d) Q fr S):WC P N (.seq (.cond o b c) d) Q fr S:=h
theorem ZBH{c:Code}(h:WC P N c Q fr S):WC P N c Q fr S:=h
theorem ZBI{e:Exit}(h:WE N Q e fr S):WE N Q e fr S:=h
theorem ZBG{Bt:Ξ}{fs:Ŀ Bool}{Ι:Fr}{Ρ:jr}(h:γ P N Q fr w0 G0 G L ops Bt fs l Ι Ρ):γ P N Q fr w0 G0 G L ops Bt fs l Ι Ρ:=h
theorem tw{o:Oper} (h:Y0 P N o fr S v:=by
 first
 |((with_reducible apply Y0.move);exact rfl)
 |((with_reducible apply Y0.eU);exact rfl;exact rfl)
 |((with_reducible apply Y0.om);exact rfl;exact rfl)
 |((with_reducible apply ZBT);exact rfl)
 | ((with_reducible apply ZBL);first
  |((with_reducible apply YK);exact rfl;(focus ((repeat (first|exact lh|apply lt));all_goals exact rfl));exact rfl)
  |((with_reducible apply Zzk);exact rfl;(focus ((repeat (first|exact lh|apply lt));all_goals exact rfl));first|exact rfl|exact Zz _ _ _)
  |((with_reducible apply Zzo);exact rfl;(focus ((repeat (first|exact lh|apply lt));all_goals exact rfl));assumption)
  |((with_reducible apply Zzn);exact rfl;(focus ((repeat (first|exact lh|apply lt));all_goals exact rfl));assumption)
  |((with_reducible apply Zzl);exact rfl;(focus ((repeat (first|exact lh|apply lt));all_goals exact rfl));exact rfl;first|exact rfl|exact xx _ _ _)
  |((with_reducible apply Zzm);exact rfl;(focus ((repeat (first|exact lh|apply lt));all_goals exact rfl));exact rfl;exact rfl)
  |((with_reducible apply YJ);exact rfl;first|exact gz|exact gz1)
  |((with_reducible apply Zzi);exact rfl;(with_reducible assumption);exact uN;exact rfl;first|exact rfl|exact xx _ _ _)
  |((with_reducible apply Zzj);exact rfl;(with_reducible assumption);exact uN;exact rfl;exact rfl)
  |((with_reducible apply ZxU);exact rfl;(with_reducible assumption);exact uN;assumption)
  |((with_reducible apply Zzh);exact rfl;exact gzA;(first|exact rfl|exact Zz _ _ _))
  )
 | ((with_reducible apply ZBl);first
  |((with_reducible apply Y0.add);exact rfl;exact rfl)
  |((with_reducible apply Y0.lss);exact rfl;exact rfl)
  |((with_reducible apply Y0.eql);exact rfl;exact rfl)
  |((with_reducible apply Y0.gtr);exact rfl;exact rfl)
  |((with_reducible apply Y0.neq);exact rfl;exact rfl)
  |((with_reducible apply Y0.sub);exact rfl;exact rfl)
  |((with_reducible apply Y0.geq);exact rfl;exact rfl)
  |((with_reducible apply Y0.leq);exact rfl;exact rfl)
  |((with_reducible apply Y0.mul);exact rfl;exact rfl)
  |((with_reducible apply YI);exact rfl;exact rfl)
  |((with_reducible apply ZBd);exact rfl;exact rfl)
  |((with_reducible apply ZBa);exact rfl;exact rfl)
  |((with_reducible apply ZBb);kernel_rfl;exact rfl;exact rfl)
  |((with_reducible apply ZBe);kernel_rfl;exact rfl;exact rfl)
  |((with_reducible apply Y0.shl);exact rfl;exact rfl;decide)
  |((with_reducible apply Y0.shr);exact rfl;exact rfl;decide)
  |((with_reducible apply Y0.and);exact rfl;exact rfl)
  |((with_reducible apply Y0.or);exact rfl;exact rfl)
  |((with_reducible apply Y0.rem);exact rfl;exact rfl;decide)
  |((with_reducible apply Y0.quo);exact rfl;exact rfl;decide)
  )
 | ((with_reducible apply ZBK);first
  |((with_reducible apply ZBy);exact rfl)
  |((with_reducible apply ZBx);exact rfl)
  |((with_reducible apply ZBc);exact rfl)
  |((with_reducible apply Y0.max2);exact rfl;exact rfl)
  |((with_reducible apply Y0.min2);exact rfl;exact rfl)
  )
 |((with_reducible apply Zzf);(intro _;kernel_rfl))
 |((with_reducible apply ZAz);exact rfl;(first|exact rfl|simp[sc,Value.cells]);(intro _;kernel_rfl);exact rfl)
 |((with_reducible apply YF);exact rfl;exact rfl;(intro _;kernel_rfl))
 |((with_reducible apply YG);exact rfl;exact rfl;exact rfl;exact rfl;(intro _;kernel_rfl))
 |((with_reducible apply Y0.extract);exact rfl;exact rfl)
 |((with_reducible apply Y0.C7);exact rfl)
 |((with_reducible apply Y0.not);exact rfl)
 |((with_reducible apply YH);exact rfl)
 |((with_reducible apply Y0.assign);exact rfl)
 |((with_reducible apply Y0.neg);exact rfl)
 |((with_reducible apply Y0.nilCheck);exact rfl)
 |((with_reducible apply Zwd);exact rfl;exact rfl)):Y0 P N o fr S v:=h
structure Jh (q:Prop):Prop where
 h:q
theorem XU{p:Prop} (h:p:=by
  (try dsimp only at *);repeat' (first
    | ((with_reducible apply ZBJ);first
      |((with_reducible apply ZBz);exact rfl;exact rfl)
      |((with_reducible apply ZBA);exact rfl;exact rfl)
      |(with_reducible apply nx)
      |(with_reducible apply nr)
      |((with_reducible apply sk);exact rfl;exact rfl;exact rfl)
      |((with_reducible apply sf);exact rfl;exact rfl;exact rfl)
      |(guard_hyp zs;(with_reducible apply ZBm);exact hr;exact tw;exact rfl;((try clear hr);intro _ hr);rotate_left;((try clear hr);intro _ hr))
      |(guard_hyp zs;(with_reducible apply Yz);exact hr;exact rfl;exact rfl;exact tw;exact rfl;((try clear hr);intro _ hr);rotate_left;((try clear hr);intro _ hr))
      |((with_reducible apply yy);exact tw;exact rfl)
      |((with_reducible apply gy);exact rfl;exact rfl;exact tw;exact rfl)
      |(with_reducible apply WL.nil)
      |((with_reducible apply Zy9);exact rfl;exact rfl;(focus ((repeat (first|exact lh|apply lt));all_goals exact rfl));exact rfl;exact rfl)
      |((with_reducible apply ZBf);exact rfl;exact rfl;intro _)
      |((with_reducible apply ZxL);exact rfl;exact rfl;(focus ((repeat (first|exact lh|apply lt));all_goals exact rfl));(first|exact rfl|exact Zz _ _ _);(first|exact rfl|exact Zz _ _ _);(first|exact rfl|exact c|exact a))
      |(revert hr;refine qi λ_ zh hr=>?_;(with_reducible apply ZAr);exact uo İ;exact rfl;apply(SpcM.h zh);exact rfl)
      |(revert hr;refine qi λ_ zh hr=>?_;(with_reducible apply Zy7);exact uo İ;exact rfl;exact rfl;exact rfl;apply(SpcM.h zh);exact rfl)
      | (revert hr;refine qi λ_ zh hr=>?_;(with_reducible apply YD);exact uo İ;exact rfl;apply(SpcM.h zh);exact rfl;rotate_left 1;intro _ _ _ zp
         first
           |(obtain⟨_,_,rfl,_⟩:=zp)
           |(obtain⟨_,_,_,_,rfl,_,_⟩:=zp)
           |(obtain⟨_,_,_,_,_,_,rfl,_,_,_⟩:=zp)
           |(obtain⟨_,_,_,_,_,_,_,_,rfl,_,_,_,_⟩:=zp))
      | (revert hr;refine qi λ_ zh hr=>?_;(with_reducible apply ZBt);exact rfl;exact rfl;exact zh;exact zW;infer_instance;exact rfl;exact rfl;intro zh
         (repeat (first|with_reducible refine vK zh λ_ zh=>?_|with_reducible refine zQ zh λ_ zh=>?_)))
      |((with_reducible apply ZAq);exact rfl;intro _)
      |(revert hr;refine HX λzh hr=>?_;first|((with_reducible apply yy);(first|((with_reducible apply Gl);exact rfl;exact rfl;exact zh)|((with_reducible apply GL);exact rfl;exact rfl;exact zh)|((with_reducible apply Gm);exact rfl;exact rfl;exact zh)|((with_reducible apply GN);exact rfl;exact rfl;exact zh)|((with_reducible apply Y0.shl);exact rfl;exact rfl;exact zh)|((with_reducible apply Y0.rem);exact rfl;exact rfl;exact zh)|((with_reducible apply Y0.quo);exact rfl;exact rfl;exact zh)|((with_reducible apply FL);exact rfl;exact rfl;exact zh)|((with_reducible apply FK);exact rfl;exact rfl;exact zh)|((with_reducible apply F9);exact rfl;exact rfl;exact zh));exact rfl)|((with_reducible apply gy);exact rfl;exact rfl;(first|((with_reducible apply Gl);exact rfl;exact rfl;exact zh)|((with_reducible apply GL);exact rfl;exact rfl;exact zh)|((with_reducible apply Gm);exact rfl;exact rfl;exact zh)|((with_reducible apply GN);exact rfl;exact rfl;exact zh)|((with_reducible apply Y0.shl);exact rfl;exact rfl;exact zh)|((with_reducible apply Y0.rem);exact rfl;exact rfl;exact zh)|((with_reducible apply Y0.quo);exact rfl;exact rfl;exact zh)|((with_reducible apply FL);exact rfl;exact rfl;exact zh)|((with_reducible apply FK);exact rfl;exact rfl;exact zh)|((with_reducible apply F9);exact rfl;exact rfl;exact zh));exact rfl))
      | (revert hr;refine qi λ_ zh hr=>?_;(with_reducible apply YE);exact rfl;exact rfl;exact rfl;exact rfl;exact zh;exact zW;infer_instance;exact rfl;exact rfl;intro zh
         (repeat (first|with_reducible refine vK zh λ_ zh=>?_|with_reducible refine zQ zh λ_ zh=>?_)))
      |(guard_hyp zs;(with_reducible apply ZBi);exact hr;exact rfl;exact rfl;((try clear hr);intro hr);rotate_left;((try clear hr);intro hr))
      |((with_reducible apply ZxN);exact rfl;exact rfl;(focus ((repeat (first|exact lh|apply lt));all_goals exact rfl));assumption)
      |((with_reducible apply ZxM);exact rfl;exact rfl;(focus ((repeat (first|exact lh|apply lt));all_goals exact rfl));assumption)
      |((with_reducible apply ZBu);infer_instance;exact rfl;(focus ((repeat (first|exact ZyT|(apply Zxv;(first|exact rfl|(apply MM;exact gN;exact rfl)|exact Ou))));fail_if_success refine ?_));exact rfl;exact rfl;decide;(intro _;kernel_rfl);assumption;exact rfl;exact rfl;exact rfl;intro _ _ _ _)
      |(revert hr;refine HX λzh hr=>?_;(with_reducible apply YB);exact rfl;exact rfl;(first|exact zU|exact Β.nil);(focus ((repeat (first|exact lh|apply lt));all_goals exact rfl));exact gN;exact zh;exact rfl;exact rfl;decide;exact rfl;intro _ _ _ _)
      | (revert hr;refine qi λ_ zh hr=>?_;(with_reducible apply ZAt);exact uo İ;exact rfl;exact rfl;exact rfl;apply(SpcM.h zh);exact rfl;rotate_left 1;intro _ _ _ zp
         (first
           |(obtain⟨_,_,rfl,_⟩:=zp)
           |(obtain⟨_,_,_,_,rfl,_,_⟩:=zp)
           |(obtain⟨_,_,_,_,_,_,rfl,_,_,_⟩:=zp)
           |(obtain⟨_,_,_,_,_,_,_,_,rfl,_,_,_,_⟩:=zp)))
      |(revert hr;refine qi λ_ zh hr=>?_;(with_reducible apply Zy8);exact rfl;exact uo İ;exact rfl;apply(SpcM.h zh);exact rfl)
      |(revert hr;refine qi λ_ zh hr=>?_;(with_reducible apply yy);((with_reducible apply Zzg);exact rfl;exact rfl;exact zU;exact zh);exact rfl)
      |((with_reducible apply Zza);exact rfl;exact rfl;exact zU;(focus ((repeat (first|exact lh|apply lt));all_goals exact rfl));exact rfl;exact rfl;(first|exact rfl|(apply MM;exact gN;exact rfl)|exact Ou);assumption;intro _ _)
      |(revert hr;refine HX λzh hr=>?_;(with_reducible apply ZAv);infer_instance;exact rfl;exact rfl;exact zh;exact rfl;exact rfl;exact rfl;exact rfl;exact rfl;(first|exact rfl|(apply MM;exact gN;exact rfl)|exact Ou);intro _ _ _)
      | (revert hr;refine qi λ_ zh hr=>?_;(with_reducible apply ZAs);exact uo İ;exact rfl;apply(SpcM.h zh);rotate_left 1;exact rfl;((with_reducible apply ls1);(focus ((repeat (first|exact lh|apply lt));all_goals exact rfl)));exact tS;rotate_left 1;intro _ _ _ _ zp
         (obtain⟨_,_,_,rfl,rfl,_⟩:=zp))
      |exact(show False from hr).elim
      |(guard_hyp zs;refine MS hr ?_ ?_<;>((try clear hr);intro zh hr;subst zh))
      |(guard_hyp zs;refine MR hr ?_ ?_<;>((try clear hr);intro zh _ hr;rw[zh]))
      )
    | ((with_reducible apply ZBI);first
      |(with_reducible apply WE.then)
      |(with_reducible apply WE.gC)
      |(with_reducible apply WE.ä)
      |(with_reducible apply WE.inBlock)
      |(with_reducible apply WE.gw)
      |(with_reducible apply WE.Í)
      |(with_reducible apply WE.nx)
      |(with_reducible apply WE.sp)
      |((with_reducible apply Ö);exact hr;exact rfl;exact rfl)
      |((with_reducible apply WE.ja);exact rfl;exact yu;(rewrite [<-(show _=r from hr)]);first|exact rfl|exact⟨_,_,rfl,gN⟩|exact⟨_,_,rfl,HZ⟩|exact⟨_,_,_,_,rfl,gN,gN⟩|exact⟨_,_,_,_,_,_,rfl,gN,gN,gN⟩|exact⟨_,_,_,_,_,_,_,_,rfl,gN,gN,gN,gN⟩)
      |((with_reducible apply WE.uX);exact rfl;exact yu;exact yu;(rewrite [<-(show _=r from hr)]);first|exact rfl|exact⟨_,_,rfl,gN⟩|exact⟨_,_,rfl,HZ⟩|exact⟨_,_,_,_,rfl,gN,gN⟩|exact⟨_,_,_,_,_,_,rfl,gN,gN,gN⟩|exact⟨_,_,_,_,_,_,_,_,rfl,gN,gN,gN,gN⟩)
      |((with_reducible apply WE.Dp);exact rfl;exact yu;exact yu;exact yu;(rewrite [<-(show _=r from hr)]);first|exact rfl|exact⟨_,_,rfl,gN⟩|exact⟨_,_,rfl,HZ⟩|exact⟨_,_,_,_,rfl,gN,gN⟩|exact⟨_,_,_,_,_,_,rfl,gN,gN,gN⟩)
      |((with_reducible apply wr_);exact rfl;exact yu;((rewrite [<-(show _=r from hr)]);exact⟨_,_,_,rfl,rfl,zU⟩);(focus ((repeat (first|exact lh|apply lt));all_goals exact rfl)))
      |(with_reducible apply WE.jb)
      |((with_reducible apply NS);(first|refine qP (x':=⟨_,_,_,_,_,_,_,_,_,_,_,_⟩) hr ⟨Æ rfl,wk iW,?_⟩|refine qP (x':=⟨_,_,_,_,_,_,_,_,_,_,_⟩) hr ⟨Æ rfl,wk iW,?_⟩|refine qP (x':=⟨_,_,_,_,_,_,_,_,_,_⟩) hr ⟨Æ rfl,wk iW,?_⟩|refine qP (x':=⟨_,_,_,_,_,_,_,_,_⟩) hr ⟨Æ rfl,wk iW,?_⟩|refine qP (x':=⟨_,_,_,_,_,_,_,_⟩) hr ⟨Æ rfl,wk iW,?_⟩|refine qP (x':=⟨_,_,_,_,_,_,_⟩) hr ⟨Æ rfl,wk iW,?_⟩|refine qP (x':=⟨_,_,_,_,_,_⟩) hr ⟨Æ rfl,wk iW,?_⟩|refine qP (x':=⟨_,_,_,_,_⟩) hr ⟨Æ rfl,wk iW,?_⟩|refine qP (x':=⟨_,_,_,_⟩) hr ⟨Æ rfl,wk iW,?_⟩|refine qP (x':=⟨_,_,_⟩) hr ⟨Æ rfl,wk iW,?_⟩|refine qP (x':=⟨_,()⟩) hr ⟨Æ rfl,wk iW,?_⟩|refine qP (x':=⟨_,_⟩) hr ⟨Æ rfl,wk iW,?_⟩|refine qP (x':=_) hr ⟨Æ rfl,wk iW,?_⟩);(try dsimp only))
      |((with_reducible apply NT);(first|refine qQ (x':=⟨_,_,_,_,_,_,_,_,_,_,_,_⟩) hr ⟨Æ rfl,wk iW,?_⟩|refine qQ (x':=⟨_,_,_,_,_,_,_,_,_,_,_⟩) hr ⟨Æ rfl,wk iW,?_⟩|refine qQ (x':=⟨_,_,_,_,_,_,_,_,_,_⟩) hr ⟨Æ rfl,wk iW,?_⟩|refine qQ (x':=⟨_,_,_,_,_,_,_,_,_⟩) hr ⟨Æ rfl,wk iW,?_⟩|refine qQ (x':=⟨_,_,_,_,_,_,_,_⟩) hr ⟨Æ rfl,wk iW,?_⟩|refine qQ (x':=⟨_,_,_,_,_,_,_⟩) hr ⟨Æ rfl,wk iW,?_⟩|refine qQ (x':=⟨_,_,_,_,_,_⟩) hr ⟨Æ rfl,wk iW,?_⟩|refine qQ (x':=⟨_,_,_,_,_⟩) hr ⟨Æ rfl,wk iW,?_⟩|refine qQ (x':=⟨_,_,_,_⟩) hr ⟨Æ rfl,wk iW,?_⟩|refine qQ (x':=⟨_,_,_⟩) hr ⟨Æ rfl,wk iW,?_⟩|refine qQ (x':=⟨_,()⟩) hr ⟨Æ rfl,wk iW,?_⟩|refine qQ (x':=⟨_,_⟩) hr ⟨Æ rfl,wk iW,?_⟩|refine qQ (x':=_) hr ⟨Æ rfl,wk iW,?_⟩);(try dsimp only))
      |((with_reducible apply NU);(first|refine qR (x':=⟨_,_,_,_,_,_,_,_,_,_,_,_⟩) hr ⟨Æ rfl,wk iW,?_⟩|refine qR (x':=⟨_,_,_,_,_,_,_,_,_,_,_⟩) hr ⟨Æ rfl,wk iW,?_⟩|refine qR (x':=⟨_,_,_,_,_,_,_,_,_,_⟩) hr ⟨Æ rfl,wk iW,?_⟩|refine qR (x':=⟨_,_,_,_,_,_,_,_,_⟩) hr ⟨Æ rfl,wk iW,?_⟩|refine qR (x':=⟨_,_,_,_,_,_,_,_⟩) hr ⟨Æ rfl,wk iW,?_⟩|refine qR (x':=⟨_,_,_,_,_,_,_⟩) hr ⟨Æ rfl,wk iW,?_⟩|refine qR (x':=⟨_,_,_,_,_,_⟩) hr ⟨Æ rfl,wk iW,?_⟩|refine qR (x':=⟨_,_,_,_,_⟩) hr ⟨Æ rfl,wk iW,?_⟩|refine qR (x':=⟨_,_,_,_⟩) hr ⟨Æ rfl,wk iW,?_⟩|refine qR (x':=⟨_,_,_⟩) hr ⟨Æ rfl,wk iW,?_⟩|refine qR (x':=⟨_,()⟩) hr ⟨Æ rfl,wk iW,?_⟩|refine qR (x':=⟨_,_⟩) hr ⟨Æ rfl,wk iW,?_⟩|refine qR (x':=_) hr ⟨Æ rfl,wk iW,?_⟩);(try dsimp only))
      |exact(show False from hr).elim
      )
    | ((with_reducible apply ZBH);first
      |((first|guard_hyp zs|(fail_if_success with_reducible apply jn1;fail_if_success with_reducible apply jn2));first|(with_reducible apply sr)|(with_reducible apply WC.seq))
      |(with_reducible apply WC.skip)
      |(with_reducible apply WC.ret)
      |(guard_hyp zs;(with_reducible apply ZBB);exact hr;exact rfl;((try clear hr);intro _ hr);rotate_left;((try clear hr);intro _ hr))
      |(guard_hyp zs;(with_reducible apply WC.V7);exact hr;exact rfl;((try clear hr);intro _ hr);rotate_left;((try clear hr);intro _ hr))
      |(with_reducible apply WC.region)
      |(with_reducible apply ZBh)
      |(with_reducible apply ZBg)
      |(with_reducible apply WC.exit)
      |((with_reducible apply WC.pW);exact rfl)
      |((with_reducible apply WC.pV);exact rfl)
      |((with_reducible apply ZAu);exact rfl;(repeat ((with_reducible apply ZBD);decide +kernel));(with_reducible apply ZBC);decide +kernel;intro _)
      |exact(show False from hr).elim
      |(guard_hyp zs;refine MS hr ?_ ?_<;>((try clear hr);intro zh hr;subst zh))
      |(guard_hyp zs;refine MR hr ?_ ?_<;>((try clear hr);intro zh _ hr;rw[zh]))
      )
    | ((with_reducible apply ZBG);first
      |(guard_hyp zs;(with_reducible apply ZBj);exact hr;(intro _ _;exact tw);((try clear hr);intro _ hr);rotate_left;((try clear hr);intro _ hr))
      |(guard_hyp zs;(with_reducible apply Y7);exact hr;exact rfl;exact rfl;(intro _ _;exact tw);((try clear hr);intro _ hr);rotate_left;((try clear hr);intro _ hr))
      |((with_reducible apply WA);(intro _ _;exact tw))
      |((with_reducible apply cy);exact rfl;exact rfl;(intro _ _;exact tw))
      |((with_reducible apply ct);exact rfl;exact rfl)
      |((with_reducible apply cf);exact rfl;exact rfl)
      |((with_reducible apply cs);exact rfl;exact rfl)
      |((with_reducible apply γ.l6);assumption)
      |(revert hr;refine qi λ_ zh hr=>?_;(with_reducible apply ZzW);exact uo İ;exact rfl;apply(SpcM.h zh);(intro _ _))
      |(revert hr;refine qi λ_ zh hr=>?_;(with_reducible apply Zyr);exact uo İ;exact rfl;exact rfl;exact rfl;apply(SpcM.h zh);(intro _ _))
      | (revert hr;refine qi λ_ zh hr=>?_;(with_reducible apply ZBk);exact rfl;exact rfl;exact zh;exact zW;infer_instance;exact rfl;intro zh
         (repeat (first|with_reducible refine vK zh λ_ zh=>?_|with_reducible refine zQ zh λ_ zh=>?_)))
      |(revert hr;refine HX λzh hr=>?_;first|((with_reducible apply WA);(intro _ _;first|((with_reducible apply Gl);exact rfl;exact rfl;exact zh)|((with_reducible apply GL);exact rfl;exact rfl;exact zh)|((with_reducible apply Gm);exact rfl;exact rfl;exact zh)|((with_reducible apply GN);exact rfl;exact rfl;exact zh)|((with_reducible apply Y0.shl);exact rfl;exact rfl;exact zh)|((with_reducible apply Y0.rem);exact rfl;exact rfl;exact zh)|((with_reducible apply Y0.quo);exact rfl;exact rfl;exact zh)|((with_reducible apply FL);exact rfl;exact rfl;exact zh)|((with_reducible apply FK);exact rfl;exact rfl;exact zh)|((with_reducible apply F9);exact rfl;exact rfl;exact zh)))|((with_reducible apply cy);exact rfl;exact rfl;(intro _ _;first|((with_reducible apply Gl);exact rfl;exact rfl;exact zh)|((with_reducible apply GL);exact rfl;exact rfl;exact zh)|((with_reducible apply Gm);exact rfl;exact rfl;exact zh)|((with_reducible apply GN);exact rfl;exact rfl;exact zh)|((with_reducible apply Y0.shl);exact rfl;exact rfl;exact zh)|((with_reducible apply Y0.rem);exact rfl;exact rfl;exact zh)|((with_reducible apply Y0.quo);exact rfl;exact rfl;exact zh)|((with_reducible apply FL);exact rfl;exact rfl;exact zh)|((with_reducible apply FK);exact rfl;exact rfl;exact zh)|((with_reducible apply F9);exact rfl;exact rfl;exact zh))))
      | (revert hr;refine qi λ_ zh hr=>?_;(with_reducible apply Y8);exact rfl;exact rfl;exact rfl;exact rfl;exact zh;exact zW;infer_instance;exact rfl;intro zh
         (repeat (first|with_reducible refine vK zh λ_ zh=>?_|with_reducible refine zQ zh λ_ zh=>?_)))
      |(revert hr;refine qi λ_ zh hr=>?_;(with_reducible apply ZzX);exact uo İ;(intro _;exact rfl);apply(SpcM.h zh);exact ZBo;(intro _ _))
      |((with_reducible apply ZBF);(intro _ _ _;exact tw))
      |((with_reducible apply h_f);exact tw)
      |((with_reducible apply ZBE);(intro _;exact tw))
      | ((with_reducible apply γ.pz);intro _ _ _ zp;(first
           |(obtain⟨_,_,rfl,_⟩:=zp)
           |(obtain⟨_,_,_,_,rfl,_,_⟩:=zp)
           |(obtain⟨_,_,_,_,_,_,rfl,_,_,_⟩:=zp)
           |(obtain⟨_,_,_,_,_,_,_,_,rfl,_,_,_,_⟩:=zp)))
      | ((with_reducible apply γ.tg);intro _ _ _ _ zp zq;(first
           |(obtain⟨_,_,rfl,_⟩:=zp)
           |(obtain⟨_,_,_,_,rfl,_,_⟩:=zp)
           |(obtain⟨_,_,_,_,_,_,rfl,_,_,_⟩:=zp)
           |(obtain⟨_,_,_,_,_,_,_,_,rfl,_,_,_,_⟩:=zp));(first
           |(obtain⟨_,_,rfl,_⟩:=zq)
           |(obtain⟨_,_,_,_,rfl,_,_⟩:=zq)
           |(obtain⟨_,_,_,_,_,_,rfl,_,_,_⟩:=zq)
           |(obtain⟨_,_,_,_,_,_,_,_,rfl,_,_,_,_⟩:=zq)))
      |exact(show False from hr).elim
      |(guard_hyp zs;refine MS hr ?_ ?_<;>((try clear hr);intro zh hr;subst zh))
      |(guard_hyp zs;refine MR hr ?_ ?_<;>((try clear hr);intro zh _ hr;rw[zh]))
      )
    |((with_reducible apply en0);exact rfl;exact rfl;exact rfl;exact rfl;intro _ _ _ zh;(repeat (first|with_reducible refine vK zh λ_ zh=>?_|with_reducible refine zQ zh λ_ zh=>?_)))
    |((with_reducible apply en1);exact rfl;exact rfl;exact rfl;exact rfl;intro _ _ _ zh;(repeat (first|with_reducible refine vK zh λ_ zh=>?_|with_reducible refine zQ zh λ_ zh=>?_)))
    |exact uN
    |exact trivial
    |exact zW
    |exact XR
    |exact zU
    |((with_reducible apply Tok.full))
    |(with_reducible assumption)
    |exact Β.nil
    |(with_reducible apply And.intro)
    )
  first
  |fail_if_success refine ?_
  | ((try (revert zh;have zc:=zk;clear zc))
     (try (revert zp;have zc:=zk;clear zc))
     (try (revert hr;have zc:=zk;clear zc))
     (repeat (rename_i zx;revert zx;have zc:=zk;clear zc))
     exact zk.h
     fail_if_success refine ?_)):p:=h
theorem Ν{p q:Prop}(k:q) (h:Jh q->Jh True->p:=by
 intro zk zs;(try have hr:=hr);exact XU):p:=h ⟨k⟩ ⟨trivial⟩
theorem æ{p q:Prop}(k:q) (h:Jh q->p:=by
 intro zk;(try have hr:=hr);exact XU):p:=h ⟨k⟩
theorem Η{p:Prop}(h:p:=by exact Ν trivial):p:=h
end
abbrev tr:Mem->Prop:=λ_=>True
def Fr.pick(fr:Fr):Ŀ Nat->ŀ Fr
 |[]=>some []
 |t::a=>match fr.get t with
  |some v=>match Fr.pick fr a with
   |some r=>some ((t,v)::r)
   |none=>none
  |none=>none
theorem Fr.Bq{fr:Fr}:∀{a:Ŀ Nat}{A:Fr},fr.pick a=some A->Fr.sub A fr
 |[],A,h=>by simp only[Fr.pick,Đ]at h;subst h;exact Fr.Zq _
 |t::a,A,h=>by
  unfold Fr.pick at h;split at h
  .rename_i v c;split at h
   .rename_i r hr;simp only[Đ]at h;subst h;exact Fr.Zi c (Fr.Bq hr)
   cases h
  cases h
def Lo.find:Lo->Nat->ŀ (ŀ Ow)
 |[],_=>none
 |p::r,i=>bif Nat.beq p.1 i then some p.2 else Lo.find r i
theorem Lo.TS:∀{L:Lo}{i:Nat}{x:ŀ Ow},L.find i=some x->L.get i=x
 |[],i,x,h=>by cases h
 |p::r,i,x,h=>by
  unfold Lo.find at h;show(bif Nat.beq p.1 i then p.2 else Lo.get r i)=x;cases a:Nat.beq p.1 i with
  |true=>rw[a]at h;simpa using h
  |false=>rw[a]at h;exact Lo.TS h
def Lo.pick(L:Lo):Ŀ Nat->ŀ Lo
 |[]=>some []
 |i::a=>match L.find i with
  |some x=>match Lo.pick L a with
   |some r=>some ((i,x)::r)
   |none=>none
  |none=>none
theorem Lo.Bq{L:Lo}:∀{a:Ŀ Nat}{A:Lo},L.pick a=some A->Lo.sub A L
 |[],A,h=>by simp only[Lo.pick,Đ]at h;subst h;exact Lo.Zq _
 |t::a,A,h=>by
  unfold Lo.pick at h;split at h
  .rename_i v c;split at h
   .rename_i r hr;simp only[Đ]at h;subst h;exact Lo.Zi (Lo.TS c) (Lo.Bq hr)
   cases h
  cases h
theorem Fr.ZAp{A B fr:Fr}(c:Fr.sub A fr)(h2:Fr.sub B fr):Fr.sub (A++B) fr:=by
 intro t v h;rw[Fr.get_append]at h;cases a:A.get t with
 |some x=>rw[a]at h;exact c t v (by rw[a];simpa using h)
 |none=>rw[a]at h;exact h2 t v (by simpa using h)
theorem Lo.UC:∀{A B L:Lo},(∀p∈A,L.get p.1=p.2)->Lo.sub B L->Lo.sub (A++B) L
 |[],_,_,_,h2=>h2
 |p::A,B,L,a,h2=>Lo.Zi (a p ß) (Lo.UC (λq c=>a q (by simp[c])) h2)
theorem ZAn{A L:Lo}(h:A.map (λp=>L.get p.1)=A.map (λp=>p.2)):∀p∈A,L.get p.1=p.2:=by
 induction A with
 |nil=>intro p hp;cases hp
 |cons q A a=>
  simp only[ġ,Œ]at h;intro p hp;rcases Ď.1 hp with rfl|hp
  .exact h.1
  exact a h.2 p hp
section
variable {P:Program}{N:Nat}{Q:ï}{fr:Fr}{w0:Bs}{G0 G:Mem}{L:Lo}
theorem WC.mL{X Y σ ρ β:Type}{id:Nat}{c:Code}{step:σ->Cq (σ⊕ρ)}{f:σ}{k:ρ->Cq β}{Ψ:β->Prop}{f1 f2:Fr}{i j:Lo}(t:((Cq.loop step f).next k).wp Ψ)(a b a' b':Ŀ Nat)
  (g:X->σ×Fr×(Mem->Prop)×Lo) (e:Y->ρ×Fr×(Mem->Prop)×Lo) (d:X) (l:(fr.pick a,L.pick b,fr.pick a',L.pick b')=(some f1,some i,some f2,some j)) (q:(g d).1=f)
  (r:(g d).2.1.map (λp=>fr.get p.1)=(g d).2.1.map (λp=>some p.2)) (s:(g d).2.2.2.map (λp=>L.get p.1)=(g d).2.2.2.map (λp=>p.2)) (hH:(g d).2.2.1 G)
  (round:∀(A:σ->Prop) G' x,Mem.le G G'->(g x).2.2.1 G'->(step (g x).1).wp (Out A λo=>(k o).wp Ψ)->
   WC P N c (Exit.then (jv N (λy:Mem×X=>(g y.2).2.1++f1) (λy=>Mem.le G y.1/\(g y.2).2.2.1 y.1) (λy=>St w0 G0 y.1 ((g y.2).2.2.2++i)) (λy=>(g y.2).1) A)
    (Exit.inBlock id (ll N (λy:Mem×Y=>(e y.2).2.1++f2) (λy=>(k (e y.2).1).wp Ψ/\Mem.le G y.1/\(e y.2).2.2.1 y.1) (λy=>St w0 G0 y.1 ((e y.2).2.2.2++j)) Q))) ((g x).2.1++f1) (St w0 G0 G' ((g x).2.2.2++i)))
  (h2:∀G' z,(k (e z).1).wp Ψ->Mem.le G G'->(e z).2.2.1 G'->WE N Q .normal ((e z).2.1++f2) (St w0 G0 G' ((e z).2.2.2++j))):WC P N (.block id (.loop c)) Q fr (St w0 G0 G L):=by
 have m:=Fr.Bq (Ē (·.1) l)
 have n:=Lo.Bq (Ē (·.2.1) l)
 exact WC.wq (X:=Mem×X) (Y:=Mem×Y) t (λy=>⟨(g y.2).1,(g y.2).2.1++f1,Mem.le G y.1/\(g y.2).2.2.1 y.1,St w0 G0 y.1 ((g y.2).2.2.2++i)⟩) (λy=>⟨(e y.2).1,(e y.2).2.1++f2,Mem.le G y.1/\(e y.2).2.2.1 y.1,St w0 G0 y.1 ((e y.2).2.2.2++j)⟩) (G,d) q
  (Fr.ZAp (Æ r) m) ⟨Mem.le_refl _,hH⟩ (λw h=>h.weaken (Lo.UC (ZAn s) n))
  (λA x h hr=>round A x.1 x.2 h.1 h.2 hr) (λz h=>h2 z.1 z.2 h.1 h.2.1 h.2.2)
theorem G8{p:Prop} (h:p:=by
 (try dsimp only);(repeat' (first
  |with_reducible exact trivial
  |exact gN
  |exact zU
  |(with_reducible apply Tok.full)
  |exact Β.nil
  |(with_reducible assumption)
  |with_reducible apply And.intro
  |exact HZ
  |assumption))
 fail_if_success refine ?_):p:=h
theorem px{α β:Type}{p:α×β->Prop}(h:∀a b,p (a,b)):∀x,p x:=λx=>h x.1 x.2
theorem rd{p:Prop} (h:p:=by
 intro _ _;(repeat (refine px ?_;intro _));intro _ zl zi hr;(try dsimp only at zi);(repeat (with_reducible refine vK zi λ_ zi=>?_));exact Η):p:=h
theorem rs{p:Prop} (h:p:=by
 intro _;(repeat (refine px ?_;intro _));intro _ hr zl zi;(try dsimp only at zi);(repeat (with_reducible refine vK zi λ_ zi=>?_));exact Η):p:=h
theorem WC.mA{X Y σ ρ β:Type}{id:Nat}{c:Code}{step:σ->Cq (σ⊕ρ)}{f:σ}{k:ρ->Cq β}{Ψ:β->Prop}{f1 f2:Fr}{h i:Lo}(q:((Cq.loop step f).next k).wp Ψ)(a b a' b':Ŀ Nat)
  (g:X->σ×Fr×(Mem->Prop)×Lo) (e:Y->ρ×Fr×(Mem->Prop)×Lo) (d:X) (n:(fr.pick a,L.pick b,fr.pick a',L.pick b')=(some f1,some h,some f2,some i):=by exact rfl) (j:(g d).1=f:=by exact rfl) (l:(g d).2.1.map (λp=>fr.get p.1)=(g d).2.1.map (λp=>some p.2):=by exact rfl) (m:(g d).2.2.2.map (λp=>L.get p.1)=(g d).2.2.2.map (λp=>p.2):=by exact rfl) (hH:(g d).2.2.1 G:=by exact G8)
  (round:∀(A:σ->Prop) G' x,Mem.le G G'->(g x).2.2.1 G'->(step (g x).1).wp (Out A λo=>(k o).wp Ψ)->
   WC P N c (Exit.then (jv N (λy:Mem×X=>(g y.2).2.1++f1) (λy=>Mem.le G y.1/\(g y.2).2.2.1 y.1) (λy=>St w0 G0 y.1 ((g y.2).2.2.2++h)) (λy=>(g y.2).1) A)
    (Exit.inBlock id (ll N (λy:Mem×Y=>(e y.2).2.1++f2) (λy=>(k (e y.2).1).wp Ψ/\Mem.le G y.1/\(e y.2).2.2.1 y.1) (λy=>St w0 G0 y.1 ((e y.2).2.2.2++i)) Q))) ((g x).2.1++f1) (St w0 G0 G' ((g x).2.2.2++h)):=by exact rd)
  (h2:∀G' z,(k (e z).1).wp Ψ->Mem.le G G'->(e z).2.2.1 G'->WE N Q .normal ((e z).2.1++f2) (St w0 G0 G' ((e z).2.2.2++i)):=by exact rs):WC P N (.block id (.loop c)) Q fr (St w0 G0 G L):=WC.mL q a b a' b' g e d n j l m hH round h2
theorem WC.mB{X Y σ ρ β:Type}{id:Nat}{c:Code}{step:σ->Cq (σ⊕ρ)}{f:σ}{k:ρ->Cq β}{Ψ:β->Prop}{f1 f2:Fr}{h i:Lo}(q:((Cq.loop step f).next k).wp Ψ)(a b a' b':Ŀ Nat)
  (g:X->σ×Fr×(Mem->Prop)×Lo) (e:Y->ρ×Fr×(Mem->Prop)×Lo) (d:X) (h2:∀G' z,(k (e z).1).wp Ψ->Mem.le G G'->(e z).2.2.1 G'->WE N Q .normal ((e z).2.1++f2) (St w0 G0 G' ((e z).2.2.2++i)))
  (n:(fr.pick a,L.pick b,fr.pick a',L.pick b')=(some f1,some h,some f2,some i):=by exact rfl) (j:(g d).1=f:=by exact rfl) (l:(g d).2.1.map (λp=>fr.get p.1)=(g d).2.1.map (λp=>some p.2):=by exact rfl) (m:(g d).2.2.2.map (λp=>L.get p.1)=(g d).2.2.2.map (λp=>p.2):=by exact rfl) (hH:(g d).2.2.1 G:=by exact G8)
  (round:∀(A:σ->Prop) G' x,Mem.le G G'->(g x).2.2.1 G'->(step (g x).1).wp (Out A λo=>(k o).wp Ψ)->
   WC P N c (Exit.then (jv N (λy:Mem×X=>(g y.2).2.1++f1) (λy=>Mem.le G y.1/\(g y.2).2.2.1 y.1) (λy=>St w0 G0 y.1 ((g y.2).2.2.2++h)) (λy=>(g y.2).1) A)
    (Exit.inBlock id (ll N (λy:Mem×Y=>(e y.2).2.1++f2) (λy=>(k (e y.2).1).wp Ψ/\Mem.le G y.1/\(e y.2).2.2.1 y.1) (λy=>St w0 G0 y.1 ((e y.2).2.2.2++i)) Q))) ((g x).2.1++f1) (St w0 G0 G' ((g x).2.2.2++h)):=by exact rd):WC P N (.block id (.loop c)) Q fr (St w0 G0 G L):=WC.mL q a b a' b' g e d n j l m hH round h2
theorem WC.mC{X Y σ ρ β:Type}{id:Nat}{c:Code}{step:σ->Cq (σ⊕ρ)}{f:σ}{k:ρ->Cq β}{Ψ:β->Prop}{f1 f2:Fr}{h i:Lo}(q:((Cq.loop step f).next k).wp Ψ)(a b a' b':Ŀ Nat)
  (g:X->σ×Fr×(Mem->Prop)×Lo) (e:Y->ρ×Fr×(Mem->Prop)×Lo) (d:X) (round:∀(A:σ->Prop) G' x,Mem.le G G'->(g x).2.2.1 G'->(step (g x).1).wp (Out A λo=>(k o).wp Ψ)->
   WC P N c (Exit.then (jv N (λy:Mem×X=>(g y.2).2.1++f1) (λy=>Mem.le G y.1/\(g y.2).2.2.1 y.1) (λy=>St w0 G0 y.1 ((g y.2).2.2.2++h)) (λy=>(g y.2).1) A)
    (Exit.inBlock id (ll N (λy:Mem×Y=>(e y.2).2.1++f2) (λy=>(k (e y.2).1).wp Ψ/\Mem.le G y.1/\(e y.2).2.2.1 y.1) (λy=>St w0 G0 y.1 ((e y.2).2.2.2++i)) Q))) ((g x).2.1++f1) (St w0 G0 G' ((g x).2.2.2++h)))
  (n:(fr.pick a,L.pick b,fr.pick a',L.pick b')=(some f1,some h,some f2,some i):=by exact rfl) (j:(g d).1=f:=by exact rfl) (l:(g d).2.1.map (λp=>fr.get p.1)=(g d).2.1.map (λp=>some p.2):=by exact rfl) (m:(g d).2.2.2.map (λp=>L.get p.1)=(g d).2.2.2.map (λp=>p.2):=by exact rfl) (hH:(g d).2.2.1 G:=by exact G8)
  (h2:∀G' z,(k (e z).1).wp Ψ->Mem.le G G'->(e z).2.2.1 G'->WE N Q .normal ((e z).2.1++f2) (St w0 G0 G' ((e z).2.2.2++i)):=by exact rs):WC P N (.block id (.loop c)) Q fr (St w0 G0 G L):=WC.mL q a b a' b' g e d n j l m hH round h2
theorem WC.mD{X Y σ ρ β:Type}{id:Nat}{c:Code}{step:σ->Cq (σ⊕ρ)}{f:σ}{k:ρ->Cq β}{Ψ:β->Prop}{f1 f2:Fr}{h i:Lo}(q:((Cq.loop step f).next k).wp Ψ)(a b a' b':Ŀ Nat)
  (g:X->σ×Fr×(Mem->Prop)×Lo) (e:Y->ρ×Fr×(Mem->Prop)×Lo) (d:X) (round:∀(A:σ->Prop) G' x,Mem.le G G'->(g x).2.2.1 G'->(step (g x).1).wp (Out A λo=>(k o).wp Ψ)->
   WC P N c (Exit.then (jv N (λy:Mem×X=>(g y.2).2.1++f1) (λy=>Mem.le G y.1/\(g y.2).2.2.1 y.1) (λy=>St w0 G0 y.1 ((g y.2).2.2.2++h)) (λy=>(g y.2).1) A)
    (Exit.inBlock id (ll N (λy:Mem×Y=>(e y.2).2.1++f2) (λy=>(k (e y.2).1).wp Ψ/\Mem.le G y.1/\(e y.2).2.2.1 y.1) (λy=>St w0 G0 y.1 ((e y.2).2.2.2++i)) Q))) ((g x).2.1++f1) (St w0 G0 G' ((g x).2.2.2++h)))
  (h2:∀G' z,(k (e z).1).wp Ψ->Mem.le G G'->(e z).2.2.1 G'->WE N Q .normal ((e z).2.1++f2) (St w0 G0 G' ((e z).2.2.2++i)))
  (n:(fr.pick a,L.pick b,fr.pick a',L.pick b')=(some f1,some h,some f2,some i):=by exact rfl) (j:(g d).1=f:=by exact rfl) (l:(g d).2.1.map (λp=>fr.get p.1)=(g d).2.1.map (λp=>some p.2):=by exact rfl) (m:(g d).2.2.2.map (λp=>L.get p.1)=(g d).2.2.2.map (λp=>p.2):=by exact rfl) (hH:(g d).2.2.1 G:=by exact G8):WC P N (.block id (.loop c)) Q fr (St w0 G0 G L):=WC.mL q a b a' b' g e d n j l m hH round h2
theorem WC.nA{Y β:Type}{x y:Code}{m:Cq β}{Ψ:β->Prop}{f1:Fr}{c:Lo}(f:m.wp Ψ)(a b:Ŀ Nat)(e:Y->Fr×Cq β×(Mem->Prop)×Lo)(g:(fr.pick a,L.pick b)=(some f1,some c):=by exact rfl)
  (d:WC P N x (Exit.then (mi N (λy:Mem×Y=>(e y.2).1++f1) (λy=>(e y.2).2.1.wp Ψ/\Mem.le G y.1/\(e y.2).2.2.1 y.1) (λy=>St w0 G0 y.1 ((e y.2).2.2.2++c))) Q) fr (St w0 G0 G L):=by exact Η)
  (h2:∀G' z,(e z).2.1.wp Ψ->Mem.le G G'->(e z).2.2.1 G'->WC P N y Q ((e z).1++f1) (St w0 G0 G' ((e z).2.2.2++c)):=by exact rs):WC P N (.seq x y) Q fr (St w0 G0 G L):=WC.q9 (Y:=Mem×Y) f (λy=>⟨(e y.2).1++f1,(e y.2).2.1,Mem.le G y.1/\(e y.2).2.2.1 y.1,St w0 G0 y.1 ((e y.2).2.2.2++c)⟩) d (λz h=>h2 z.1 z.2 h.1 h.2.1 h.2.2)
theorem WC.nB{Y β:Type}{x y:Code}{m:Cq β}{Ψ:β->Prop}{f1:Fr}{c:Lo}(f:m.wp Ψ)(a b:Ŀ Nat)(e:Y->Fr×Cq β×(Mem->Prop)×Lo)(h2:∀G' z,(e z).2.1.wp Ψ->Mem.le G G'->(e z).2.2.1 G'->WC P N y Q ((e z).1++f1) (St w0 G0 G' ((e z).2.2.2++c)))
  (g:(fr.pick a,L.pick b)=(some f1,some c):=by exact rfl)
  (d:WC P N x (Exit.then (mi N (λy:Mem×Y=>(e y.2).1++f1) (λy=>(e y.2).2.1.wp Ψ/\Mem.le G y.1/\(e y.2).2.2.1 y.1) (λy=>St w0 G0 y.1 ((e y.2).2.2.2++c))) Q) fr (St w0 G0 G L):=by exact Η):WC P N (.seq x y) Q fr (St w0 G0 G L):=WC.q9 (Y:=Mem×Y) f (λy=>⟨(e y.2).1++f1,(e y.2).2.1,Mem.le G y.1/\(e y.2).2.2.1 y.1,St w0 G0 y.1 ((e y.2).2.2.2++c)⟩) d (λz h=>h2 z.1 z.2 h.1 h.2.1 h.2.2)
theorem WC.nC{Y β:Type}{x y:Code}{m:Cq β}{Ψ:β->Prop}{f1:Fr}{c:Lo}(f:m.wp Ψ)(a b:Ŀ Nat)(e:Y->Fr×Cq β×(Mem->Prop)×Lo)(d:WC P N x (Exit.then (mi N (λy:Mem×Y=>(e y.2).1++f1) (λy=>(e y.2).2.1.wp Ψ/\Mem.le G y.1/\(e y.2).2.2.1 y.1) (λy=>St w0 G0 y.1 ((e y.2).2.2.2++c))) Q) fr (St w0 G0 G L))
  (g:(fr.pick a,L.pick b)=(some f1,some c):=by exact rfl)
  (h2:∀G' z,(e z).2.1.wp Ψ->Mem.le G G'->(e z).2.2.1 G'->WC P N y Q ((e z).1++f1) (St w0 G0 G' ((e z).2.2.2++c)):=by exact rs):WC P N (.seq x y) Q fr (St w0 G0 G L):=WC.q9 (Y:=Mem×Y) f (λy=>⟨(e y.2).1++f1,(e y.2).2.1,Mem.le G y.1/\(e y.2).2.2.1 y.1,St w0 G0 y.1 ((e y.2).2.2.2++c)⟩) d (λz h=>h2 z.1 z.2 h.1 h.2.1 h.2.2)
theorem WC.nD{Y β:Type}{x y:Code}{m:Cq β}{Ψ:β->Prop}{f1:Fr}{c:Lo}(f:m.wp Ψ)(a b:Ŀ Nat)(e:Y->Fr×Cq β×(Mem->Prop)×Lo)(d:WC P N x (Exit.then (mi N (λy:Mem×Y=>(e y.2).1++f1) (λy=>(e y.2).2.1.wp Ψ/\Mem.le G y.1/\(e y.2).2.2.1 y.1) (λy=>St w0 G0 y.1 ((e y.2).2.2.2++c))) Q) fr (St w0 G0 G L))
  (h2:∀G' z,(e z).2.1.wp Ψ->Mem.le G G'->(e z).2.2.1 G'->WC P N y Q ((e z).1++f1) (St w0 G0 G' ((e z).2.2.2++c)))
  (g:(fr.pick a,L.pick b)=(some f1,some c):=by exact rfl):WC P N (.seq x y) Q fr (St w0 G0 G L):=WC.q9 (Y:=Mem×Y) f (λy=>⟨(e y.2).1++f1,(e y.2).2.1,Mem.le G y.1/\(e y.2).2.2.1 y.1,St w0 G0 y.1 ((e y.2).2.2.2++c)⟩) d (λz h=>h2 z.1 z.2 h.1 h.2.1 h.2.2)
end
end Go.EL

namespace Go.Proofs.YtepbagkffgddlaaGreat
open Go.IntKind (i8 i16 i32 i64 u8 u16 u32 u64)
open Go.Proofs.Tryz
open Go Go.EL Go.RowKit Go.Proofs
instance WH:Agg prog 26 2:=⟨uu⟩
instance WI:Agg prog 34 3:=⟨M3⟩
instance WJ:Agg prog 37 1:=⟨BI⟩
instance WK:Agg prog 40 10:=⟨xT⟩
instance WM:Agg prog 48 3:=⟨lJ⟩
instance WN:Agg prog 54 3:=⟨oS⟩
instance WO:Agg prog 56 11:=⟨xU⟩
instance WQ:Agg prog 71 8:=⟨lK⟩
instance WR:Agg prog 89 9:=⟨BJ⟩
instance WS:Agg prog 94 7:=⟨M4⟩
instance NA:Agg prog 100 4:=⟨vL⟩
instance NB:Agg prog 118 2:=⟨pK⟩
instance NC:Agg prog 120 4:=⟨rX⟩
instance ND:Agg prog 129 4:=⟨BF⟩
instance NF:Agg prog 145 8:=⟨rY⟩
instance NG:Agg prog 147 12:=⟨rZ⟩
instance NH:Agg prog 160 3:=⟨BG⟩
instance NI:Agg prog 194 2:=⟨BH⟩
instance NJ:Agg prog 202 3:=⟨r0⟩
instance NK:Agg prog 225 64:=⟨mR⟩
instance NL:Agg prog 325 32:=⟨kx⟩
instance amU:Sca prog 3:=⟨eC⟩
instance amV:Sca prog 4:=⟨uY⟩
instance amW:Sca prog 5:=⟨zV⟩
instance W3:Sca prog 24:=⟨jc⟩
instance W4:Sca prog 28:=⟨Ds⟩
instance W5:Sca prog 31:=⟨yv⟩
instance W6:Sca prog 32:=⟨sU⟩
instance W7:Sca prog 35:=⟨Dt⟩
instance W8:Sca prog 38:=⟨OF⟩
instance W9:Sca prog 44:=⟨sV⟩
instance Xa:Sca prog 46:=⟨js⟩
instance Xb:Sca prog 50:=⟨mH⟩
instance Xc:Sca prog 52:=⟨sW⟩
instance Xd:Sca prog 87:=⟨q6⟩
instance NV:Sca prog 102:=⟨wx⟩
instance NW:Sca prog 116:=⟨qu⟩
instance NY:Sca prog 126:=⟨ot⟩
instance NZ:Sca prog 127:=⟨l1⟩
instance N0:Sca prog 138:=⟨qv⟩
instance N4:Sca prog 140:=⟨wy⟩
instance N5:Sca prog 158:=⟨sR⟩
instance N6:Sca prog 196:=⟨sS⟩
instance N7:Sca prog 248:=⟨sT⟩
instance amX:Siz prog 3 1:=⟨je⟩
instance amY:Siz prog 4 1:=⟨sz4⟩
instance amZ:Siz prog 5 1:=⟨sz5⟩
instance Xe:Siz prog 26 2:=⟨yB⟩
instance Xf:Siz prog 28 1:=⟨OK⟩
instance Xg:Siz prog 32 1:=⟨DG⟩
instance Xh:Siz prog 37 1:=⟨OL⟩
instance Xi:Siz prog 40 10:=⟨OM⟩
instance Xj:Siz prog 44 1:=⟨DH⟩
instance Xk:Siz prog 46 1:=⟨ON⟩
instance Xl:Siz prog 48 3:=⟨py⟩
instance Xn:Siz prog 50 1:=⟨kV⟩
instance Xo:Siz prog 52 1:=⟨DI⟩
instance Xp:Siz prog 54 3:=⟨ov⟩
instance Xq:Siz prog 56 11:=⟨kW⟩
instance Xr:Siz prog 71 8:=⟨ow⟩
instance Xs:Siz prog 87 1:=⟨DJ⟩
instance Xt:Siz prog 89 9:=⟨td⟩
instance Xu:Siz prog 94 7:=⟨OO⟩
instance N8:Siz prog 100 4:=⟨s9⟩
instance N9:Siz prog 102 1:=⟨DB⟩
instance Oa:Siz prog 118 2:=⟨wA⟩
instance Ob:Siz prog 120 4:=⟨wB⟩
instance Oc:Siz prog 129 4:=⟨DC⟩
instance Od:Siz prog 138 1:=⟨DD⟩
instance Oe:Siz prog 140 1:=⟨DE⟩
instance Of:Siz prog 145 8:=⟨wE⟩
instance Og:Siz prog 147 12:=⟨qA⟩
instance Oh:Siz prog 160 3:=⟨DF⟩
instance Oi:Siz prog 194 2:=⟨ou⟩
instance Oj:Siz prog 196 1:=⟨ta⟩
instance Ol:Siz prog 197 5:=⟨wF⟩
instance Om:Siz prog 223 8:=⟨ke⟩
instance On:Siz prog 225 64:=⟨l5⟩
instance Oo:Siz prog 248 1:=⟨tc⟩
instance Oq:Siz prog 325 32:=⟨wG⟩
instance ani:Zer prog 26 (.agg ([.slice none 0 0,.int .i64 0]).toArray):=⟨z26⟩
instance anj:Zer prog 48 (.agg ([.int .i64 0,.slice none 0 0,.slice none 0 0]).toArray):=⟨rK⟩
instance ank:Zer prog 54 (.agg ([.int .i64 0,.slice none 0 0,.slice none 0 0]).toArray):=⟨z54⟩
instance anl:Zer prog 56 (.agg ([.int .i64 0,.int .i64 0,.slice none 0 0,.slice none 0 0,.int .i64 0,.slice none 0 0,.slice none 0 0,.int .i64 0,.int .i64 0,.int .i64 0,.bool false]).toArray):=⟨D6⟩
instance anm:Zer prog 71 (.agg (õ (Value.int .i64) 8 (λ_=>0)).toArray):=⟨va⟩
instance ann:Zer prog 89 (.agg ([.int .i64 0,.slice none 0 0,.int .i64 0,.int .i64 0,.int .i64 0,.slice none 0 0,.slice none 0 0,.slice none 0 0,.slice none 0 0]).toArray):=⟨H5⟩
instance ano:Zer prog 94 (.agg ([.int .i64 0,.slice none 0 0,.slice none 0 0,.int .i64 0,.slice none 0 0,.slice none 0 0,.int .i64 0]).toArray):=⟨z94⟩
instance XI:Zer prog 100 (.agg ([.slice none 0 0,.int .i64 0,.int .i64 0,.int .i64 0]).toArray):=⟨yH⟩
instance XJ:Zer prog 118 (.agg ([.bool false,.slice none 0 0]).toArray):=⟨D3⟩
instance XK:Zer prog 120 (.agg ([.bool false,.slice none 0 0,.bool false,.slice none 0 0]).toArray):=⟨D4⟩
instance XL:Zer prog 129 (.agg ([.slice none 0 0,.slice none 0 0,.slice none 0 0,.int .i64 0]).toArray):=⟨O0⟩
instance XM:Zer prog 143 (.agg (õ Value.bool 8 (λ_=>false)).toArray):=⟨z143⟩
instance XN:Zer prog 145 (.agg (õ (Value.int .i64) 8 (λ_=>0)).toArray):=⟨z145⟩
instance XO:Zer prog 147 (.agg (([.bool false,.slice none 0 0,.bool false,.slice none 0 0]:Ŀ Value)++(õ (Value.int .i64) 8 (λ_=>0))).toArray):=⟨O2⟩
instance XP:Zer prog 225 (.agg (([.bool false,.slice none 0 0,.bool false,.slice none 0 0,.bool false,.slice none 0 0,.bool false,.slice none 0 0,.bool false,.slice none 0 0,.bool false,.slice none 0 0,.bool false,.slice none 0 0,.bool false,.slice none 0 0,.bool false,.slice none 0 0,.bool false,.slice none 0 0,.bool false,.slice none 0 0,.bool false,.slice none 0 0,.bool false,.slice none 0 0,.bool false,.slice none 0 0,.bool false,.slice none 0 0,.bool false,.slice none 0 0,.bool false,.slice none 0 0,.bool false,.slice none 0 0,.bool false,.slice none 0 0,.bool false,.slice none 0 0,.bool false,.slice none 0 0,.bool false,.slice none 0 0,.bool false,.slice none 0 0,.bool false,.slice none 0 0,.bool false,.slice none 0 0,.bool false,.slice none 0 0,.bool false,.slice none 0 0,.bool false,.slice none 0 0,.bool false,.slice none 0 0,.bool false,.slice none 0 0,.bool false,.slice none 0 0,.bool false,.slice none 0 0]:Ŀ Value)).toArray):=⟨D5⟩
instance XQ:Zer prog 325 (.agg (([.bool false,.slice none 0 0,.bool false,.slice none 0 0,.bool false,.slice none 0 0,.bool false,.slice none 0 0,.bool false,.slice none 0 0,.bool false,.slice none 0 0,.bool false,.slice none 0 0,.bool false,.slice none 0 0,.bool false,.slice none 0 0,.bool false,.slice none 0 0,.bool false,.slice none 0 0,.bool false,.slice none 0 0,.bool false,.slice none 0 0,.bool false,.slice none 0 0,.bool false,.slice none 0 0,.bool false,.slice none 0 0]:Ŀ Value)).toArray):=⟨O4⟩
instance Hg:Fad prog 26 0 0:=⟨λh=>Y0.Z7 h⟩
instance Hh:Fad prog 26 1 1:=⟨λh=>Y0.xR h⟩
instance Hi:Fad prog 34 0 0:=⟨λh=>Y0.YQ h⟩
instance Hj:Fad prog 34 1 1:=⟨λh=>Y0.VC h⟩
instance Hk:Fad prog 34 2 2:=⟨λh=>Y0.YT h⟩
instance Hl:Fad prog 37 0 0:=⟨λh=>Y0.VD h⟩
instance Hm:Fad prog 40 0 0:=⟨λh=>Y0.YU h⟩
instance Hn:Fad prog 40 1 1:=⟨λh=>Y0.YV h⟩
instance Ho:Fad prog 40 5 7:=⟨λh=>Y0.YZ h⟩
instance Hq:Fad prog 40 6 8:=⟨λh=>Y0.Y1 h⟩
instance Hr:Fad prog 40 7 9:=⟨λh=>Y0.Y2 h⟩
instance Hs:Fad prog 48 0 0:=⟨λh=>Y0.GG h⟩
instance Ht:Fad prog 48 1 1:=⟨λh=>Y0.GH h⟩
instance Hu:Fad prog 48 2 2:=⟨λh=>Y0.GI h⟩
instance Hv:Fad prog 54 0 0:=⟨λh=>Y0.ME h⟩
instance Hw:Fad prog 54 1 1:=⟨λh=>Y0.VE h⟩
instance Hx:Fad prog 54 2 2:=⟨λh=>Y0.VF h⟩
instance Hy:Fad prog 56 0 0:=⟨λh=>Y0.MF h⟩
instance Hz:Fad prog 56 1 1:=⟨λh=>Y0.BA h⟩
instance HA:Fad prog 56 2 4:=⟨λh=>Y0.MG h⟩
instance HB:Fad prog 56 3 7:=⟨λh=>Y0.MH h⟩
instance HC:Fad prog 56 4 8:=⟨λh=>Y0.MI h⟩
instance HD:Fad prog 56 5 9:=⟨λh=>Y0.MJ h⟩
instance HE:Fad prog 56 6 10:=⟨λh=>Y0.VG h⟩
instance HF:Fad prog 89 0 0:=⟨λh=>Y0.VH h⟩
instance HG:Fad prog 89 1 1:=⟨λh=>Y0.VI h⟩
instance HH:Fad prog 89 2 2:=⟨λh=>Y0.VJ h⟩
instance HI:Fad prog 89 3 3:=⟨λh=>Y0.VK h⟩
instance HJ:Fad prog 89 4 4:=⟨λh=>Y0.VL h⟩
instance HK:Fad prog 89 5 5:=⟨λh=>Y0.VM h⟩
instance HL:Fad prog 89 6 6:=⟨λh=>Y0.VN h⟩
instance HM:Fad prog 89 7 7:=⟨λh=>Y0.VO h⟩
instance HN:Fad prog 89 8 8:=⟨λh=>Y0.VP h⟩
instance HO:Fad prog 94 0 0:=⟨λh=>Y0.VQ h⟩
instance HP:Fad prog 94 1 3:=⟨λh=>Y0.Y5 h⟩
instance HQ:Fad prog 94 2 6:=⟨λh=>Y0.Y6 h⟩
instance Cn:Fad prog 100 0 0:=⟨λh=>Y0.ZzM h⟩
instance Co:Fad prog 100 1 2:=⟨λh=>Y0.ZzN h⟩
instance Cp:Fad prog 100 2 3:=⟨λh=>Y0.Vo h⟩
instance Cs:Fad prog 118 0 0:=⟨λh=>Y0.Vp h⟩
instance Ct:Fad prog 118 1 1:=⟨λh=>Y0.Gy h⟩
instance Cu:Fad prog 120 0 0:=⟨λh=>Y0.Vq h⟩
instance Cv:Fad prog 120 1 2:=⟨λh=>Y0.Vr h⟩
instance Cw:Fad prog 129 0 0:=⟨λh=>Y0.Vs h⟩
instance Cx:Fad prog 129 1 1:=⟨λh=>Y0.Vt h⟩
instance Cy:Fad prog 129 2 2:=⟨λh=>Y0.Vu h⟩
instance Cz:Fad prog 129 3 3:=⟨λh=>Y0.Vv h⟩
instance CA:Fad prog 147 0 0:=⟨λh=>Y0.Mz h⟩
instance CB:Fad prog 147 1 4:=⟨λh=>Y0.ZzO h⟩
instance CC:Fad prog 160 2 2:=⟨λh=>Y0.Vw h⟩
instance CD:Fad prog 194 0 0:=⟨λh=>Y0.Vx h⟩
instance CE:Fad prog 194 1 1:=⟨λh=>Y0.ZzR h⟩
instance CF:Fad prog 202 0 0:=⟨λh=>Y0.UH h⟩
instance CG:Fad prog 212 0 0:=⟨λh=>Y0.zo h⟩
instance CH:Fad prog 223 0 0:=⟨λh=>Y0.UI h⟩
instance CI:Fad prog 223 1 4:=⟨λh=>Y0.UJ h⟩
instance CJ:Fad prog 228 0 0:=⟨λh=>Y0.UK h⟩
instance CK:Fad prog 228 1 3:=⟨λh=>Y0.ZzS h⟩
instance CL:Fad prog 281 1 1:=⟨λh=>Y0.ZzU h⟩
instance CM:Fad prog 281 2 2:=⟨λh=>Y0.ZzV h⟩
instance yi {x:Zg}:Exp rW x (λG K o=>∃c a,(∀(j:Nat) (u:Value),([.bool x.neg,.slice c x.υ.length a]).toArray[j]?=some u->K (o+j) u)/\Δ (Rp.int .u32) G (.slice c x.υ.length a) x.υ):=⟨Kw⟩
instance wi {x:Za}:Exp Zj x (λG K o=>∃e d c a,(∀(j:Nat) (u:Value),(([.bool x.c.num.neg,.slice e x.c.num.υ.length d,.bool x.c.den.neg,.slice c x.c.den.υ.length a]:Ŀ Value)++(õ (Value.int .i64) 8 x.m)).toArray[j]?=some u->K (o+j) u)/\Δ (Rp.int .u32) G (.slice e x.c.num.υ.length d) x.c.num.υ/\Δ (Rp.int .u32) G (.slice c x.c.den.υ.length a) x.c.den.υ):=⟨ZtQ⟩
instance rH {x:Zc}:Exp xh x (λG K o=>∃e d c a,(∀(j:Nat) (u:Value),([.int .i64 x.kind,.slice e x.p.length d,.slice c x.o.length a]).toArray[j]?=some u->K (o+j) u)/\Δ Zj G (.slice e x.p.length d) x.p/\Δ (Rp.vec .i64 8) G (.slice c x.o.length a) x.o):=⟨Jx⟩
instance wh {x:Zb}:Exp Zr x (λG K o=>∃e d c a i h g f,(∀(j:Nat) (u:Value),([.int .i64 x.id,.int .i64 x.k.n,.slice e x.k.eqs.length d,.slice c x.k.neqs.length a,.int .i64 x.q.kind,.slice i x.q.p.length h,.slice g x.q.o.length f,.int .i64 x.η,.int .i64 x.low,.int .i64 x.high,.bool x.done]).toArray[j]?=some u->K (o+j) u)/\Δ (Rp.sl Zj) G (.slice e x.k.eqs.length d) x.k.eqs/\Δ (Rp.sl Zj) G (.slice c x.k.neqs.length a) x.k.neqs/\Δ Zj G (.slice i x.q.p.length h) x.q.p/\Δ (Rp.vec .i64 8) G (.slice g x.q.o.length f) x.q.o):=⟨KF⟩
instance uK {x:Zw}:Exp ZQ x (λG K o=>∃c a,(∀(j:Nat) (u:Value),([.slice c x.t.length a]).toArray[j]?=some u->K (o+j) u)/\Δ (Rp.vec .i8 5) G (.slice c x.t.length a) x.t):=⟨ZrF⟩
instance uL {x:ZN}:Exp tW x (λG K o=>∃c a e d,(∀(j:Nat) (u:Value),([.int .u8 x.kind,.slice c x.l.length a,.slice e x.v.length d]).toArray[j]?=some u->K (o+j) u)/\Δ ZQ G (.slice c x.l.length a) x.l/\Δ (Rp.int .i8) G (.slice e x.v.length d) x.v):=⟨ZrG⟩
instance tR {x:Zv}:Exp xa x (λG K o=>∃e d c a g f i h,(∀(j:Nat) (u:Value),([.int .u8 x.fY,.int .u8 x.c.n,.slice e x.c.l.length d,.slice c x.c.iT.length a,.int .u8 x.kind,.slice g x.p.t.length f,.int .u8 x.o,.slice i x.l.length h,.int .i64 x.id,.int .i64 x.Κ]).toArray[j]?=some u->K (o+j) u)/\Δ ZQ G (.slice e x.c.l.length d) x.c.l/\Δ (Rp.int .u8) G (.slice c x.c.iT.length a) x.c.iT/\Δ (Rp.vec .i8 5) G (.slice g x.p.t.length f) x.p.t/\Δ tW G (.slice i x.l.length h) x.l):=⟨ZpS⟩
instance uJ {x:Zk}:Exp yP x (λG K o=>∃i h g f e d l k c a,(∀(j:Nat) (u:Value),([.int .i64 x.kind,.slice i x.p.length h,.int .i64 x.n,.int .i64 x.d,.int .i64 x.r,.slice g x.o.length f,.slice e x.l.length d,.slice l x.s.length k,.slice c x.b.length a]).toArray[j]?=some u->K (o+j) u)/\Δ Zj G (.slice i x.p.length h) x.p/\Δ (Rp.vec .i64 8) G (.slice g x.o.length f) x.o/\Δ (Rp.sl Zj) G (.slice e x.l.length d) x.l/\Δ (Rp.int .i64) G (.slice l x.s.length k) x.s/\Δ (Rp.arr Z3 8) G (.slice c x.b.length a) x.b):=⟨QF⟩
instance rG {x:Zo}:Exp ZM x (λG K o=>∃c a,(∀(j:Nat) (u:Value),([.int .i64 x.id,.slice c x.p.length a]).toArray[j]?=some u->K (o+j) u)/\Δ Zj G (.slice c x.p.length a) x.p):=⟨Zm0⟩
instance iu2:Udl prog 2 (.int .i64):=⟨underlying2⟩
instance iu3:Udl prog 3 (.int .i64):=⟨underlying3⟩
instance iu4:Udl prog 4 (.bool):=⟨underlying4⟩
instance iu5:Udl prog 5 (.int .u8):=⟨underlying5⟩
instance iu9:Udl prog 9 (.string):=⟨underlying9⟩
instance am0:Udl prog 22 (.slice 40):=⟨underlying22⟩
instance am1:Udl prog 24 (.slice 56):=⟨underlying24⟩
instance am2:Udl prog 31 (.slice 37):=⟨underlying31⟩
instance am3:Udl prog 32 (.slice 5):=⟨underlying32⟩
instance am4:Udl prog 35 (.slice 197):=⟨underlying35⟩
instance am5:Udl prog 38 (.slice 160):=⟨underlying38⟩
instance am6:Udl prog 44 (.slice 3):=⟨underlying44⟩
instance am7:Udl prog 46 (.slice 50):=⟨underlying46⟩
instance am8:Udl prog 50 (.slice 147):=⟨underlying50⟩
instance am9:Udl prog 51 (.slice 71):=⟨underlying51⟩
instance ana:Udl prog 52 (.slice 71):=⟨underlying52⟩
instance anb:Udl prog 71 (.array 8 3):=⟨underlying71⟩
instance anc:Udl prog 82 (.slice 89):=⟨underlying82⟩
instance ane:Udl prog 87 (.slice 225):=⟨underlying87⟩
instance anf:Udl prog 90 (.slice 54):=⟨underlying90⟩
instance Xv:Udl prog 116 (.slice 248):=⟨underlying116⟩
instance Xw:Udl prog 126 (.slice 9):=⟨underlying126⟩
instance Xx:Udl prog 127 (.slice 194):=⟨underlying127⟩
instance Xy:Udl prog 143 (.array 8 4):=⟨underlying143⟩
instance Xz:Udl prog 145 (.array 8 3):=⟨underlying145⟩
instance XA:Udl prog 169 (.int .u64):=⟨underlying169⟩
instance XB:Udl prog 170 (.slice 46):=⟨underlying170⟩
instance XC:Udl prog 196 (.int .i8):=⟨underlying196⟩
instance XD:Udl prog 197 (.array 5 196):=⟨underlying197⟩
instance XE:Udl prog 248 (.int .u32):=⟨underlying248⟩
instance XF:Udl prog 250 (.int .u64):=⟨underlying250⟩
instance XG:Udl prog 322 (.slice 118):=⟨underlying322⟩
instance XH:Udl prog 324 (.slice 325):=⟨underlying324⟩
instance ix0 {k:IntKind}{x:Int}:Exp (Rp.int k) x (λ_ K o=>K o (.int k x)):=⟨AtK.int⟩
instance ix3 {α:Type}{r:Rp α}{x:Ŀ α}:Exp (Rp.sl r) x (λG K o=>∃p cap,K o (.slice p x.length cap)/\Δ r G (.slice p x.length cap) x):=⟨AtK.sl⟩
instance ix5 {k:IntKind}{n:Nat}{x:Fin n->Int}:Exp (Rp.vec k n) x (λ_ K o=>∀j u,(EL.õ (Value.int k) n x).toArray[j]?=some u->K (o+j) u):=⟨AtK.vec⟩
theorem ZvP{G:Mem}{c:Bool}{d:(Ŀ Int)}{a:Value}(h2:Δ (Rp.int .u32) G (a) d):rW.er G ([.bool c,a]) ((Zg.mk c d)):=⟨[.bool c],[a],rfl,rfl,⟨_,rfl,h2⟩⟩
theorem ZvQ{G:Mem}{d:Bool}{f:(Ŀ Int)}{a:Value}{e:Bool}{g:(Ŀ Int)}{c:Value}(h2:Δ (Rp.int .u32) G (a) f)(h:Δ (Rp.int .u32) G (c) g):tx.er G ([.bool d,a,.bool e,c]) ((Zf.mk (Zg.mk d f) (Zg.mk e g))):=⟨[.bool d,a],[.bool e,c],rfl,⟨[.bool d],[a],rfl,rfl,⟨_,rfl,h2⟩⟩,⟨[.bool e],[c],rfl,rfl,⟨_,rfl,h⟩⟩⟩
theorem Zt1{G:Mem}{d:Bool}{g:(Ŀ Int)}{a:Value}{e:Bool}{h:(Ŀ Int)}{c:Value}{f:(Fin 8->Int)}(h2:Δ (Rp.int .u32) G (a) g)(i:Δ (Rp.int .u32) G (c) h):Zj.er G (([.bool d,a,.bool e,c]:Ŀ Value)++(õ (Value.int .i64) 8 f)) ((Za.mk (Zf.mk (Zg.mk d g) (Zg.mk e h)) f)):=⟨[.bool d,a,.bool e,c],õ (Value.int .i64) 8 f,rfl,⟨[.bool d,a],[.bool e,c],rfl,⟨[.bool d],[a],rfl,rfl,⟨_,rfl,h2⟩⟩,⟨[.bool e],[c],rfl,rfl,⟨_,rfl,i⟩⟩⟩,rfl⟩
theorem ZtZ{G:Mem}{d:Int}(e:(Ŀ (Ŀ Za))){a:Value}(f:(Ŀ (Ŀ Za))){c:Value}(h2:Δ (Rp.sl Zj) G (a) e)(h3:Δ (Rp.sl Zj) G (c) f):tT.er G ([.int .i64 d,a,c]) ((Zd.mk d e f)):=⟨[.int .i64 d],[a,c],rfl,rfl,⟨[a],[c],rfl,⟨_,rfl,h2⟩,⟨_,rfl,h3⟩⟩⟩
theorem Znl{G:Mem}{d:Int}{e:(Ŀ Za)}{a:Value}(f:(Ŀ (Fin 8->Int))){c:Value}(h2:Δ Zj G (a) e)(h3:Δ (Rp.vec .i64 8) G (c) f):xh.er G ([.int .i64 d,a,c]) ((Zc.mk d e f)):=⟨[.int .i64 d],[a,c],rfl,rfl,⟨[a],[c],rfl,⟨_,rfl,h2⟩,⟨_,rfl,h3⟩⟩⟩
theorem Zt0{G:Mem}{l:Int}{k:Int}(m:(Ŀ (Ŀ Za))){g:Value}(n:(Ŀ (Ŀ Za))){h:Value}{i:Int}{p:(Ŀ Za)}{d:Value}(q:(Ŀ (Fin 8->Int))){e:Value}{j:Int}{f:Int}{a:Int}{c:Bool}(h3:Δ (Rp.sl Zj) G (g) m)(r:Δ (Rp.sl Zj) G (h) n)(s:Δ Zj G (d) p)(h7:Δ (Rp.vec .i64 8) G (e) q):Zr.er G ([.int .i64 l,.int .i64 k,g,h,.int .i64 i,d,e,.int .i64 j,.int .i64 f,.int .i64 a,.bool c]) ((Zb.mk l (Zd.mk k m n) (Zc.mk i p q) j f a c)):=⟨[.int .i64 l],[.int .i64 k,g,h,.int .i64 i,d,e,.int .i64 j,.int .i64 f,.int .i64 a,.bool c],rfl,rfl,⟨[.int .i64 k,g,h],[.int .i64 i,d,e,.int .i64 j,.int .i64 f,.int .i64 a,.bool c],rfl,⟨[.int .i64 k],[g,h],rfl,rfl,⟨[g],[h],rfl,⟨_,rfl,h3⟩,⟨_,rfl,r⟩⟩⟩,⟨[.int .i64 i,d,e],[.int .i64 j,.int .i64 f,.int .i64 a,.bool c],rfl,⟨[.int .i64 i],[d,e],rfl,rfl,⟨[d],[e],rfl,⟨_,rfl,s⟩,⟨_,rfl,h7⟩⟩⟩,⟨[.int .i64 j],[.int .i64 f,.int .i64 a,.bool c],rfl,rfl,⟨[.int .i64 f],[.int .i64 a,.bool c],rfl,rfl,⟨[.int .i64 a],[.bool c],rfl,rfl,rfl⟩⟩⟩⟩⟩⟩
theorem Zsk{G:Mem}{d:(Ŀ Zb)}{a:Value}{c:Int}(e:Δ Zr G (a) d):Q0.er G ([a,.int .i64 c]) ((Ze.mk d c)):=⟨[a],[.int .i64 c],rfl,⟨_,rfl,e⟩,rfl⟩
theorem Zsn{G:Mem}(c:(Ŀ (Fin 5->Int))){a:Value}(d:Δ (Rp.vec .i8 5) G (a) c):ZQ.er G ([a]) ((Zw.mk c)):=⟨_,rfl,d⟩
theorem Zsp{G:Mem}{d:Int}{e:(Ŀ Zw)}{a:Value}{f:(Ŀ Int)}{c:Value}(h2:Δ ZQ G (a) e)(h3:Δ (Rp.int .u8) G (c) f):Ks.er G ([.int .u8 d,a,c]) ((ZB.mk d e f)):=⟨[.int .u8 d],[a,c],rfl,rfl,⟨[a],[c],rfl,⟨_,rfl,h2⟩,⟨_,rfl,h3⟩⟩⟩
theorem Zso{G:Mem}{d:Int}{e:(Ŀ Zw)}{a:Value}{f:(Ŀ Int)}{c:Value}(h2:Δ ZQ G (a) e)(h3:Δ (Rp.int .i8) G (c) f):tW.er G ([.int .u8 d,a,c]) ((ZN.mk d e f)):=⟨[.int .u8 d],[a,c],rfl,rfl,⟨[a],[c],rfl,⟨_,rfl,h2⟩,⟨_,rfl,h3⟩⟩⟩
theorem Zp0{G:Mem}{k:Int}{i:Int}{l:(Ŀ Zw)}{f:Value}{m:(Ŀ Int)}{g:Value}{j:Int}(n:(Ŀ (Fin 5->Int))){h:Value}{e:Int}{p:(Ŀ ZN)}{d:Value}{c:Int}{a:Int}(h3:Δ ZQ G (f) l)(q:Δ (Rp.int .u8) G (g) m)(r:Δ (Rp.vec .i8 5) G (h) n)(s:Δ tW G (d) p):xa.er G ([.int .u8 k,.int .u8 i,f,g,.int .u8 j,h,.int .u8 e,d,.int .i64 c,.int .i64 a]) ((Zv.mk k (ZB.mk i l m) j (Zw.mk n) e p c a)):=⟨[.int .u8 k],[.int .u8 i,f,g,.int .u8 j,h,.int .u8 e,d,.int .i64 c,.int .i64 a],rfl,rfl,⟨[.int .u8 i,f,g],[.int .u8 j,h,.int .u8 e,d,.int .i64 c,.int .i64 a],rfl,⟨[.int .u8 i],[f,g],rfl,rfl,⟨[f],[g],rfl,⟨_,rfl,h3⟩,⟨_,rfl,q⟩⟩⟩,⟨[.int .u8 j],[h,.int .u8 e,d,.int .i64 c,.int .i64 a],rfl,rfl,⟨[h],[.int .u8 e,d,.int .i64 c,.int .i64 a],rfl,⟨_,rfl,r⟩,⟨[.int .u8 e],[d,.int .i64 c,.int .i64 a],rfl,rfl,⟨[d],[.int .i64 c,.int .i64 a],rfl,⟨_,rfl,s⟩,⟨[.int .i64 c],[.int .i64 a],rfl,rfl,rfl⟩⟩⟩⟩⟩⟩⟩
theorem Znk{G:Mem}{f:Bool}{j:(Ŀ Int)}{a:Value}{g:Bool}{k:(Ŀ Int)}{c:Value}{h:Bool}{l:(Ŀ Int)}{d:Value}{i:Bool}{m:(Ŀ Int)}{e:Value}(h2:Δ (Rp.int .u32) G (a) j)(n:Δ (Rp.int .u32) G (c) k)(p:Δ (Rp.int .u32) G (d) l)(q:Δ (Rp.int .u32) G (e) m):Z3.er G ([.bool f,a,.bool g,c,.bool h,d,.bool i,e]) ((Zl.mk (Zf.mk (Zg.mk f j) (Zg.mk g k)) (Zf.mk (Zg.mk h l) (Zg.mk i m)))):=⟨[.bool f,a,.bool g,c],[.bool h,d,.bool i,e],rfl,⟨[.bool f,a],[.bool g,c],rfl,⟨[.bool f],[a],rfl,rfl,⟨_,rfl,h2⟩⟩,⟨[.bool g],[c],rfl,rfl,⟨_,rfl,n⟩⟩⟩,⟨[.bool h,d],[.bool i,e],rfl,⟨[.bool h],[d],rfl,rfl,⟨_,rfl,p⟩⟩,⟨[.bool i],[e],rfl,rfl,⟨_,rfl,q⟩⟩⟩⟩
theorem Zsl{G:Mem}{j:Int}{k:(Ŀ Za)}{i:Value}{h:Int}{g:Int}{f:Int}(l:(Ŀ (Fin 8->Int))){e:Value}(m:(Ŀ (Ŀ Za))){d:Value}{n:(Ŀ Int)}{a:Value}(p:(Ŀ (Ŀ Zl))){c:Value}(h2:Δ Zj G (i) k)(q:Δ (Rp.vec .i64 8) G (e) l)(h7:Δ (Rp.sl Zj) G (d) m)(r:Δ (Rp.int .i64) G (a) n)(s:Δ (Rp.arr Z3 8) G (c) p):yP.er G ([.int .i64 j,i,.int .i64 h,.int .i64 g,.int .i64 f,e,d,a,c]) ((Zk.mk j k h g f l m n p)):=⟨[.int .i64 j],[i,.int .i64 h,.int .i64 g,.int .i64 f,e,d,a,c],rfl,rfl,⟨[i],[.int .i64 h,.int .i64 g,.int .i64 f,e,d,a,c],rfl,⟨_,rfl,h2⟩,⟨[.int .i64 h],[.int .i64 g,.int .i64 f,e,d,a,c],rfl,rfl,⟨[.int .i64 g],[.int .i64 f,e,d,a,c],rfl,rfl,⟨[.int .i64 f],[e,d,a,c],rfl,rfl,⟨[e],[d,a,c],rfl,⟨_,rfl,q⟩,⟨[d],[a,c],rfl,⟨_,rfl,h7⟩,⟨[a],[c],rfl,⟨_,rfl,r⟩,⟨_,rfl,s⟩⟩⟩⟩⟩⟩⟩⟩⟩
theorem Zki{G:Mem}{g:Int}(i:(Ŀ (Ŀ Za))){d:Value}(j:(Ŀ (Ŀ Za))){e:Value}{f:Int}{k:(Ŀ Za)}{a:Value}(l:(Ŀ (Fin 8->Int))){c:Value}{h:Int}(h2:Δ (Rp.sl Zj) G (d) i)(h3:Δ (Rp.sl Zj) G (e) j)(m:Δ Zj G (a) k)(n:Δ (Rp.vec .i64 8) G (c) l):ZkA.er G ([.int .i64 g,d,e,.int .i64 f,a,c,.int .i64 h]) ((ZF.mk (Zd.mk g i j) (Zc.mk f k l) h)):=⟨[.int .i64 g,d,e],[.int .i64 f,a,c,.int .i64 h],rfl,⟨[.int .i64 g],[d,e],rfl,rfl,⟨[d],[e],rfl,⟨_,rfl,h2⟩,⟨_,rfl,h3⟩⟩⟩,⟨[.int .i64 f,a,c],[.int .i64 h],rfl,⟨[.int .i64 f],[a,c],rfl,rfl,⟨[a],[c],rfl,⟨_,rfl,m⟩,⟨_,rfl,n⟩⟩⟩,rfl⟩⟩
theorem Zov{G:Mem}{f:(Ŀ Zb)}{a:Value}{c:Int}{d:Int}{e:Int}(g:Δ Zr G (a) f):ZoA.er G ([a,.int .i64 c,.int .i64 d,.int .i64 e]) ((Zx.mk (Ze.mk f c) d e)):=⟨[a,.int .i64 c],[.int .i64 d,.int .i64 e],rfl,⟨[a],[.int .i64 c],rfl,⟨_,rfl,g⟩,rfl⟩,⟨[.int .i64 d],[.int .i64 e],rfl,rfl,rfl⟩⟩
theorem Znj{G:Mem}{c:Int}{d:(Ŀ Za)}{a:Value}(h2:Δ Zj G (a) d):ZM.er G ([.int .i64 c,a]) ((Zo.mk c d)):=⟨[.int .i64 c],[a],rfl,rfl,⟨_,rfl,h2⟩⟩
theorem ZpZ{G:Mem}{f:(Ŀ Ĳ)}{e:Value}{g:(Ŀ Zo)}{d:Value}{h:(Ŀ Zo)}{a:Value}{c:Int}(i:Δ Rp.str G (e) f)(h2:Δ ZM G (d) g)(h3:Δ ZM G (a) h):Zqb.er G ([e,d,a,.int .i64 c]) ((Zy.mk f g h c)):=⟨[e],[d,a,.int .i64 c],rfl,⟨_,rfl,i⟩,⟨[d],[a,.int .i64 c],rfl,⟨_,rfl,h2⟩,⟨[a],[.int .i64 c],rfl,⟨_,rfl,h3⟩,rfl⟩⟩⟩
theorem Zou{G:Mem}{d:Int}(e:(Ŀ (Ŀ Za))){a:Value}(f:(Ŀ (Ŀ Za))){c:Value}(h2:Δ (Rp.sl Zj) G (a) e)(h3:Δ (Rp.sl Zj) G (c) f):PV.er G ([.int .i64 d,a,c]) ((ZE.mk (Zd.mk d e f))):=⟨[.int .i64 d],[a,c],rfl,rfl,⟨[a],[c],rfl,⟨_,rfl,h2⟩,⟨_,rfl,h3⟩⟩⟩
theorem Znm{G:Mem}{p:Int}(u:(Ŀ (Ŀ Za))){i:Value}(v:(Ŀ (Ŀ Za))){j:Value}{q:Int}{x:(Ŀ Za)}{k:Value}{h:Int}{g:Int}{f:Int}(y:(Ŀ (Fin 8->Int))){e:Value}(l:(Ŀ (Ŀ Za))){d:Value}{m:(Ŀ Int)}{a:Value}(n:(Ŀ (Ŀ Zl))){c:Value}(h2:Δ (Rp.sl Zj) G (i) u)(h3:Δ (Rp.sl Zj) G (j) v)(A:Δ Zj G (k) x)(B:Δ (Rp.vec .i64 8) G (e) y)(r:Δ (Rp.sl Zj) G (d) l)(s:Δ (Rp.int .i64) G (a) m)(t:Δ (Rp.arr Z3 8) G (c) n):ZnD.er G ([.int .i64 p,i,j,.int .i64 q,k,.int .i64 h,.int .i64 g,.int .i64 f,e,d,a,c]) ((vo.mk (ZE.mk (Zd.mk p u v)) (Zk.mk q x h g f y l m n))):=⟨[.int .i64 p,i,j],[.int .i64 q,k,.int .i64 h,.int .i64 g,.int .i64 f,e,d,a,c],rfl,⟨[.int .i64 p],[i,j],rfl,rfl,⟨[i],[j],rfl,⟨_,rfl,h2⟩,⟨_,rfl,h3⟩⟩⟩,⟨[.int .i64 q],[k,.int .i64 h,.int .i64 g,.int .i64 f,e,d,a,c],rfl,rfl,⟨[k],[.int .i64 h,.int .i64 g,.int .i64 f,e,d,a,c],rfl,⟨_,rfl,A⟩,⟨[.int .i64 h],[.int .i64 g,.int .i64 f,e,d,a,c],rfl,rfl,⟨[.int .i64 g],[.int .i64 f,e,d,a,c],rfl,rfl,⟨[.int .i64 f],[e,d,a,c],rfl,rfl,⟨[e],[d,a,c],rfl,⟨_,rfl,B⟩,⟨[d],[a,c],rfl,⟨_,rfl,r⟩,⟨[a],[c],rfl,⟨_,rfl,s⟩,⟨_,rfl,t⟩⟩⟩⟩⟩⟩⟩⟩⟩⟩
theorem Zsm{G:Mem}{d:Int}{a:Int}{c:Int}:ZsM.er G ([.int .i8 d,.int .i8 a,.int .u8 c]) ((vk.mk d a c)):=⟨[.int .i8 d],[.int .i8 a,.int .u8 c],rfl,rfl,⟨[.int .i8 a],[.int .u8 c],rfl,rfl,rfl⟩⟩
theorem Ou{α:Type}{r:Rp α}{G:Mem}{cs:Ŀ Value}{x:α}(h:r.er G cs x:=by first|(apply ZvP<;>exact gN)|(apply ZvQ<;>exact gN)|(apply Zt1<;>exact gN)|(apply ZtZ<;>exact gN)|(apply Znl<;>exact gN)|(apply Zt0<;>exact gN)|(apply Zsk<;>exact gN)|(apply Zsn<;>exact gN)|(apply Zsp<;>exact gN)|(apply Zso<;>exact gN)|(apply Zp0<;>exact gN)|(apply Znk<;>exact gN)|(apply Zsl<;>exact gN)|(apply Zki<;>exact gN)|(apply Zov<;>exact gN)|(apply Znj<;>exact gN)|(apply ZpZ<;>exact gN)|(apply Zou<;>exact gN)|(apply Znm<;>exact gN)|(apply Zsm<;>exact gN)):r.er G cs x:=h
instance amN:ElC prog 5 (.int .u8 0) 1 1:=⟨G5⟩
instance WU:ElC prog 50 (.slice none 0 0) 1 24:=⟨jB⟩
instance WV:ElC prog 56 (.agg ([.int .i64 0,.int .i64 0,.slice none 0 0,.slice none 0 0,.int .i64 0,.slice none 0 0,.slice none 0 0,.int .i64 0,.int .i64 0,.int .i64 0,.bool false]).toArray) 11 152:=⟨np⟩
instance WW:ElC prog 71 (.agg (õ (Value.int .i64) 8 (λ_=>0)).toArray) 8 64:=⟨od⟩
instance NO:ElC prog 248 (.int .u32 0) 1 4:=⟨vY⟩
instance HR:Off prog 26 1 1:=⟨trivial⟩
instance HS:Off prog 54 0 0:=⟨trivial⟩
instance HT:Off prog 54 1 1:=⟨trivial⟩
instance HU:Off prog 94 0 0:=⟨trivial⟩
instance HV:Off prog 94 1 3:=⟨trivial⟩
instance HW:Off prog 94 2 6:=⟨trivial⟩
instance CN:Off prog 100 0 0:=⟨trivial⟩
instance CO:Off prog 100 1 2:=⟨trivial⟩
instance CP:Off prog 100 2 3:=⟨trivial⟩
instance CQ:Off prog 129 0 0:=⟨trivial⟩
instance CR:Off prog 129 3 3:=⟨trivial⟩
instance CS:Off prog 147 0 0:=⟨trivial⟩
instance amQ:RpT prog 3 _ (Rp.int .i64):=⟨trivial⟩
instance amR:RpT prog 5 _ (Rp.int .u8):=⟨trivial⟩
instance amS:RpT prog 9 _ Rp.str:=⟨trivial⟩
instance WY:RpT prog 50 _ (Rp.sl Zj):=⟨trivial⟩
instance WZ:RpT prog 54 _ xh:=⟨trivial⟩
instance W0:RpT prog 56 _ Zr:=⟨trivial⟩
instance W1:RpT prog 71 _ (Rp.vec .i64 8):=⟨trivial⟩
instance W2:RpT prog 89 _ yP:=⟨trivial⟩
instance NP:RpT prog 147 _ Zj:=⟨trivial⟩
instance NQ:RpT prog 194 _ ZM:=⟨trivial⟩
instance NR:RpT prog 248 _ (Rp.int .u32):=⟨trivial⟩
instance amO:Mix prog:=⟨eL⟩
end Go.Proofs.YtepbagkffgddlaaGreat

namespace Go.Proofs
open Go.IntKind (i8 i16 i32 i64 u8 u16 u32 u64)
open Go.Shelf
def Tryz.ZxC:Go.Shelf.Ren:=⟨fun|14=>212|20=>270|21=>271|22=>272|23=>273|24=>274|25=>275|26=>276|27=>277|46=>314|47=>246|48=>247|49=>315|50=>316|15=>97|57=>332|28=>179|29=>180|n=>n,fun|24=>147|22=>49|3=>3|25=>206|4=>4|0=>0|46=>242|45=>241|50=>142|66=>295|39=>169|55=>250|70=>299|76=>329|77=>229|53=>248|5=>5|9=>9|n=>n,fun|n=>n⟩
theorem Tryz.Dx:Go.Proofs.SlLaysF0.n14 Tryz.prog Tryz.ZxC:={
 mixed:=İ
 f14:=⟨Tryz.f212.name,ĳ,Tryz.func212.trans (Ē some İ)⟩
 f15:=Tryz.func97.trans (Ē some İ)
 f20:=⟨Tryz.f270.name,ĳ,Tryz.func270.trans (Ē some İ)⟩
 f21:=⟨Tryz.f271.name,ĳ,Tryz.func271.trans (Ē some İ)⟩
 f22:=⟨Tryz.f272.name,ĳ,Tryz.func272.trans (Ē some İ)⟩
 f23:=⟨Tryz.f273.name,ĳ,Tryz.func273.trans (Ē some İ)⟩
 f24:=⟨Tryz.f274.name,ĳ,Tryz.func274.trans (Ē some İ)⟩
 f25:=⟨Tryz.f275.name,ĳ,Tryz.func275.trans (Ē some İ)⟩
 f26:=⟨Tryz.f276.name,ĳ,Tryz.func276.trans (Ē some İ)⟩
 f27:=⟨Tryz.f277.name,ĳ,Tryz.func277.trans (Ē some İ)⟩
 f28:=Tryz.func179.trans (Ē some İ)
 f29:=Tryz.func180.trans (Ē some İ)
 f46:=⟨Tryz.f314.name,ĳ,Tryz.func314.trans (Ē some İ)⟩
 f47:=Tryz.func246.trans (Ē some İ)
 f48:=Tryz.func247.trans (Ē some İ)
 f49:=⟨Tryz.f315.name,ĳ,Tryz.func315.trans (Ē some İ)⟩
 f50:=⟨Tryz.f316.name,ĳ,Tryz.func316.trans (Ē some İ)⟩
 f57:=⟨Tryz.f332.name,ĳ,Tryz.func332.trans (Ē some İ)⟩
 t0:=Tryz.underlying0
 a0:=Tryz.isAgg0
 z0:=Tryz.sizeOf0
 v0:=Tryz.zeroValue0
 t3:=Tryz.underlying3
 a3:=Tryz.isAgg3
 z3:=Tryz.sizeOf3
 v3:=Tryz.zeroValue3
 t4:=Tryz.underlying4
 a4:=Tryz.isAgg4
 z4:=Tryz.sizeOf4
 v4:=Tryz.zeroValue4
 t5:=Tryz.underlying5
 a5:=Tryz.isAgg5
 z5:=Tryz.sizeOf5
 v5:=Tryz.zeroValue5
 t9:=Tryz.underlying9
 a9:=Tryz.isAgg9
 z9:=Tryz.sizeOf9
 v9:=Tryz.zeroValue9
 t22:=Tryz.underlying49
 a22:=Tryz.isAgg49
 z22:=Tryz.sizeOf49
 v22:=Tryz.zeroValue49
 t25:=Tryz.underlying206
 a25:=Tryz.isAgg206
 z25:=Tryz.sizeOf206
 v25:=Tryz.zeroValue206
 t39:=Tryz.underlying169
 a39:=Tryz.isAgg169
 z39:=Tryz.sizeOf169
 v39:=Tryz.zeroValue169
 t45:=Tryz.underlying241
 a45:=Tryz.isAgg241
 z45:=Tryz.sizeOf241
 v45:=Tryz.zeroValue241
 t46:=Tryz.underlying242
 a46:=Tryz.isAgg242
 z46:=Tryz.sizeOf242
 v46:=Tryz.zeroValue242
 t50:=Tryz.underlying142
 a50:=Tryz.isAgg142
 z50:=Tryz.sizeOf142
 v50:=Tryz.zeroValue142
 t53:=Tryz.underlying248
 a53:=Tryz.isAgg248
 z53:=Tryz.sizeOf248
 v53:=Tryz.zeroValue248
 t55:=Tryz.underlying250
 a55:=Tryz.isAgg250
 z55:=Tryz.sizeOf250
 v55:=Tryz.zeroValue250
 t66:=Tryz.underlying295
 a66:=Tryz.isAgg295
 z66:=Tryz.sizeOf295
 v66:=Tryz.zeroValue295
 t70:=Tryz.underlying299
 a70:=Tryz.isAgg299
 z70:=Tryz.sizeOf299
 v70:=Tryz.zeroValue299
 t76:=Tryz.underlying329
 a76:=Tryz.isAgg329
 z76:=Tryz.sizeOf329
 v76:=Tryz.zeroValue329
 t77:=Tryz.underlying229
 a77:=Tryz.isAgg229
 z77:=Tryz.sizeOf229
 v77:=Tryz.zeroValue229 }
def Tryz.ZxD:Go.Shelf.Ren:=⟨fun|14=>259|20=>296|21=>297|22=>298|23=>299|24=>300|25=>301|26=>302|27=>303|46=>325|47=>246|48=>247|49=>326|50=>327|15=>97|57=>339|28=>179|29=>180|n=>n,fun|24=>50|22=>46|3=>3|25=>189|4=>4|0=>0|46=>242|45=>241|50=>142|66=>295|39=>169|55=>250|70=>299|76=>329|77=>229|53=>248|5=>5|9=>9|n=>n,fun|n=>n⟩
theorem Tryz.Dy:Go.Proofs.SlLaysF.n14 Tryz.prog Tryz.ZxD:={
 mixed:=İ
 f14:=⟨Tryz.f259.name,ĳ,Tryz.func259.trans (Ē some İ)⟩
 f15:=Tryz.func97.trans (Ē some İ)
 f20:=⟨Tryz.f296.name,ĳ,Tryz.func296.trans (Ē some İ)⟩
 f21:=⟨Tryz.f297.name,ĳ,Tryz.func297.trans (Ē some İ)⟩
 f22:=⟨Tryz.f298.name,ĳ,Tryz.func298.trans (Ē some İ)⟩
 f23:=⟨Tryz.f299.name,ĳ,Tryz.func299.trans (Ē some İ)⟩
 f24:=⟨Tryz.f300.name,ĳ,Tryz.func300.trans (Ē some İ)⟩
 f25:=⟨Tryz.f301.name,ĳ,Tryz.func301.trans (Ē some İ)⟩
 f26:=⟨Tryz.f302.name,ĳ,Tryz.func302.trans (Ē some İ)⟩
 f27:=⟨Tryz.f303.name,ĳ,Tryz.func303.trans (Ē some İ)⟩
 f28:=Tryz.func179.trans (Ē some İ)
 f29:=Tryz.func180.trans (Ē some İ)
 f46:=⟨Tryz.f325.name,ĳ,Tryz.func325.trans (Ē some İ)⟩
 f47:=Tryz.func246.trans (Ē some İ)
 f48:=Tryz.func247.trans (Ē some İ)
 f49:=⟨Tryz.f326.name,ĳ,Tryz.func326.trans (Ē some İ)⟩
 f50:=⟨Tryz.f327.name,ĳ,Tryz.func327.trans (Ē some İ)⟩
 f57:=⟨Tryz.f339.name,ĳ,Tryz.func339.trans (Ē some İ)⟩
 t0:=Tryz.underlying0
 a0:=Tryz.isAgg0
 z0:=Tryz.sizeOf0
 v0:=Tryz.zeroValue0
 t3:=Tryz.underlying3
 a3:=Tryz.isAgg3
 z3:=Tryz.sizeOf3
 v3:=Tryz.zeroValue3
 t4:=Tryz.underlying4
 a4:=Tryz.isAgg4
 z4:=Tryz.sizeOf4
 v4:=Tryz.zeroValue4
 t5:=Tryz.underlying5
 a5:=Tryz.isAgg5
 z5:=Tryz.sizeOf5
 v5:=Tryz.zeroValue5
 t9:=Tryz.underlying9
 a9:=Tryz.isAgg9
 z9:=Tryz.sizeOf9
 v9:=Tryz.zeroValue9
 t22:=Tryz.underlying46
 a22:=Tryz.isAgg46
 z22:=Tryz.sizeOf46
 v22:=Tryz.zeroValue46
 a24:=Tryz.isAgg50
 z24:=Tryz.sizeOf50
 t25:=Tryz.underlying189
 a25:=Tryz.isAgg189
 z25:=Tryz.sizeOf189
 v25:=Tryz.zeroValue189
 t39:=Tryz.underlying169
 a39:=Tryz.isAgg169
 z39:=Tryz.sizeOf169
 v39:=Tryz.zeroValue169
 t45:=Tryz.underlying241
 a45:=Tryz.isAgg241
 z45:=Tryz.sizeOf241
 v45:=Tryz.zeroValue241
 t46:=Tryz.underlying242
 a46:=Tryz.isAgg242
 z46:=Tryz.sizeOf242
 v46:=Tryz.zeroValue242
 t50:=Tryz.underlying142
 a50:=Tryz.isAgg142
 z50:=Tryz.sizeOf142
 v50:=Tryz.zeroValue142
 t53:=Tryz.underlying248
 a53:=Tryz.isAgg248
 z53:=Tryz.sizeOf248
 v53:=Tryz.zeroValue248
 t55:=Tryz.underlying250
 a55:=Tryz.isAgg250
 z55:=Tryz.sizeOf250
 v55:=Tryz.zeroValue250
 t66:=Tryz.underlying295
 a66:=Tryz.isAgg295
 z66:=Tryz.sizeOf295
 v66:=Tryz.zeroValue295
 t70:=Tryz.underlying299
 a70:=Tryz.isAgg299
 z70:=Tryz.sizeOf299
 v70:=Tryz.zeroValue299
 t76:=Tryz.underlying329
 a76:=Tryz.isAgg329
 z76:=Tryz.sizeOf329
 v76:=Tryz.zeroValue329
 t77:=Tryz.underlying229
 a77:=Tryz.isAgg229
 z77:=Tryz.sizeOf229
 v77:=Tryz.zeroValue229 }
def Tryz.ZxE:Go.Shelf.Ren:=⟨fun|14=>96|20=>171|21=>172|22=>173|23=>174|24=>175|25=>176|26=>177|27=>178|46=>245|47=>246|48=>247|49=>248|50=>249|15=>97|57=>295|28=>179|29=>180|n=>n,fun|24=>56|22=>24|3=>3|25=>110|4=>4|0=>0|46=>242|45=>241|50=>142|66=>295|39=>169|55=>250|70=>299|76=>329|77=>229|53=>248|5=>5|9=>9|n=>n,fun|n=>n⟩
theorem Tryz.Dz:Go.Proofs.SlLaysF0.n14 Tryz.prog Tryz.ZxE:={
 mixed:=İ
 f14:=⟨Tryz.f96.name,ĳ,Tryz.func96.trans (Ē some İ)⟩
 f15:=Tryz.func97.trans (Ē some İ)
 f20:=⟨Tryz.f171.name,ĳ,Tryz.func171.trans (Ē some İ)⟩
 f21:=⟨Tryz.f172.name,ĳ,Tryz.func172.trans (Ē some İ)⟩
 f22:=⟨Tryz.f173.name,ĳ,Tryz.func173.trans (Ē some İ)⟩
 f23:=⟨Tryz.f174.name,ĳ,Tryz.func174.trans (Ē some İ)⟩
 f24:=⟨Tryz.f175.name,ĳ,Tryz.func175.trans (Ē some İ)⟩
 f25:=⟨Tryz.f176.name,ĳ,Tryz.func176.trans (Ē some İ)⟩
 f26:=⟨Tryz.f177.name,ĳ,Tryz.func177.trans (Ē some İ)⟩
 f27:=⟨Tryz.f178.name,ĳ,Tryz.func178.trans (Ē some İ)⟩
 f28:=Tryz.func179.trans (Ē some İ)
 f29:=Tryz.func180.trans (Ē some İ)
 f46:=⟨Tryz.f245.name,ĳ,Tryz.func245.trans (Ē some İ)⟩
 f47:=Tryz.func246.trans (Ē some İ)
 f48:=Tryz.func247.trans (Ē some İ)
 f49:=⟨Tryz.f248.name,ĳ,Tryz.func248.trans (Ē some İ)⟩
 f50:=⟨Tryz.f249.name,ĳ,Tryz.func249.trans (Ē some İ)⟩
 f57:=⟨Tryz.f295.name,ĳ,Tryz.func295.trans (Ē some İ)⟩
 t0:=Tryz.underlying0
 a0:=Tryz.isAgg0
 z0:=Tryz.sizeOf0
 v0:=Tryz.zeroValue0
 t3:=Tryz.underlying3
 a3:=Tryz.isAgg3
 z3:=Tryz.sizeOf3
 v3:=Tryz.zeroValue3
 t4:=Tryz.underlying4
 a4:=Tryz.isAgg4
 z4:=Tryz.sizeOf4
 v4:=Tryz.zeroValue4
 t5:=Tryz.underlying5
 a5:=Tryz.isAgg5
 z5:=Tryz.sizeOf5
 v5:=Tryz.zeroValue5
 t9:=Tryz.underlying9
 a9:=Tryz.isAgg9
 z9:=Tryz.sizeOf9
 v9:=Tryz.zeroValue9
 t22:=Tryz.underlying24
 a22:=Tryz.isAgg24
 z22:=Tryz.sizeOf24
 v22:=Tryz.zeroValue24
 t25:=Tryz.underlying110
 a25:=Tryz.isAgg110
 z25:=Tryz.sizeOf110
 v25:=Tryz.zeroValue110
 t39:=Tryz.underlying169
 a39:=Tryz.isAgg169
 z39:=Tryz.sizeOf169
 v39:=Tryz.zeroValue169
 t45:=Tryz.underlying241
 a45:=Tryz.isAgg241
 z45:=Tryz.sizeOf241
 v45:=Tryz.zeroValue241
 t46:=Tryz.underlying242
 a46:=Tryz.isAgg242
 z46:=Tryz.sizeOf242
 v46:=Tryz.zeroValue242
 t50:=Tryz.underlying142
 a50:=Tryz.isAgg142
 z50:=Tryz.sizeOf142
 v50:=Tryz.zeroValue142
 t53:=Tryz.underlying248
 a53:=Tryz.isAgg248
 z53:=Tryz.sizeOf248
 v53:=Tryz.zeroValue248
 t55:=Tryz.underlying250
 a55:=Tryz.isAgg250
 z55:=Tryz.sizeOf250
 v55:=Tryz.zeroValue250
 t66:=Tryz.underlying295
 a66:=Tryz.isAgg295
 z66:=Tryz.sizeOf295
 v66:=Tryz.zeroValue295
 t70:=Tryz.underlying299
 a70:=Tryz.isAgg299
 z70:=Tryz.sizeOf299
 v70:=Tryz.zeroValue299
 t76:=Tryz.underlying329
 a76:=Tryz.isAgg329
 z76:=Tryz.sizeOf329
 v76:=Tryz.zeroValue329
 t77:=Tryz.underlying229
 a77:=Tryz.isAgg229
 z77:=Tryz.sizeOf229
 v77:=Tryz.zeroValue229 }
end Go.Proofs

namespace Go.EL
open Go.IntKind (i8 i16 i32 i64 u8 u16 u32 u64)
open Go Go.RowKit
theorem TL(a b:Int):(Ey a b).ω (if a<b then -1 else if b<a then 1 else 0):=by
 refine⟨false,?_,false,?_,?_⟩
 .exact (Ĉ (λh=>h rfl):decide (¬a=a)=false)
 .exact (Ĉ (λh=>h rfl):decide (¬b=b)=false)
 rw[Cq.Zm,ā ĳ,Cq.Zm,ā ĳ,Cq.Zm];by_cases h:a<b
 .rw[ą h,ą h];rfl
 rw[ā h,ā h,Cq.Zm];by_cases h2:b<a
 .rw[ą h2,ą h2];rfl
 rw[ā h2,ā h2];rfl
theorem Zww(x y:Int):(KT [x,y]).ω (if x=0 then y else x):=by
 by_cases a:x=0
 .subst a;rw[ą rfl];refine Cq.Zt ⟨0,⟨ĳ,rfl⟩,Cq.wp.no (λh=>h rfl) (Cq.Zt ⟨y,⟨ĳ,rfl⟩,?_⟩)⟩;by_cases c:y=0
  .subst c;exact Cq.wp.no (λh=>h rfl) (Cq.Zt rfl)
  exact Cq.wp.yes c rfl
 rw[ā a];exact Cq.Zt ⟨x,⟨ĳ,rfl⟩,Cq.wp.yes a rfl⟩
theorem Zyf(s t:Zb):(Kd s t).ω (lu s t):=by
 refine⟨_,TL _ _,_,TL _ _,_,Zww _ _,?_⟩;show(if _=(0:Int)then _ else _)=lu s t;unfold lu;by_cases a:s.η<t.η
 .rw[ą a,ą a];rfl
 rw[ā a,ā a];by_cases h2:t.η<s.η
 .rw[ą h2,ą h2];rfl
 rw[ā h2,ā h2];rfl
end Go.EL

namespace Go.Proofs.YtepbagkffgddlaaGreat
open Go.IntKind (i8 i16 i32 i64 u8 u16 u32 u64)
open Go.Proofs.Tryz
open Go Go.EL Go.RowKit Go.Proofs
abbrev i'(x:Int):Value:=.int .i64 x
abbrev sl{α:Type}(r:Rp α)(G:Mem)(p:ŀ Addr)(c:Nat)(xs:Ŀ α):Prop:=Δ r G (.slice p xs.length c) xs
abbrev ζ(x:Zg)(c:ŀ Addr)(a:Nat):Ŀ Value:=[.bool x.neg,.slice c x.υ.length a]
abbrev Ï(x:Zg):Mem->Value->Prop:=λG v=>∃a c,v=.agg ((ζ x a c)).toArray/\sl (Rp.int .u32) G a c x.υ
abbrev Τ(x:Zf)(e:ŀ Addr)(d:Nat)(c:ŀ Addr)(a:Nat):Ŀ Value:=[.bool x.num.neg,.slice e x.num.υ.length d,.bool x.den.neg,.slice c x.den.υ.length a]
abbrev eB(x:Zf):Mem->Value->Prop:=λG v=>∃a c d e,v=.agg ((Τ x a c d e)).toArray/\sl (Rp.int .u32) G a c x.num.υ/\sl (Rp.int .u32) G d e x.den.υ
abbrev iA(x:Zf×Int):Mem->Value->Prop:=λG v=>∃a c d e,v=.tuple #[.agg ((Τ x.1 a c d e)).toArray,i' x.2]/\sl (Rp.int .u32) G a c x.1.num.υ/\sl (Rp.int .u32) G d e x.1.den.υ
abbrev Ä(x:Zd)(e:ŀ Addr)(d:Nat)(c:ŀ Addr)(a:Nat):Ŀ Value:=[.int .i64 x.n,.slice e x.eqs.length d,.slice c x.neqs.length a]
abbrev u9(x:Zd):Mem->Value->Prop:=λG v=>∃a c d e,v=.agg ((Ä x a c d e)).toArray/\sl (Rp.sl Zj) G a c x.eqs/\sl (Rp.sl Zj) G d e x.neqs
abbrev l9(x:Zd×Int):Mem->Value->Prop:=λG v=>∃a c d e,v=.tuple #[.agg ((Ä x.1 a c d e)).toArray,i' x.2]/\sl (Rp.sl Zj) G a c x.1.eqs/\sl (Rp.sl Zj) G d e x.1.neqs
abbrev fA(x:Zb)(e:ŀ Addr)(d:Nat)(c:ŀ Addr)(a:Nat)(i:ŀ Addr)(h:Nat)(g:ŀ Addr)(f:Nat):Ŀ Value:=[.int .i64 x.id,.int .i64 x.k.n,.slice e x.k.eqs.length d,.slice c x.k.neqs.length a,.int .i64 x.q.kind,.slice i x.q.p.length h,.slice g x.q.o.length f,.int .i64 x.η,.int .i64 x.low,.int .i64 x.high,.bool x.done]
abbrev DY(x:Zb):Mem->Value->Prop:=λG v=>∃a c d e q4 q5 f g,v=.agg ((fA x a c d e q4 q5 f g)).toArray/\sl (Rp.sl Zj) G a c x.k.eqs/\sl (Rp.sl Zj) G d e x.k.neqs/\sl Zj G q4 q5 x.q.p/\sl (Rp.vec .i64 8) G f g x.q.o
abbrev fS(x:Ze)(c:ŀ Addr)(a:Nat):Ŀ Value:=[.slice c x.t.length a,.int .i64 x.next]
abbrev kI(x:Ze):Mem->Value->Prop:=λG v=>∃a c,v=.agg ((fS x a c)).toArray/\sl Zr G a c x.t
abbrev jn(x:Ze×Int):Mem->Value->Prop:=λG v=>∃a c,v=.tuple #[.agg ((fS x.1 a c)).toArray,i' x.2]/\sl Zr G a c x.1.t
abbrev Ç(x:Ze×Int×Int):Mem->Value->Prop:=λG v=>∃a c,v=.tuple #[.agg ((fS x.1 a c)).toArray,i' x.2.1,i' x.2.2]/\sl Zr G a c x.1.t
abbrev OS(x:ZB)(d:ŀ Addr)(lc:Nat)(c:ŀ Addr)(a:Nat):Ŀ Value:=[.int .u8 x.n,.slice d x.l.length lc,.slice c x.iT.length a]
abbrev DS(x:ZN)(a:ŀ Addr)(lc:Nat)(d:ŀ Addr)(c:Nat):Ŀ Value:=[.int .u8 x.kind,.slice a x.l.length lc,.slice d x.v.length c]
abbrev tu(x:Zv)(e:ŀ Addr)(d:Nat)(c:ŀ Addr)(a:Nat)(g:ŀ Addr)(f:Nat)(h:ŀ Addr)(lc:Nat):Ŀ Value:=[.int .u8 x.fY,.int .u8 x.c.n,.slice e x.c.l.length d,.slice c x.c.iT.length a,.int .u8 x.kind,.slice g x.p.t.length f,.int .u8 x.o,.slice h x.l.length lc,.int .i64 x.id,.int .i64 x.Κ]
abbrev wJ(x:Zl)(i:ŀ Addr)(h:Nat)(g:ŀ Addr)(f:Nat)(e:ŀ Addr)(d:Nat)(c:ŀ Addr)(a:Nat):Ŀ Value:=[.bool x.lo.num.neg,.slice i x.lo.num.υ.length h,.bool x.lo.den.neg,.slice g x.lo.den.υ.length f,.bool x.hi.num.neg,.slice e x.hi.num.υ.length d,.bool x.hi.den.neg,.slice c x.hi.den.υ.length a]
abbrev jY(x:Zk)(g:ŀ Addr)(f:Nat)(op:ŀ Addr)(e:Nat)(d:ŀ Addr)(lc:Nat)(i:ŀ Addr)(h:Nat)(c:ŀ Addr)(a:Nat):Ŀ Value:=[.int .i64 x.kind,.slice g x.p.length f,.int .i64 x.n,.int .i64 x.d,.int .i64 x.r,.slice op x.o.length e,.slice d x.l.length lc,.slice i x.s.length h,.slice c x.b.length a]
abbrev OW(x:Zk):Mem->Value->Prop:=λG v=>∃a c d e q4 q5 f g h i,v=.agg ((jY x a c d e q4 q5 f g h i)).toArray/\sl Zj G a c x.p/\sl (Rp.vec .i64 8) G d e x.o/\sl (Rp.sl Zj) G q4 q5 x.l/\sl (Rp.int .i64) G f g x.s/\sl (Rp.arr Z3 8) G h i x.b
abbrev OT(x:ZF)(e:ŀ Addr)(d:Nat)(c:ŀ Addr)(a:Nat)(i:ŀ Addr)(h:Nat)(g:ŀ Addr)(f:Nat):Ŀ Value:=[.int .i64 x.k.n,.slice e x.k.eqs.length d,.slice c x.k.neqs.length a,.int .i64 x.q.kind,.slice i x.q.p.length h,.slice g x.q.o.length f,.int .i64 x.e]
abbrev OX(x:ZF):Mem->Value->Prop:=λG v=>∃a c d e q4 q5 f g,v=.agg ((OT x a c d e q4 q5 f g)).toArray/\sl (Rp.sl Zj) G a c x.k.eqs/\sl (Rp.sl Zj) G d e x.k.neqs/\sl Zj G q4 q5 x.q.p/\sl (Rp.vec .i64 8) G f g x.q.o
abbrev ox(x:Zx)(c:ŀ Addr)(a:Nat):Ŀ Value:=[.slice c x.b.t.length a,.int .i64 x.b.next,.int .i64 x.id,.int .i64 x.e]
abbrev qC(x:Zx):Mem->Value->Prop:=λG v=>∃a c,v=.agg ((ox x a c)).toArray/\sl Zr G a c x.b.t
abbrev ts(x:Zy)(e:ŀ Addr)(d:Nat)(g:ŀ Addr)(f:Nat)(c:ŀ Addr)(a:Nat):Ŀ Value:=[.slice e x.vars.length d,.slice g x.eqs.length f,.slice c x.neqs.length a,.int .i64 x.next]
abbrev DX(x:Zy):Mem->Value->Prop:=λG v=>∃a c d e q4 q5,v=.agg ((ts x a c d e q4 q5)).toArray/\sl Rp.str G a c x.vars/\sl ZM G d e x.eqs/\sl ZM G q4 q5 x.neqs
abbrev DT(x:vo)(e:ŀ Addr)(d:Nat)(c:ŀ Addr)(a:Nat)(m:ŀ Addr)(l:Nat)(k:ŀ Addr)(j:Nat)(i:ŀ Addr)(h:Nat)(p:ŀ Addr)(n:Nat)(g:ŀ Addr)(f:Nat):Ŀ Value:=[.int .i64 x.rules.k.n,.slice e x.rules.k.eqs.length d,.slice c x.rules.k.neqs.length a,.int .i64 x.c.kind,.slice m x.c.p.length l,.int .i64 x.c.n,.int .i64 x.c.d,.int .i64 x.c.r,.slice k x.c.o.length j,.slice i x.c.l.length h,.slice p x.c.s.length n,.slice g x.c.b.length f]
abbrev DU(x:vk):Ŀ Value:=[.int .i8 x.n,.int .i8 x.d,.int .u8 x.k]
abbrev fT{α:Type}(R:Rp α)(x:Ŀ α):Mem->Value->Prop:=λG v=>∃a c,v=.slice a x.length c/\sl @R G a c x
abbrev iB{α:Type}(R:Rp α)(x:Ŀ α×Int):Mem->Value->Prop:=λG v=>∃a c,v=.tuple #[.slice a x.1.length c,i' x.2]/\sl @R G a c x.1
abbrev ff:=false
abbrev tt:=true
abbrev jy:Ŀ Value:=[Value.bool false,Value.slice none 0 0,Value.bool false,Value.slice none 0 0,Value.bool false,Value.slice none 0 0,Value.bool false,Value.slice none 0 0,Value.bool false,Value.slice none 0 0,Value.bool false,Value.slice none 0 0,Value.bool false,Value.slice none 0 0,Value.bool false,Value.slice none 0 0,Value.bool false,Value.slice none 0 0,Value.bool false,Value.slice none 0 0,Value.bool false,Value.slice none 0 0,Value.bool false,Value.slice none 0 0,Value.bool false,Value.slice none 0 0,Value.bool false,Value.slice none 0 0,Value.bool false,Value.slice none 0 0,Value.bool false,Value.slice none 0 0,Value.bool false,Value.slice none 0 0,Value.bool false,Value.slice none 0 0,Value.bool false,Value.slice none 0 0,Value.bool false,Value.slice none 0 0,Value.bool false,Value.slice none 0 0,Value.bool false,Value.slice none 0 0,Value.bool false,Value.slice none 0 0,Value.bool false,Value.slice none 0 0,Value.bool false,Value.slice none 0 0,Value.bool false,Value.slice none 0 0,Value.bool false,Value.slice none 0 0,Value.bool false,Value.slice none 0 0,Value.bool false,Value.slice none 0 0,Value.bool false,Value.slice none 0 0,Value.bool false,Value.slice none 0 0,Value.bool false,Value.slice none 0 0]
abbrev Ø(f:Fin 8->Int):Ŀ Value:=õ (Value.int .i64) 8 f
abbrev δ{α:Type}(p:ŀ Addr)(l:Ŀ α)(c:Nat):Value:=.slice p l.length c
theorem Ö{P:Program}{N:Nat}{fn:Func}{w0:Bs}{G0 G:Mem}{L:Lo}{fr:Fr}{a:ResultVar}{α:Type}{f:α->Value}{x r:α}(e:x=r)(hr:fn.results = #[a])(c:RV P fr L a (f x)):WE N (bodyPost P fn (jS w0 G0 λ_ _ v=>v=f r)) .ret fr (St w0 G0 G L):=e ▸ WE.ja hr c rfl
abbrev ú(b:Nat)(c:Ŀ Value)(t:TypeId):ŀ Ow:=some ⟨b,.cells c.toArray t (0,0),0⟩
abbrev iK(b:Nat):Value:=.pointer (some ⟨b,0,none⟩)
abbrev D1(G:Mem)(p:ŀ Addr)(c:Nat)(q:ŀ Addr)(d:Nat)(r:ŀ Addr)(e:Nat)(x:Zy):Prop:=sl Rp.str G p c x.vars/\sl ZM G q d x.eqs/\sl ZM G r e x.neqs
theorem f1{f:Fr}{a0:Nat}{a:Value}(c:f.get a0=some a):Fr.sub [(a0,a)] f:=Fr.Zi c (Fr.Zq f)
theorem f2{f:Fr}{a0:Nat}{a:Value}{a1:Nat}{c:Value}(d:f.get a0=some a)(e:f.get a1=some c):Fr.sub [(a0,a),(a1,c)] f:=Fr.Zi d (Fr.Zi e (Fr.Zq f))
theorem f3{f:Fr}{a0:Nat}{a:Value}{a1:Nat}{c:Value}{a2:Nat}{d:Value}(e:f.get a0=some a)(g:f.get a1=some c)(h2:f.get a2=some d):Fr.sub [(a0,a),(a1,c),(a2,d)] f:=Fr.Zi e (Fr.Zi g (Fr.Zi h2 (Fr.Zq f)))
theorem f4{f:Fr}{a0:Nat}{a:Value}{a1:Nat}{c:Value}{a2:Nat}{d:Value}{a3:Nat}{e:Value}(g:f.get a0=some a)(h:f.get a1=some c)(h2:f.get a2=some d)(h3:f.get a3=some e):Fr.sub [(a0,a),(a1,c),(a2,d),(a3,e)] f:=Fr.Zi g (Fr.Zi h (Fr.Zi h2 (Fr.Zi h3 (Fr.Zq f))))
theorem f5{f:Fr}{a0:Nat}{a:Value}{a1:Nat}{c:Value}{a2:Nat}{d:Value}{a3:Nat}{e:Value}{a4:Nat}{g:Value}(h:f.get a0=some a)(i:f.get a1=some c)(h2:f.get a2=some d)(h3:f.get a3=some e)(j:f.get a4=some g):Fr.sub [(a0,a),(a1,c),(a2,d),(a3,e),(a4,g)] f:=Fr.Zi h (Fr.Zi i (Fr.Zi h2 (Fr.Zi h3 (Fr.Zi j (Fr.Zq f)))))
theorem f6{f:Fr}{a0:Nat}{a:Value}{a1:Nat}{c:Value}{a2:Nat}{d:Value}{a3:Nat}{e:Value}{a4:Nat}{g:Value}{a5:Nat}{h:Value}(i:f.get a0=some a)(j:f.get a1=some c)(h2:f.get a2=some d)(h3:f.get a3=some e)(k:f.get a4=some g)(l:f.get a5=some h):Fr.sub [(a0,a),(a1,c),(a2,d),(a3,e),(a4,g),(a5,h)] f:=Fr.Zi i (Fr.Zi j (Fr.Zi h2 (Fr.Zi h3 (Fr.Zi k (Fr.Zi l (Fr.Zq f))))))
theorem f7{f:Fr}{a0:Nat}{a:Value}{a1:Nat}{c:Value}{a2:Nat}{d:Value}{a3:Nat}{e:Value}{a4:Nat}{g:Value}{a5:Nat}{h:Value}{a6:Nat}{i:Value}(j:f.get a0=some a)(k:f.get a1=some c)(h2:f.get a2=some d)(h3:f.get a3=some e)(l:f.get a4=some g)(m:f.get a5=some h)(n:f.get a6=some i):Fr.sub [(a0,a),(a1,c),(a2,d),(a3,e),(a4,g),(a5,h),(a6,i)] f:=Fr.Zi j (Fr.Zi k (Fr.Zi h2 (Fr.Zi h3 (Fr.Zi l (Fr.Zi m (Fr.Zi n (Fr.Zq f)))))))
theorem f8{f:Fr}{a0:Nat}{a:Value}{a1:Nat}{c:Value}{a2:Nat}{d:Value}{a3:Nat}{e:Value}{a4:Nat}{g:Value}{a5:Nat}{h:Value}{a6:Nat}{i:Value}{a7:Nat}{j:Value}(k:f.get a0=some a)(l:f.get a1=some c)(h2:f.get a2=some d)(h3:f.get a3=some e)(m:f.get a4=some g)(n:f.get a5=some h)(p:f.get a6=some i)(h7:f.get a7=some j):Fr.sub [(a0,a),(a1,c),(a2,d),(a3,e),(a4,g),(a5,h),(a6,i),(a7,j)] f:=Fr.Zi k (Fr.Zi l (Fr.Zi h2 (Fr.Zi h3 (Fr.Zi m (Fr.Zi n (Fr.Zi p (Fr.Zi h7 (Fr.Zq f))))))))
theorem f9{f:Fr}{a0:Nat}{a:Value}{a1:Nat}{c:Value}{a2:Nat}{d:Value}{a3:Nat}{e:Value}{a4:Nat}{g:Value}{a5:Nat}{h:Value}{a6:Nat}{i:Value}{a7:Nat}{j:Value}{a8:Nat}{k:Value}(l:f.get a0=some a)(m:f.get a1=some c)(h2:f.get a2=some d)(h3:f.get a3=some e)(n:f.get a4=some g)(p:f.get a5=some h)(q:f.get a6=some i)(h7:f.get a7=some j)(r:f.get a8=some k):Fr.sub [(a0,a),(a1,c),(a2,d),(a3,e),(a4,g),(a5,h),(a6,i),(a7,j),(a8,k)] f:=Fr.Zi l (Fr.Zi m (Fr.Zi h2 (Fr.Zi h3 (Fr.Zi n (Fr.Zi p (Fr.Zi q (Fr.Zi h7 (Fr.Zi r (Fr.Zq f)))))))))
theorem f10{f:Fr}{a0:Nat}{c:Value}{a1:Nat}{d:Value}{a2:Nat}{e:Value}{a3:Nat}{g:Value}{a4:Nat}{h:Value}{a5:Nat}{i:Value}{a6:Nat}{j:Value}{a7:Nat}{k:Value}{a8:Nat}{l:Value}{a:Nat}{m:Value}(n:f.get a0=some c)(p:f.get a1=some d)(h2:f.get a2=some e)(h3:f.get a3=some g)(q:f.get a4=some h)(r:f.get a5=some i)(s:f.get a6=some j)(h7:f.get a7=some k)(t:f.get a8=some l)(u:f.get a=some m):Fr.sub [(a0,c),(a1,d),(a2,e),(a3,g),(a4,h),(a5,i),(a6,j),(a7,k),(a8,l),(a,m)] f:=Fr.Zi n (Fr.Zi p (Fr.Zi h2 (Fr.Zi h3 (Fr.Zi q (Fr.Zi r (Fr.Zi s (Fr.Zi h7 (Fr.Zi t (Fr.Zi u (Fr.Zq f))))))))))
theorem f11{f:Fr}{a0:Nat}{g:Value}{a1:Nat}{h:Value}{a2:Nat}{i:Value}{a3:Nat}{j:Value}{a4:Nat}{k:Value}{a5:Nat}{l:Value}{a6:Nat}{m:Value}{a7:Nat}{n:Value}{a8:Nat}{p:Value}{e:Nat}{q:Value}{a:Nat}{c:Value}(r:f.get a0=some g)(s:f.get a1=some h)(h2:f.get a2=some i)(h3:f.get a3=some j)(t:f.get a4=some k)(u:f.get a5=some l)(v:f.get a6=some m)(h7:f.get a7=some n)(x:f.get a8=some p)(y:f.get e=some q)(d:f.get a=some c):Fr.sub [(a0,g),(a1,h),(a2,i),(a3,j),(a4,k),(a5,l),(a6,m),(a7,n),(a8,p),(e,q),(a,c)] f:=Fr.Zi r (Fr.Zi s (Fr.Zi h2 (Fr.Zi h3 (Fr.Zi t (Fr.Zi u (Fr.Zi v (Fr.Zi h7 (Fr.Zi x (Fr.Zi y (Fr.Zi d (Fr.Zq f)))))))))))
theorem f12{f:Fr}{a0:Nat}{j:Value}{a1:Nat}{k:Value}{a2:Nat}{l:Value}{a3:Nat}{m:Value}{a4:Nat}{n:Value}{a5:Nat}{p:Value}{a6:Nat}{q:Value}{a7:Nat}{r:Value}{a8:Nat}{s:Value}{i:Nat}{t:Value}{a:Nat}{d:Value}{c:Nat}{e:Value}(u:f.get a0=some j)(v:f.get a1=some k)(h2:f.get a2=some l)(h3:f.get a3=some m)(x:f.get a4=some n)(y:f.get a5=some p)(A:f.get a6=some q)(h7:f.get a7=some r)(B:f.get a8=some s)(C:f.get i=some t)(g:f.get a=some d)(h:f.get c=some e):Fr.sub [(a0,j),(a1,k),(a2,l),(a3,m),(a4,n),(a5,p),(a6,q),(a7,r),(a8,s),(i,t),(a,d),(c,e)] f:=Fr.Zi u (Fr.Zi v (Fr.Zi h2 (Fr.Zi h3 (Fr.Zi x (Fr.Zi y (Fr.Zi A (Fr.Zi h7 (Fr.Zi B (Fr.Zi C (Fr.Zi g (Fr.Zi h (Fr.Zq f))))))))))))
theorem f13{f:Fr}{a0:Nat}{m:Value}{a1:Nat}{n:Value}{a2:Nat}{p:Value}{a3:Nat}{q:Value}{a4:Nat}{r:Value}{a5:Nat}{s:Value}{a6:Nat}{t:Value}{a7:Nat}{u:Value}{a8:Nat}{v:Value}{l:Nat}{x:Value}{a:Nat}{e:Value}{c:Nat}{g:Value}{d:Nat}{h:Value}(y:f.get a0=some m)(A:f.get a1=some n)(h2:f.get a2=some p)(h3:f.get a3=some q)(B:f.get a4=some r)(C:f.get a5=some s)(D:f.get a6=some t)(h7:f.get a7=some u)(E:f.get a8=some v)(F:f.get l=some x)(i:f.get a=some e)(j:f.get c=some g)(k:f.get d=some h):Fr.sub [(a0,m),(a1,n),(a2,p),(a3,q),(a4,r),(a5,s),(a6,t),(a7,u),(a8,v),(l,x),(a,e),(c,g),(d,h)] f:=Fr.Zi y (Fr.Zi A (Fr.Zi h2 (Fr.Zi h3 (Fr.Zi B (Fr.Zi C (Fr.Zi D (Fr.Zi h7 (Fr.Zi E (Fr.Zi F (Fr.Zi i (Fr.Zi j (Fr.Zi k (Fr.Zq f)))))))))))))
theorem f14{f:Fr}{a0:Nat}{q:Value}{a1:Nat}{r:Value}{a2:Nat}{s:Value}{a3:Nat}{t:Value}{a4:Nat}{u:Value}{a5:Nat}{v:Value}{a6:Nat}{x:Value}{a7:Nat}{y:Value}{a8:Nat}{A:Value}{p:Nat}{B:Value}{a:Nat}{g:Value}{c:Nat}{h:Value}{d:Nat}{i:Value}{e:Nat}{j:Value}(C:f.get a0=some q)(D:f.get a1=some r)(h2:f.get a2=some s)(h3:f.get a3=some t)(E:f.get a4=some u)(F:f.get a5=some v)(G:f.get a6=some x)(h7:f.get a7=some y)(H:f.get a8=some A)(I:f.get p=some B)(k:f.get a=some g)(l:f.get c=some h)(m:f.get d=some i)(n:f.get e=some j):Fr.sub [(a0,q),(a1,r),(a2,s),(a3,t),(a4,u),(a5,v),(a6,x),(a7,y),(a8,A),(p,B),(a,g),(c,h),(d,i),(e,j)] f:=Fr.Zi C (Fr.Zi D (Fr.Zi h2 (Fr.Zi h3 (Fr.Zi E (Fr.Zi F (Fr.Zi G (Fr.Zi h7 (Fr.Zi H (Fr.Zi I (Fr.Zi k (Fr.Zi l (Fr.Zi m (Fr.Zi n (Fr.Zq f))))))))))))))
theorem f15{f:Fr}{a0:Nat}{t:Value}{a1:Nat}{u:Value}{a2:Nat}{v:Value}{a3:Nat}{x:Value}{a4:Nat}{y:Value}{a5:Nat}{A:Value}{a6:Nat}{B:Value}{a7:Nat}{C:Value}{a8:Nat}{D:Value}{s:Nat}{E:Value}{a:Nat}{h:Value}{c:Nat}{i:Value}{d:Nat}{j:Value}{e:Nat}{k:Value}{g:Nat}{l:Value}(F:f.get a0=some t)(G:f.get a1=some u)(h2:f.get a2=some v)(h3:f.get a3=some x)(H:f.get a4=some y)(I:f.get a5=some A)(J:f.get a6=some B)(h7:f.get a7=some C)(K:f.get a8=some D)(L:f.get s=some E)(m:f.get a=some h)(n:f.get c=some i)(p:f.get d=some j)(q:f.get e=some k)(r:f.get g=some l):Fr.sub [(a0,t),(a1,u),(a2,v),(a3,x),(a4,y),(a5,A),(a6,B),(a7,C),(a8,D),(s,E),(a,h),(c,i),(d,j),(e,k),(g,l)] f:=Fr.Zi F (Fr.Zi G (Fr.Zi h2 (Fr.Zi h3 (Fr.Zi H (Fr.Zi I (Fr.Zi J (Fr.Zi h7 (Fr.Zi K (Fr.Zi L (Fr.Zi m (Fr.Zi n (Fr.Zi p (Fr.Zi q (Fr.Zi r (Fr.Zq f)))))))))))))))
theorem f16{f:Fr}{a0:Nat}{v:Value}{a1:Nat}{x:Value}{a2:Nat}{y:Value}{a3:Nat}{A:Value}{a4:Nat}{B:Value}{a5:Nat}{C:Value}{a6:Nat}{D:Value}{a7:Nat}{E:Value}{a8:Nat}{F:Value}{u:Nat}{G:Value}{a:Nat}{i:Value}{c:Nat}{j:Value}{d:Nat}{k:Value}{e:Nat}{l:Value}{g:Nat}{m:Value}{h:Nat}{n:Value}(H:f.get a0=some v)(I:f.get a1=some x)(h2:f.get a2=some y)(h3:f.get a3=some A)(J:f.get a4=some B)(K:f.get a5=some C)(L:f.get a6=some D)(h7:f.get a7=some E)(N:f.get a8=some F)(O:f.get u=some G)(p:f.get a=some i)(q:f.get c=some j)(r:f.get d=some k)(s:f.get e=some l)(t:f.get g=some m)(oY:f.get h=some n):Fr.sub [(a0,v),(a1,x),(a2,y),(a3,A),(a4,B),(a5,C),(a6,D),(a7,E),(a8,F),(u,G),(a,i),(c,j),(d,k),(e,l),(g,m),(h,n)] f:=Fr.Zi H (Fr.Zi I (Fr.Zi h2 (Fr.Zi h3 (Fr.Zi J (Fr.Zi K (Fr.Zi L (Fr.Zi h7 (Fr.Zi N (Fr.Zi O (Fr.Zi p (Fr.Zi q (Fr.Zi r (Fr.Zi s (Fr.Zi t (Fr.Zi oY (Fr.Zq f))))))))))))))))
theorem w1{w0:Bs}{G0 G:Mem}{L:Lo}{a0:Nat}{a:ŀ Ow}(c:L.get a0=a):∀w,St w0 G0 G L w->St w0 G0 G [(a0,a)] w:=wk (Lo.Zi c (Lo.Zq L))
theorem w2{w0:Bs}{G0 G:Mem}{L:Lo}{a0:Nat}{a:ŀ Ow}{a1:Nat}{c:ŀ Ow}(d:L.get a0=a)(e:L.get a1=c):∀w,St w0 G0 G L w->St w0 G0 G [(a0,a),(a1,c)] w:=wk (Lo.Zi d (Lo.Zi e (Lo.Zq L)))
theorem w3{w0:Bs}{G0 G:Mem}{L:Lo}{a0:Nat}{a:ŀ Ow}{a1:Nat}{c:ŀ Ow}{a2:Nat}{d:ŀ Ow}(e:L.get a0=a)(f:L.get a1=c)(h2:L.get a2=d):∀w,St w0 G0 G L w->St w0 G0 G [(a0,a),(a1,c),(a2,d)] w:=wk (Lo.Zi e (Lo.Zi f (Lo.Zi h2 (Lo.Zq L))))
theorem w4{w0:Bs}{G0 G:Mem}{L:Lo}{a0:Nat}{a:ŀ Ow}{a1:Nat}{c:ŀ Ow}{a2:Nat}{d:ŀ Ow}{a3:Nat}{e:ŀ Ow}(f:L.get a0=a)(g:L.get a1=c)(h2:L.get a2=d)(h3:L.get a3=e):∀w,St w0 G0 G L w->St w0 G0 G [(a0,a),(a1,c),(a2,d),(a3,e)] w:=wk (Lo.Zi f (Lo.Zi g (Lo.Zi h2 (Lo.Zi h3 (Lo.Zq L)))))
theorem w5{w0:Bs}{G0 G:Mem}{L:Lo}{a0:Nat}{a:ŀ Ow}{a1:Nat}{c:ŀ Ow}{a2:Nat}{d:ŀ Ow}{a3:Nat}{e:ŀ Ow}{a4:Nat}{f:ŀ Ow}(g:L.get a0=a)(h:L.get a1=c)(h2:L.get a2=d)(h3:L.get a3=e)(i:L.get a4=f):∀w,St w0 G0 G L w->St w0 G0 G [(a0,a),(a1,c),(a2,d),(a3,e),(a4,f)] w:=wk (Lo.Zi g (Lo.Zi h (Lo.Zi h2 (Lo.Zi h3 (Lo.Zi i (Lo.Zq L))))))
theorem w6{w0:Bs}{G0 G:Mem}{L:Lo}{a0:Nat}{a:ŀ Ow}{a1:Nat}{c:ŀ Ow}{a2:Nat}{d:ŀ Ow}{a3:Nat}{e:ŀ Ow}{a4:Nat}{f:ŀ Ow}{a5:Nat}{g:ŀ Ow}(h:L.get a0=a)(i:L.get a1=c)(h2:L.get a2=d)(h3:L.get a3=e)(j:L.get a4=f)(k:L.get a5=g):∀w,St w0 G0 G L w->St w0 G0 G [(a0,a),(a1,c),(a2,d),(a3,e),(a4,f),(a5,g)] w:=wk (Lo.Zi h (Lo.Zi i (Lo.Zi h2 (Lo.Zi h3 (Lo.Zi j (Lo.Zi k (Lo.Zq L)))))))
abbrev a':=@WE.gC
abbrev b':=@WE.then
abbrev c':=@Zj
abbrev f':=@Y0.eU
abbrev g':=@WE.gw
abbrev h':=@Y0.om
abbrev j':=@WE.ja
abbrev k':=@Y0.move
abbrev m':=@WC.ret
abbrev n':=@Y0.î
abbrev o':=@WC.seq
abbrev p':=@WE.ä
abbrev q':=@WC.skip
abbrev t':=@WL.nil
abbrev w':=@WC.region
abbrev x':=@YC.of
abbrev y':=@Y0.eK
abbrev A':=@WL.fg
abbrev E':=@WE.inBlock
abbrev F':=@underlying116
abbrev H':=@WL.gg
abbrev I':=@WC.cr
abbrev J':=@iC.enter
abbrev K':=@WE.Í
abbrev N':=@WE.vO
abbrev O':=@Y0.extract
abbrev P':=@Y0.CW
abbrev Q':=@underlying50
abbrev R':=@Y0.ny
abbrev T':=@At.mono
abbrev W':=@WL.alloc
abbrev X':=@Δ.nil
abbrev Y':=@WC.block
abbrev Z':=@Y0.lss
abbrev gW:=@WL.call
abbrev jT:=@underlying46
abbrev kp:=@Y0.lS
abbrev eM:=@Y0.eql
abbrev nJ:=@WC.wq
abbrev nK:=@WC.exit
abbrev eb:=@WL.cr
abbrev oB:=@WE.B8
abbrev mT:=@WE.sp
abbrev gf:=@Rp.vec
abbrev iQ:=@Δ.at
abbrev pL:=@γ.l6
abbrev jU:=@WL.box
abbrev È:=@WL.skip
abbrev fL:=@WC.drawn
abbrev pN:=@WE.jH
abbrev kJ:=@RV.pT
abbrev n1:=@WC.pW
abbrev Γ:=@WE.nx
abbrev tI:=@underlying250
abbrev k8:=@Y0.not
abbrev uv:=@underlying24
abbrev nL:=@Y0.jF
abbrev rp:=@WL.eW
abbrev uq:=@underlying248
abbrev nI:=@Y0.ia
abbrev me:=@Y0.build
abbrev tH:=@underlying52
abbrev qM:=@γ.oa
abbrev kh:=@WC.V7
abbrev BE:=@underlying3
abbrev pJ:=@Y0.conv
abbrev GO:=@underlying71
abbrev ur:=@WE.uX
abbrev nb:=@WL.qY
abbrev zB:=@underlying44
abbrev zC:=@AtK.int
abbrev vJ:=@Y0.gtr
abbrev ko:=@γ.tv
abbrev GP:=@underlying5
abbrev n2:=@AtK.via
abbrev zD:=@Y0.VH
abbrev qO:=@Y0.neq
abbrev tM:=@WC.pV
abbrev lr:=@γ.alloc
abbrev nh:=@γ.nt
abbrev oU:=@underlying324
abbrev jV:=@WL.pM
abbrev pQ:=@Y0.gT
abbrev uy:=@γ.gg
abbrev M7:=@underlying82
abbrev xW:=@Y0.Vq
abbrev vP:=@Y0.geq
abbrev xX:=@AtK.snd
abbrev hQ:=@Y0.Mz
abbrev zF:=@Y0.VJ
abbrev uw:=@underlying87
abbrev xV:=@underlying9
abbrev oC:=@underlying325
abbrev vN:=@underlying127
abbrev mV:=@WE.ö
abbrev nM:=@γ.fQ
abbrev M5:=@underlying90
abbrev mm:=@γ.r9
abbrev nN:=@Y0.eq
abbrev lL:=@É.size
abbrev ry:=@eR.enter
abbrev mW:=@WL.kd
abbrev mn:=@γ.Dv
abbrev zK:=@γ.cr
abbrev sd:=@AtK.fst
abbrev la:=@Tok.full
abbrev BR:=@Y0.leq
abbrev rz:=@Y0.assign
abbrev rA:=@Y0.GG
abbrev Nb:=@underlying51
abbrev yb:=@Y0.rem
abbrev mw:=@WL.ö
abbrev mZ:=@γ.OY
abbrev uA:=@γ.float
abbrev yd:=@AtK.sl
abbrev zM:=@WL.storeT
abbrev xY:=@Y0.VK
abbrev zG:=@Y0.VP
abbrev zJ:=@Y0.VL
abbrev n5:=@eY.back
abbrev mu:=@WL.DR
abbrev oF:=@Β.at
abbrev pX:=@WL.eO
abbrev pY:=@WL.mQ
abbrev oc:=@eY.one
abbrev zP:=@γ.th
abbrev uB:=@WE.eO
abbrev zN:=@É.zero
abbrev zO:=@underlying225
abbrev BY:=@underlying126
abbrev tO:=@γ.CY
abbrev rB:=@Y0.wg
abbrev qT:=@Δ.eqv
abbrev B5:=@Β.zero
abbrev vW:=@WL.nf
abbrev B6:=@underlying102
abbrev rD:=@Δ.XT
abbrev rE:=@É.lt
abbrev yg:=@γ.yE
abbrev uF:=@Y0.nu
abbrev uG:=@AtK.BK
abbrev ye:=@γ.iM
abbrev vV:=@Y0.sG
abbrev wb:=@eY.nil
abbrev wa:=@É.at
abbrev Ns:=@underlying144
abbrev G6:=@Laid.drop
abbrev Nt:=@underlying158
end Go.Proofs.YtepbagkffgddlaaGreat

