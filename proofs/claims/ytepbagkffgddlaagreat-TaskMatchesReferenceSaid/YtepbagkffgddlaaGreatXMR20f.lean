/- The law TaskMatchesReference holds for every input: a part of its proof (fX the code does, plain models, and fX they return). No condition. -/
import Derived.Test.YtepbagkffgddlaaGreatXMR20e
import Derived.Test.YtepbagkffgddlaaGreatXMR20c
import Derived.Test.YtepbagkffgddlaaGreatXMR20d
import Derived.Test.YtepbagkffgddlaaGreatXMR20b
set_option linter.unusedVariables false
set_option linter.unusedSimpArgs false
namespace Go.EL
open Go.IntKind (i8 i16 i32 i64 u8 u16 u32 u64)
set_option maxRecDepth 20000
open Go Go.RowKit Go.Proofs
class Sca (P:Program) (t:TypeId):Prop where
 h:é P t
class Agg (P:Program) (t:TypeId) (n:outParam Nat):Prop where
 h:fo P t n
class Siz (P:Program) (t:TypeId) (n:outParam Nat):Prop where
 h:(P.info? t).map (·.size)=some n
class Udl (P:Program) (t:TypeId) (d:outParam TypeDesc):Prop where
 h:P.underlying t=some d
class Zer (P:Program) (t:TypeId) (z:outParam Value):Prop where
 h:(P.info? t).map (·.zero)=some (some z)
class Fad (P:Program) (t i:Nat) (k:outParam Nat):Prop where
 h:∀{N:Nat}{dst:ŀ Nat}{ty:TypeId}{pos:String}{af:Array Edge}{g:ŀ (Nat×Bool)}{fr:Fr}{S:Ο}{x:Operand}{b off:Nat},fr.ev x=some (.pointer (some ⟨b,off,none⟩))->Y0 P N ⟨dst,.fieldAddr t x i,ty,pos,af,g⟩ fr S (.pointer (some ⟨b,off+k,none⟩))
class Off (P:Program) (t i:Nat) (k:outParam Nat):Prop where
 h:True
class RpT (P:Program) (e:TypeId) (α:outParam Type) (r:outParam (Rp α)):Prop where
 h:True
class ElC (P:Program) (e:TypeId) (z:outParam Value) (s b:outParam Nat):Prop where
 h:ji P e z s b
def BR(P:Program)(f:FuncId):Bool:=match P.funcs[f]? with
 |some fn=>!(fn.name == "runtime.NumGoroutine")&&fn.body.isSome
 |none=>false
theorem uf{P:Program}{f:FuncId}(h:BR P f=true):Enters P f:=by
 unfold BR at h;split at h
 .rename_i fn d;simp only[Ĉ,Ŕ,et]at h;obtain⟨a,c,h2⟩:=h;exact enters_of d a h2
 cases h
class SpcM {α:Type}(m:Cq α) (r:α) (S:outParam Prop):Prop where
 h:m.Α r->S
class Exp {α:Type}(r:Rp α) (x:α) (D:outParam (Mem->(Nat->Value->Prop)->Nat->Prop)):Prop where
 h:∀{G K o},AtK r G K o x->D G K o
def oV:Ŀ Value->Nat->ŀ Value
 |[],_=>none
 |v::_,0=>some v
 |_::r,n+1=>oV r n
theorem Mf:∀(c:Ŀ Value) (i:Nat),oV c i=c[i]?
 |[],_=>by simp[oV]
 |_::_,0=>by simp[oV]
 |_::r,n+1=>by simp[oV,Mf r n]
theorem vA{a b c:Prop}(h:a/\b)(k:a->b->c):c:=k h.1 h.2
theorem zy{α:Sort _}{p:α->Prop}{c:Prop}(h:∃x,p x)(k:∀x,p x->c):c:=let ⟨x,h⟩:=h;k x h
theorem HC{a b r:Prop}(k:a->b->r):a/\b->r:=λh=>k h.1 h.2
theorem pZ{α:Type}{p q:α->Prop}{r:Prop}(k:∀x,p x->q x->r):(∃x,p x/\q x)->r:=λ⟨x,a,b⟩=>k x a b
theorem lh{i:Nat}{x:ŀ Ow}{L:Lo}:Lo.get ((i,x)::L) i=x:=by simp[Lo.get]
theorem lt{i j:Nat}{x y:ŀ Ow}{L:Lo}(h:L.get i=x)(a:Nat.beq j i=false):Lo.get ((j,y)::L) i=x:=by show(bif Nat.beq j i then y else L.get i)=x;rw[a];exact h
theorem uD{A B:Mem}(h:Mem.le A B:=by((repeat (first|exact Mem.le_refl _|assumption|refine Mem.le_trans (by assumption) ?_));fail_if_success refine ?_)):Mem.le A B:=h
section
variable {α:Type}{r:Rp α}{G G':Mem}{v:Value}{xs:Ŀ α}{b o j:Nat}{cells:Array Value}
theorem zD(h:Ζ r G v xs:=by with_reducible assumption)(a:Mem.le G G':=by exact uD):Ζ r G' v xs:=h.mono a
theorem zC{e:TypeId}{tk:ŀ Ow}(h:Γ r e G v xs tk:=by with_reducible assumption)(a:Mem.le G G':=by exact uD):Γ r e G' v xs tk:=h.mono a
theorem XH:Ζ r G (.slice none 0 0) ([]:Ŀ α):=Ζ.nil r G
theorem gz(h:∀j u,cells[j]?=some u->(λk u=>G b k=some u) (o+j) u:=by with_reducible assumption)(c:oV cells.toList j=some v:=by exact rfl)(a:Mem.le G G':=by exact uD):G' b (o+j)=some v:=a _ _ _ (h j v (by rw[Mf]at c;simpa using c))
theorem gz1(h:(λk u=>G b k=some u) o v:=by with_reducible assumption)(a:Mem.le G G':=by exact uD):G' b o=some v:=a _ _ _ h
theorem gzA(h:∀j u,cells[j]?=some u->(λk u=>G b k=some u) (o+j) u:=by with_reducible assumption)(a:Mem.le G G':=by exact uD):∀j v,cells[j]?=some v->G' b (o+j)=some v:=λj v c=>a _ _ _ (h j v c)
end
section
variable {P:Program}{N:Nat}{Q:î}{fr:Fr}{S:Ο}{ops:Array Oper}{l:Ŀ Oper}{dst:ŀ Nat}{op:Op}{ty:TypeId}{pos:String}{af:Array Edge}{g:ŀ (Nat×Bool)}{v:Value}{x y:Operand}{w0:Bs}{G0 G:Mem}{L:Lo}
section
variable {t t' e:TypeId}{b off m n k:Nat}{c:Array Value}
theorem ZAs[h:Sca P t](d:fr.ev x=some (.pointer (some ⟨b,off,none⟩))){i:Nat}(hi:L.get i=some ⟨b,.cells c t' (0,0),m⟩)(a:oV c.toList off=some v):Y0 P N ⟨dst,.load t x,ty,pos,af,g⟩ fr (St w0 G0 G L) v:=Y0.Ò i h.h d hi (by rw[Mf]at a;simpa using a)
theorem Zy9[h:Agg P t n](d:fr.ev x=some (.pointer (some ⟨b,0,none⟩))){i:Nat}(hi:L.get i=some ⟨b,.cells c t' (0,0),m⟩)(a:c.size=n):Y0 P N ⟨dst,.load t x,ty,pos,af,g⟩ fr (St w0 G0 G L) (.agg c):=Y0.eQ i h.h d hi a
theorem ZAr[h:Sca P t](c:fr.ev x=some (.pointer (some ⟨b,off,none⟩)))(a:G b off=some v):Y0 P N ⟨dst,.load t x,ty,pos,af,g⟩ fr (St w0 G0 G L) v:=Y0.hP h.h c a
theorem Zy6[h:Agg P t n](e:fr.ev x=some (.pointer (some ⟨b,off,none⟩)))(d:∀j v,c[j]?=some v->G b (off+j)=some v)(a:c.size=n):Y0 P N ⟨dst,.load t x,ty,pos,af,g⟩ fr (St w0 G0 G L) (.agg c):=Y0.jv c h.h e a d
theorem ZBI{i:Nat}[h:Fad P t i k](a:fr.ev x=some (.pointer (some ⟨b,off,none⟩))):Y0 P N ⟨dst,.fieldAddr t x i,ty,pos,af,g⟩ fr S (.pointer (some ⟨b,off+k,none⟩)):=h.h a
theorem ZBn{p:ŀ Addr}{cap:Nat}[h:Udl P t (.slice e)](a:fr.ev x=some (.slice p n cap)):Y0 P N ⟨dst,.call ⟨.builtin .len,#[x],#[t]⟩,ty,pos,af,g⟩ fr S (.int .i64 (n:Int)):=Y0.sA h.h a
theorem YW{d:TypeId}{a:TypeDesc}{k k':IntKind}{n:Int}[e:Udl P t a][c:Udl P d (.int k')](f:fr.ev x=some (.int k n)):Y0 P N ⟨dst,.convert t d x,ty,pos,af,g⟩ fr S (.int k' (k'.wrap n)):=Y0.conv e.h c.h f
end
theorem ZBi{α:Type}{t e:TypeId}{r:Rp α}{n m cap:Nat}{p:ŀ Addr}{k:IntKind}{i:Int}{xs:Ŀ α}{z:α}{D:Mem->(Nat->Value->Prop)->Nat->Prop}[a:Udl P t (.slice e)][h2:Siz P e m](g:fr.ev x=some (.slice p n cap))(j:fr.ev y=some (.int k i))(hi:0<=i/\xs[i.toNat]?=some z)(h:Ζ r G (.slice p n cap) xs)(c:Exp r z D)(f:r.size=m)(d:Ω N dst)
  (kk:D G (λk u=>G (pb p) k=some u) (po p+i.toNat*m)->WL P N ops Q l (ν dst (.pointer (some ⟨pb p,po p+i.toNat*m,none⟩)) fr) (St w0 G0 G L)):WL P N ops Q (⟨dst,.indexAddr t x y,ty,pos,af,none⟩::l) fr (St w0 G0 G L):=
 yy (Y0.lL a.h h2.h h g j hi) d (kk (f ▸ c.h (Ζ.at h hi)))
theorem Y8{f:FuncId}{c:Value}{pre:Mem->Prop}{xs:Array Operand}{a:Array TypeId}{vs:Ŀ Value}(e:Enters P f)(g:fr.iv xs.toList=some vs)(h:iL P f vs.toArray pre (λ_ u=>u=c))(d:Ω N dst)(hp:pre G)
  (k:WL P N ops Q l (ν dst c fr) (St w0 G0 G L)):WL P N ops Q (⟨dst,.call ⟨.value (.func f),xs,a⟩,ty,pos,af,none⟩::l) fr (St w0 G0 G L):=WL.gR Zh d (YC.of e g) h rfl hp k
theorem YQ{f:FuncId}{pre:Mem->Prop}{post:Mem->Value->Prop}{xs:Array Operand}{a:Array TypeId}{vs:Ŀ Value}(d:Enters P f)(e:fr.iv xs.toList=some vs)(h:iL P f vs.toArray pre post)(c:Ω N dst)(hp:pre G)
  (k:∀v G',Mem.le G G'->post G' v->WL P N ops Q l (ν dst v fr) (St w0 G0 G' L)):WL P N ops Q (⟨dst,.call ⟨.value (.func f),xs,a⟩,ty,pos,af,none⟩::l) fr (St w0 G0 G L):=WL.call Zh c (YC.of d e) h rfl hp k
theorem ZAk{f:FuncId}{pre:Mem->Prop}{post:Mem->Value->Prop}{xs:Array Operand}{a:Array TypeId}{vs:Ŀ Value}{j d:Nat}{b:Bool}(g:Enters P f)(c:(ops[j]?).bind (·.dst)=some d)(h2:fr.get d=some (.bool b))(i:fr.iv xs.toList=some vs)(h:iL P f vs.toArray pre post)(e:Ω N dst)(hp:pre G)
  (k:∀v G',Mem.le G G'->post G' v->WL P N ops Q l (ν dst v fr) (St w0 G0 G' L)):WL P N ops Q (⟨dst,.call ⟨.value (.func f),xs,a⟩,ty,pos,af,some (j,b)⟩::l) fr (St w0 G0 G L):=WL.call (rL c h2) e (YC.of g i) h rfl hp k
theorem ZyX{f:FuncId}{z:Operand}{c:Value}{pre:Mem->Prop}{xs:Array Operand}{a:Array TypeId}{vs:Ŀ Value}(i:fr.ev z=some (.func (.func f) #[] #[]))(e:Enters P f)(g:fr.iv xs.toList=some vs)(h:iL P f vs.toArray pre (λ_ u=>u=c))(d:Ω N dst)(hp:pre G)
  (k:WL P N ops Q l (ν dst c fr) (St w0 G0 G L)):WL P N ops Q (⟨dst,.call ⟨.value z,xs,a⟩,ty,pos,af,none⟩::l) fr (St w0 G0 G L):=WL.gR Zh d (YC.xX e i g) h ß hp k
theorem ZyW{f:FuncId}{c:Value}{pre:Mem->Prop}{xs:Array Operand}{a:Array TypeId}{vs:Ŀ Value}{j d:Nat}{b:Bool}(i:Enters P f)(e:(ops[j]?).bind (·.dst)=some d)(h2:fr.get d=some (.bool b))(m:fr.iv xs.toList=some vs)(h:iL P f vs.toArray pre (λ_ u=>u=c))(g:Ω N dst)(hp:pre G)
  (k:WL P N ops Q l (ν dst c fr) (St w0 G0 G L)):WL P N ops Q (⟨dst,.call ⟨.value (.func f),xs,a⟩,ty,pos,af,some (j,b)⟩::l) fr (St w0 G0 G L):=WL.gR (rL e h2) g (YC.of i m) h rfl hp k
theorem Y7{t:TypeId}{z:Value}{i:Nat}[h:Zer P t z](a:Ω N (some i))(k:∀b,WL P N ops Q l (ν (some i) (.pointer (some ⟨b,0,none⟩)) fr) (St w0 G0 G ((i,some ⟨b,.cells z.cells t (0,0),0⟩)::L))):WL P N ops Q (⟨some i,.alloc t,ty,pos,af,none⟩::l) fr (St w0 G0 G L):=WL.alloc i Zh h.h a k
theorem Mu{β:Type}{p:Prop}{d:Decidable p}{A B:Cq β}{Φ:β->Prop}{a:Prop}(hr:(@ite _ p d A B).wp Φ)(e:@decide p d=true->p->A.wp Φ->a)(c:@decide p d=false->¬p->B.wp Φ->a):a:=
 if h:p then e (ă h) h (by rwa [ą h]at hr)else c (ĉ h) h (by rwa [ā h]at hr)
theorem Mv{β:Type}{b:Bool}{A B:Cq β}{Φ:β->Prop}{a:Prop}(hr:(match b with|false=>A|true=>B).wp Φ)(c:b=false->A.wp Φ->a)(d:b=true->B.wp Φ->a):a:=by
 cases b with
 |false=>exact c rfl hr
 |true=>exact d rfl hr
theorem Ge{t e:TypeId}{len b:Nat}{k:IntKind}{i:Int}[h:Udl P t (.array len e)][h':Siz P e 1](a:fr.ev x=some (.pointer (some ⟨b,0,none⟩)))(c:fr.ev y=some (.int k i))(hi:0<=i/\i<(len:Int)):Y0 P N ⟨dst,.indexAddr t x y,ty,pos,af,g⟩ fr S (.pointer (some ⟨b,i.toNat,none⟩)):=Y0.jt h.h h'.h a c hi
theorem Gj{t e:TypeId}{len b off:Nat}{k:IntKind}{i:Int}[h:Udl P t (.array len e)][h':Siz P e 1](a:fr.ev x=some (.pointer (some ⟨b,off,none⟩)))(c:fr.ev y=some (.int k i))(hi:0<=i/\i<(len:Int)):Y0 P N ⟨dst,.indexAddr t x y,ty,pos,af,g⟩ fr S (.pointer (some ⟨b,off+i.toNat,none⟩)):=Y0.B3 h.h h'.h a c hi
theorem Zzd{a:IntKind}{n:Nat}{f:Fin n->Int}{i:Int}{t t':TypeId}{b m key:Nat}[h:Sca P t](d:fr.ev x=some (.pointer (some ⟨b,i.toNat,none⟩)))(hi:L.get key=some ⟨b,.cells (õ (Value.int a) n f).toArray t' (0,0),m⟩)(c:0<=i/\i<(n:Int)):Y0 P N ⟨dst,.load t x,ty,pos,af,g⟩ fr (St w0 G0 G L) (Value.int a (Ε f i)):=Y0.Ò key h.h d hi (tx _ _ _ c)
theorem Zzc{n:Nat}{f:Fin n->Bool}{i:Int}{t t':TypeId}{b m key:Nat}[h:Sca P t](c:fr.ev x=some (.pointer (some ⟨b,i.toNat,none⟩)))(hi:L.get key=some ⟨b,.cells (õ Value.bool n f).toArray t' (0,0),m⟩)(a:0<=i/\i<(n:Int)):Y0 P N ⟨dst,.load t x,ty,pos,af,g⟩ fr (St w0 G0 G L) (Value.bool (Ε f i)):=Y0.Ò key h.h c hi (tx _ _ _ a)
theorem Gm{t yt:TypeId}{k k':IntKind}{a b:Int}(d:fr.ev x=some (.int k a))(e:fr.ev y=some (.int k' b))(c:0<=b):Y0 P N ⟨dst,.binOp .shr t x y yt,ty,pos,af,g⟩ fr S (.int k (a.fdiv (2 ^ (min b.toNat k.bits)))):=Y0.shr d e c
def oK:Ŀ Value->Ŀ Value
 |[]=>[]
 |v::r=>v.cells.toList++oK r
def r5:Ŀ Value->Ŀ Value
 |[]=>[]
 |[v]=>v.cells.toList
 |v::w::r=>v.cells.toList++r5 (w::r)
theorem ZAq{t:TypeId}{n:Nat}{parts:Array (Nat×Operand)}{vs:Ŀ Value}[h':Siz P t n](a:fr.iv (parts.toList.map (·.2))=some vs)(_:(r5 vs).length=n)(h:∀w,(Instr.build t ((parts.toList.map (·.1)).zip vs).toArray).run P w=.ok (.agg (r5 vs).toArray) w)(e:(parts.toList.map (·.1)).length=vs.length):Y0 P N ⟨dst,.build t parts,ty,pos,af,g⟩ fr S (.agg (r5 vs).toArray):=by
 refine Y0.build (vs:=((parts.toList.map (·.1)).zip vs).toArray) ?_ ?_ h
 .rw[a,List.map_snd_zip ŉ]
 rw[List.map_fst_zip ŉ]
theorem Zy4{t:TypeId}{v:Value}[h':Zer P t v](h:∀w,(Instr.build t #[]).run P w=.ok v w):Y0 P N ⟨dst,.build t #[],ty,pos,af,g⟩ fr S v:=Y0.build (vs:=#[]) rfl rfl h
def kX:Nat->Ŀ Value->ŀ (Ŀ Value)
 |0,l=>some l
 |_+1,[]=>none
 |n+1,_::r=>kX n r
theorem FN:∀{n:Nat}{l r:Ŀ Value},kX n l=some r->∃p,l=p++r/\p.length=n
 |0,l,r,h=>⟨[],by simpa[kX]using h,rfl⟩
 |n+1,[],r,h=>by cases h
 |n+1,x::l,r,h=>by obtain⟨p,a,h2⟩:=FN (n:=n) (l:=l) (r:=r) h;exact⟨x::p,by rw[a];rfl,by simp[h2]⟩
def lX:Nat->Ŀ Value->ŀ (Ŀ Value)
 |0,_=>some []
 |_+1,[]=>none
 |n+1,x::r=>match lX n r with
  |some s=>some (x::s)
  |none=>none
theorem LX:∀{n:Nat}{l r:Ŀ Value},lX n l=some r->∃q,l=r++q/\r.length=n
 |0,l,r,h=>⟨l,by simp only[lX,ď]at h;rw[<-h];rfl,by simp only[lX,ď]at h;rw[<-h];rfl⟩
 |n+1,[],r,h=>by cases h
 |n+1,x::l,r,h=>by
  unfold lX at h;split at h
  .rename_i s c;simp only[ď]at h;obtain⟨q,a,h2⟩:=LX c;subst h;exact⟨q,by rw[a];rfl,by simp[h2]⟩
  cases h
theorem Mj{c:Array Value}{off:Nat}{p rest vs q:Ŀ Value}(h:c.toList=p++rest)(hp:p.length=off)(h2:rest=vs++q):∀j v,vs.toArray[j]?=some v->c[off+j]?=some v:=by
 intro j v a;have e:c=(p++(vs++q)).toArray:=by rw[<-h2,<-h]
 subst hp;rw[e];exact Ux p vs q j v a
theorem Zza{t t':TypeId}{b off m n:Nat}{c:Array Value}{rest:Ŀ Value}[h:Agg P t n](f:fr.ev x=some (.pointer (some ⟨b,off,none⟩))){i:Nat}(hi:L.get i=some ⟨b,.cells c t' (0,0),m⟩)(d:kX off c.toList=some rest)(e:rest.length=n):Y0 P N ⟨dst,.load t x,ty,pos,af,g⟩ fr (St w0 G0 G L) (.agg rest.toArray):=by obtain⟨p,a,h2⟩:=FN d;exact Y0.nl rest.toArray i h.h f hi (by simpa using e) (Mj a h2 (Ę rest).symm)
theorem Zzb{t t':TypeId}{b off m n:Nat}{c:Array Value}{rest vs:Ŀ Value}[h:Agg P t n](j:fr.ev x=some (.pointer (some ⟨b,off,none⟩))){i:Nat}(hi:L.get i=some ⟨b,.cells c t' (0,0),m⟩)(e:kX off c.toList=some rest)(f:lX n rest=some vs):Y0 P N ⟨dst,.load t x,ty,pos,af,g⟩ fr (St w0 G0 G L) (.agg vs.toArray):=by obtain⟨p,a,h2⟩:=FN e;obtain⟨q,h3,d⟩:=LX f;exact Y0.nl vs.toArray i h.h j hi (by simpa using d) (Mj a h2 h3)
def sV:Ŀ Value->Nat->Value->ŀ (Ŀ Value)
 |[],_,_=>none
 |_::r,0,v=>some (v::r)
 |x::r,n+1,v=>match sV r n v with
  |some s=>some (x::s)
  |none=>none
theorem UE:∀{l s:Ŀ Value}{n:Nat}{v:Value},sV l n v=some s->l.set n v=s/\n<l.length
 |[],_,_,_,h=>by cases h
 |_::r,s,0,v,h=>by simp only[sV,ď]at h;subst h;exact⟨rfl,ß⟩
 |x::r,s,n+1,v,h=>by
  unfold sV at h;split at h
  .rename_i s' c;simp only[ď]at h;obtain⟨a,h2⟩:=UE c;subst h;exact⟨by simp[a],by simpa using h2⟩
  cases h
theorem ZyY{t t':TypeId}{b off:Nat}{c:Array Value}{s:Ŀ Value}[h:Siz P t 1](e:fr.ev x=some (.pointer (some ⟨b,off,none⟩)))(f:fr.ev y=some v){i:Nat}(hi:L.get i=some ⟨b,.cells c t' (0,0),0⟩)(d:sV c.toList off v=some s)(a:v.oneCell'=true)
  (k:WL P N ops Q l fr (St w0 G0 G ((i,some ⟨b,.cells s.toArray t' (0,0),0⟩)::L))):WL P N ops Q (⟨none,.store t x y,ty,pos,af,none⟩::l) fr (St w0 G0 G L):=by
 obtain⟨h2,h3⟩:=UE d
 refine WL.fM i s.toArray Zh h.h e f hi (by simpa using h3) a ?_ k
 rw[<-h2];apply ż;simp
theorem ZBG{t ty t' i b m n:Nat}{c:Array Value}[e:Agg P ty n](a:fr.get t=some (.pointer (some ⟨b,0,none⟩)))(h2:L.get i=some ⟨b,.cells c t' (0,0),m⟩)(d:c.size=n):RV P fr L (.cell t ty) (.agg c):=RV.pJ e.h a h2 d
theorem ZBH{t:Nat}{v:Value}(a:fr.get t=some v):RV P fr L (.tmp t) v:=a
theorem ya{z:ResultVar}{v:Value} (h:RV P fr L z v:=by
 first
 |((with_reducible apply ZBH);exact rfl)
 |((with_reducible apply ZBG);exact rfl;(focus ((repeat (first|exact lh|apply lt));all_goals exact rfl));first|exact rfl|exact Zy _ _ _)):RV P fr L z v:=h
theorem gK{α:Type}{r:Rp α}{v:Value}{xs:Ŀ α}(h:Ζ r G v xs:=by first|exact zD|exact XH):Ζ r G v xs:=h
theorem HF{α:Type}{r:Rp α}{v:Value}{xs:Ŀ α}(h:Ζ r G v xs:=by first|exact gK|assumption):Ζ r G v xs:=h
theorem ZxG{t t':TypeId}{b n:Nat}{c c':Array Value}[h:Agg P t n][h':Siz P t n](e:fr.ev x=some (.pointer (some ⟨b,0,none⟩)))(f:fr.ev y=some (.agg c')){i:Nat}(hi:L.get i=some ⟨b,.cells c t' (0,0),0⟩)(d:c.size=n)(nH:c'.size=n)(a:c'.toList.all Value.oneCell'=true)
  (k:WL P N ops Q l fr (St w0 G0 G ((i,some ⟨b,.cells c' t' (0,0),0⟩)::L))):WL P N ops Q (⟨none,.store t x y,ty,pos,af,none⟩::l) fr (St w0 G0 G L):=WL.fm i Zh h'.h e f hi d nH (Ć.1 a) k
theorem ZBo(h:fr.ev x=some v)(a:Ω N dst)(k:WL P N ops Q l (ν dst v fr) S):WL P N ops Q (⟨dst,.move x,ty,pos,af,none⟩::l) fr S:=mv h a k
theorem ZBp(h:fr.ev x=some v)(a:Ω N dst)(k:WL P N ops Q l (ν dst v fr) S):WL P N ops Q (⟨dst,.assign x,ty,pos,af,none⟩::l) fr S:=sg h a k
theorem Yr{t:TypeId}{i:Nat}(c:fr.ev x=some v)(a:Ω N (some i))
  (k:∀b,WL P N ops Q l (ν (some i) (.pointer (some ⟨b,0,none⟩)) fr) (St w0 G0 G ((i,some ⟨b,.cells v.cells t (0,0),0⟩)::L))):WL P N ops Q (⟨some i,.box t x,ty,pos,af,none⟩::l) fr (St w0 G0 G L):=WL.box i Zh c a k
theorem ZBq{β:Type}{p:Prop}{d:Decidable p}{A B:Cq β}{Φ:β->Prop}{c:Operand}{x y:Code}(hr:(@ite _ p d A B).wp Φ)(a:fr.ev c=some (.bool (@decide p d)))(f:p->A.wp Φ->WC P N x Q fr S)(e:¬p->B.wp Φ->WC P N y Q fr S):WC P N (.cond c x y) Q fr S:=WC.cr hr a f e
class Mix (P:Program):Prop where
 h:P.follows .mixedOrders=true
structure Dr (fs:Ŀ Bool) (p:Prop):Prop where
 h:p
def vS:Ŀ Oper->Ŀ Bool
 |[]=>[]
 |_::r=>false::vS r
def sp:Ŀ Bool->ŀ (Ŀ Bool)
 |[]=>some []
 |b::r=>match sp r with
  |some s=>some (b::s)
  |none=>none
theorem ZBr{id:Nat}{fs:Ŀ Bool}[c:Mix P](a:jb N l fs=true)(h:Mem.le G0 G->γ P N Q fr w0 G0 G L l.toArray (λ_=>True) fs l [] []):Dr fs (WC P N (.region id l.toArray true) Q fr (St w0 G0 G L)):=⟨WC.drawn fs c.h a h⟩
theorem ZBs{id:Nat}{fs:Ŀ Bool}(_:jE .any l fs=true)(h:Dr fs (WC P N (.region id l.toArray true) Q fr S)):Dr (false::fs) (WC P N (.region id l.toArray true) Q fr S):=⟨h.h⟩
theorem ZAl{id:Nat}{fs:Ŀ Bool}(_:sp (vS l)=some fs)(h:Dr fs (WC P N (.region id l.toArray true) Q fr (St w0 G0 G L))):WC P N (.region id l.toArray true) Q fr (St w0 G0 G L):=h.h
section
variable {Bt:Ο}{fs:Ŀ Bool}{Λ:Fr}
theorem Wq{v:Value}(h:∀G',Mem.le G G'->Y0 P N ⟨dst,op,ty,pos,af,none⟩ (Λ++fr) (St w0 G0 G' L) v)(k:γ P N Q fr w0 G0 G L ops Bt fs l (ν dst v Λ) []):γ P N Q fr w0 G0 G L ops Bt (false::fs) (⟨dst,op,ty,pos,af,none⟩::l) Λ []:=cn h k
theorem ZzM{f:FuncId}{c:Value}{pre:Mem->Prop}{xs:Array Operand}{a:Array TypeId}{vs:Ŀ Value}(d:Enters P f)(e:(Λ++fr).iv xs.toList=some vs)(h:iL P f vs.toArray pre (λ_ u=>u=c))(hp:∀G',Mem.le G G'->pre G')
  (k:γ P N Q fr w0 G0 G L ops Bt fs l (ν dst c Λ) []):γ P N Q fr w0 G0 G L ops Bt (false::fs) (⟨dst,.call ⟨.value (.func f),xs,a⟩,ty,pos,af,none⟩::l) Λ []:=γ.gR Zh (λ_=>YC.of d e) h rfl hp k
theorem Zyh{f:FuncId}{c:Value}{pre:Mem->Prop}{xs:Array Operand}{a:Array TypeId}{vs:Ŀ Value}{j d:Nat}{b:Bool}(g:Enters P f)(e:(ops[j]?).bind (·.dst)=some d)(h2:(Λ++fr).get d=some (.bool b))(i:(Λ++fr).iv xs.toList=some vs)(h:iL P f vs.toArray pre (λ_ u=>u=c))(hp:∀G',Mem.le G G'->pre G')
  (k:γ P N Q fr w0 G0 G L ops Bt fs l (ν dst c Λ) []):γ P N Q fr w0 G0 G L ops Bt (false::fs) (⟨dst,.call ⟨.value (.func f),xs,a⟩,ty,pos,af,some (j,b)⟩::l) Λ []:=γ.gR (rL e h2) (λ_=>YC.of g i) h rfl hp k
theorem Yw{α:Type}{t e:TypeId}{r:Rp α}{n m cap:Nat}{p:ŀ Addr}{k:IntKind}{i:Int}{xs:Ŀ α}{z:α}{D:Mem->(Nat->Value->Prop)->Nat->Prop}[c:Udl P t (.slice e)][h2:Siz P e m](g:(Λ++fr).ev x=some (.slice p n cap))(j:(Λ++fr).ev y=some (.int k i))(hi:0<=i/\xs[i.toNat]?=some z)(h:Ζ r G (.slice p n cap) xs)(d:Exp r z D)(f:r.size=m)
  (kk:D G (λk u=>G (pb p) k=some u) (po p+i.toNat*m)->γ P N Q fr w0 G0 G L ops Bt fs l (ν dst (.pointer (some ⟨pb p,po p+i.toNat*m,none⟩)) Λ) []):γ P N Q fr w0 G0 G L ops Bt (false::fs) (⟨dst,.indexAddr t x y,ty,pos,af,none⟩::l) Λ []:=
 cn (λ_ a=>Y0.lL c.h h2.h (h.mono a) g j hi) (kk (f ▸ d.h (Ζ.at h hi)))
end
section
variable {fs:Ŀ Bool}{Λ:Fr}{Bt:Ο}{Τ:jj}
theorem ZBd{post:Mem->Value->Prop} (h:∀v e f,Mem.le e f->post e v->post f v:=by
 first
 |exact λ_ _ _ _ h=>h
 |(rintro _ _ _ zh ⟨_,_,rfl,a⟩;exact⟨_,_,rfl,a.mono zh⟩)
 |(rintro _ _ _ zh ⟨_,_,_,_,rfl,a,b⟩;exact⟨_,_,_,_,rfl,a.mono zh,b.mono zh⟩)
 |(rintro _ _ _ zh ⟨_,_,_,_,_,_,rfl,a,b,c⟩;exact⟨_,_,_,_,_,_,rfl,a.mono zh,b.mono zh,c.mono zh⟩)
 |(rintro _ _ _ zh ⟨_,_,_,_,_,_,_,_,rfl,a,b,c,d⟩;exact⟨_,_,_,_,_,_,_,_,rfl,a.mono zh,b.mono zh,c.mono zh,d.mono zh⟩)):∀v e f,Mem.le e f->post e v->post f v:=h
theorem ZzN{f:FuncId}{d:Nat}{pre:Mem->Prop}{post:Mem->Value->Prop}{xs:Array Operand}{e:Array TypeId}{vs:Ŀ Value}(i:Enters P f)(m:∀u,(ς Τ u++(Λ++fr)).iv xs.toList=some vs)(h:iL P f vs.toArray pre post)(j:∀v a c,Mem.le a c->post a v->post c v)(hp:∀G',Mem.le G G'->pre G')
  (k:γ P N Q fr w0 G0 G L ops Bt fs l Λ ((d,λv g=>post g.m v)::Τ)):γ P N Q fr w0 G0 G L ops Bt (false::fs) (⟨some d,.call ⟨.value (.func f),xs,e⟩,ty,pos,af,none⟩::l) Λ Τ:=γ.pI (λ_=>Zh) (λu _=>YC.of i (m u)) h rfl hp j k
theorem ZBu{v:Value}(h:∀u G',Mem.le G G'->Y0 P N ⟨dst,op,ty,pos,af,none⟩ (ς Τ u++(Λ++fr)) (St w0 G0 G' L) v)(k:γ P N Q fr w0 G0 G L ops Bt fs l (ν dst v Λ) Τ):γ P N Q fr w0 G0 G L ops Bt (false::fs) (⟨dst,op,ty,pos,af,none⟩::l) Λ Τ:=γ.OB (λ_=>Zh) h k
theorem h_f{v:Value}(h:Y0 P N ⟨dst,op,ty,pos,af,none⟩ (Λ++fr) (λ_=>True) v)(k:γ P N Q fr w0 G0 G L ops Bt fs l (ν dst v Λ) []):γ P N Q fr w0 G0 G L ops Bt (true::fs) (⟨dst,op,ty,pos,af,none⟩::l) Λ []:=γ.float Zh h k
theorem ZBt{v:Value}(h:∀u,Y0 P N ⟨dst,op,ty,pos,af,none⟩ (ς Τ u++(Λ++fr)) (λ_=>True) v)(k:γ P N Q fr w0 G0 G L ops Bt fs l (ν dst v Λ) Τ):γ P N Q fr w0 G0 G L ops Bt (true::fs) (⟨dst,op,ty,pos,af,none⟩::l) Λ Τ:=γ.sn (λ_=>Zh) h k
end
def sH:Ŀ Value->Nat->Ŀ Value->ŀ (Ŀ Value)
 |l,0,[]=>some l
 |_::l,0,c::cs=>match sH l 0 cs with
  |some s=>some (c::s)
  |none=>none
 |x::l,n+1,cs=>match sH l n cs with
  |some s=>some (x::s)
  |none=>none
 |[],_,_=>none
section
variable {t n i j k k':Nat}{z:Value}{u v:Value}{s s':Ŀ Value}
theorem YU[d:Zer P t z][c:Off P t i k](a:fr.ev x=some v)(_:sH z.cells.toList k v.cells.toList=some s)(h:∀w,(Instr.build t #[(i,v)]).run P w=.ok (.agg s.toArray) w):Y0 P N ⟨dst,.build t #[(i,x)],ty,pos,af,g⟩ fr S (.agg s.toArray):=Y0.build (vs:=#[(i,v)]) (by simp[Fr.iv,a]) rfl h
theorem YV[f:Zer P t z][d:Off P t i k][e:Off P t j k'](a:fr.ev x=some v)(c:fr.ev y=some u)(_:sH z.cells.toList k v.cells.toList=some s)(_:sH s k' u.cells.toList=some s')(h:∀w,(Instr.build t #[(i,v),(j,u)]).run P w=.ok (.agg s'.toArray) w):Y0 P N ⟨dst,.build t #[(i,x),(j,y)],ty,pos,af,g⟩ fr S (.agg s'.toArray):=Y0.build (vs:=#[(i,v),(j,u)]) (by simp[Fr.iv,a,c]) rfl h
end
theorem Zy5{α:Type}{r:Rp α}{t e a:TypeId}{m n cap:Nat}{p:ŀ Addr}{k:IntKind}{i:Int}{xs:Ŀ α}{z:α}{tk:ŀ Ow}[c:Udl P t (.slice e)][h2:Siz P e m](d:fr.ev x=some (.slice p n cap))(f:fr.ev y=some (.int k i))(h:Γ r a G (.slice p n cap) xs tk)(hi:0<=i/\xs[i.toNat]?=some z):Y0 P N ⟨dst,.indexAddr t x y,ty,pos,af,g⟩ fr S (.pointer (some ⟨pb p,i.toNat*m,none⟩)):=Y0.oQ c.h h2.h h d f hi
theorem ZyZ{α:Type}{r:Rp α}{t e key:Nat}{p:ŀ Addr}{n cap sz:Nat}{val:Value}{cs':Ŀ Value}{i:Int}{xs:Ŀ α}{z z':α}{tk:ŀ Ow}[j:Siz P t sz](m:fr.ev x=some (.pointer (some ⟨pb p,i.toNat*sz,none⟩)))(q:fr.ev y=some val)(h:Γ r e G (.slice p n cap) xs tk)(f:L.get key=tk)(g:sz=r.size)(c:val.cells=cs'.toArray)(a:r.fe G cs' z')(hi:0<=i/\xs[i.toNat]?=some z)
  (k:∀d,Γ r e G (.slice p n cap) (xs.set i.toNat z') d->WL P N ops Q l fr (St w0 G0 G ((key,d)::L))):WL P N ops Q (⟨none,.store t x y,ty,pos,af,none⟩::l) fr (St w0 G0 G L):=WL.storeT key Zh j.h g h f m q c a hi k
theorem ZAm{α:Type}{r:Rp α}{t e i sz:Nat}{z:Value}{bytes:Nat}{k k':IntKind}{n:Int}{zx:α}[m:Udl P t (.slice e)][g:ElC P e z sz bytes](_:RpT P e α r)(q:fr.ev x=some (.int k n))(s:fr.ev y=some (.int k' n))(j:0<=n/\n<=1000000)(h:Ω N (some i))(u:sz=r.size)(d:z.cells.size=r.size)(c:Nat.ble bytes 100000=true)(f:Nat.blt 0 r.size=true)(a:r.fe G z.cells.toList zx)
  (kk:∀p tk,Γ r e G (.slice p n.toNat n.toNat) (List.replicate n.toNat zx) tk->WL P N ops Q l (ν (some i) (.slice p n.toNat n.toNat) fr) (St w0 G0 G ((4000+i,tk)::L))):WL P N ops Q (⟨some i,.makeSlice t x y,ty,pos,af,none⟩::l) fr (St w0 G0 G L):=WL.vZ (4000+i) Zh h m.h (u ▸ g.h) d (š c) (š f) a q s j kk
theorem en1{f:FuncId}{fn:Func}{c:Code}{args:Ŀ Value}{a:Lo}{pre:Mem->Prop}{post:Mem->Lo->Value->Prop}(i:P.funcs[f]?=some fn)(g:fn.body=some c)(d:fn.ntmps=N)(e:Nat.ble args.length N=true)
  (h:∀w0 G0,w0.L=a->pre G0->WC P N c (bodyPost P fn (jK w0 G0 post)) (kp args 0) (St w0 G0 G0 a)):eM P f args.toArray a pre post:=eM.enter i g d e h
theorem zr0(h:w0.L=[]):w0.L.zero:=by rw[h];exact λ_ h=>nomatch h
theorem zr1{α:Type}{r:Rp α}{e:TypeId}{v:Value}{xs:Ŀ α}{k:Nat}{tk:ŀ Ow}(h:w0.L=[(k,tk)])(h2:Γ r e G v xs tk):w0.L.zero:=by rw[h];intro p hp x a;simp only[Ď,ĝ,Ť]at hp;subst hp;exact Γ.zero h2 a
theorem tL (h:w0.L.zero:=by
 first
 |assumption
 |exact zr0 (by assumption)
 |(apply zr1;assumption;assumption)):w0.L.zero:=h
theorem ls1{k:Nat}{i:ŀ Ow}(h:L.get k=i):Lo.sub [(k,i)] L:=Lo.Zi h (Lo.Zw _)
theorem Y9{f:FuncId}{a:Lo}{pre:Mem->Prop}{post:Mem->Lo->Value->Prop}{xs:Array Operand}{c:Array TypeId}{vs:Ŀ Value}(g:Enters P f)(i:fr.iv xs.toList=some vs)(h:eM P f vs.toArray a pre post)(e:Ω N dst)(d:Lo.sub a L)(j:w0.L.zero)(hp:pre G)
  (k:∀v G' L',Mem.le G G'->post G' L' v->WL P N ops Q l (ν dst v fr) (St w0 G0 G' (L'++L.gm (a.map (·.1))))):WL P N ops Q (⟨dst,.call ⟨.value (.func f),xs,c⟩,ty,pos,af,none⟩::l) fr (St w0 G0 G L):=WL.jX Zh e (YC.of g i) h rfl hp d j k
theorem wr_{fn:Func}{a:ResultVar}{c:Value}{post:Mem->Lo->Value->Prop}{R:ŀ Ow}{k:Nat}(hr:fn.results = #[a])(d:RV P fr [(k,R)] a c)(hp:post G [(k,R)] c)(e:L.get k=R):WE N (bodyPost P fn (jK w0 G0 post)) .ret fr (St w0 G0 G L):=WE.ö (λ_ h=>h.weaken (Lo.Zi e (Lo.Zw _))) (WE.jP hr d hp)
theorem iU{L L':Lo}(h:Lo.sub L' L:=by((repeat (first|exact Lo.Zw _|refine Lo.Zi rfl ?_|refine Lo.Gk ?_));fail_if_success refine ?_)):Lo.sub L' L:=h
section
variable {X σ:Type}{F:X->Fr}{H:X->Prop}{I:X->Ο}{π:X->σ}{A:σ->Prop}
theorem qF{x':X}(a:A (π x'))(h:Fr.sub (F x') fr/\(∀w,S w->I x' w)/\H x'):WE N (Exit.then (jm N F H I π A) Q) .normal fr S:=WE.vE x' a h.2.2 h.1 h.2.1
theorem qG{m:X->Prop}{x':X}(hr:m x')(h:Fr.sub (F x') fr/\(∀w,S w->I x' w)/\H x'):WE N (Exit.then (l7 N F (λx=>m x/\H x) I) Q) .normal fr S:=WE.oT x' ⟨hr,h.2.2⟩ h.1 h.2.1
theorem qH{m:X->Prop}{x':X}(hr:m x')(h:Fr.sub (F x') fr/\(∀w,S w->I x' w)/\H x'):WE N (la N F (λx=>m x/\H x) I Q) .normal fr S:=WE.BQ x' ⟨hr,h.2.2⟩ h.1 h.2.1
theorem Nt(h:WE N (Exit.then (jm N F H I π A) Q) .normal fr S):WE N (Exit.then (jm N F H I π A) Q) .normal fr S:=h
theorem Nu(h:WE N (Exit.then (l7 N F H I) Q) .normal fr S):WE N (Exit.then (l7 N F H I) Q) .normal fr S:=h
theorem Nv(h:WE N (la N F H I Q) .normal fr S):WE N (la N F H I Q) .normal fr S:=h
end
theorem Yu{β:Type}{b:Bool}{g:Decidable (b=true)}{A B:Cq β}{Φ:β->Prop}{j d:Nat}{c:Bool}(hr:(@ite _ (b=true) g A B).wp Φ)(m:(ops[j]?).bind (·.dst)=some d)(h2:fr.get d=some (.bool b))
  (kt:A.wp Φ->WL P N ops Q (⟨dst,op,ty,pos,af,some (j,c)⟩::l) ((d,.bool true)::fr) S) (k:B.wp Φ->WL P N ops Q (⟨dst,op,ty,pos,af,some (j,c)⟩::l) ((d,.bool false)::fr) S):WL P N ops Q (⟨dst,op,ty,pos,af,some (j,c)⟩::l) fr S:=by
 intro a w i f
 have key:∀b',b=b'->Rel N ((d,.bool b')::fr) a:=λb' e=>i.weaken (Fr.Zi (by rw[h2,e]) λ_ _ h=>h)
 cases b with
 |true=>exact kt (by simpa using hr) a w (key _ rfl) f
 |false=>exact k (by simpa using hr) a w (key _ rfl) f
theorem ZBb{β:Type}{o':BinOp}{t yt:TypeId}{p:Prop}{d:Decidable p}{A B:Cq β}{Φ:β->Prop}(hr:(@ite _ p d A B).wp Φ)(h:Y0 P N ⟨dst,.binOp o' t x y yt,ty,pos,af,none⟩ fr S (.bool (@decide p d)))(a:Ω N dst)
  (kt:p->A.wp Φ->WL P N ops Q l (ν dst (.bool true) fr) S) (c:¬p->B.wp Φ->WL P N ops Q l (ν dst (.bool false) fr) S):WL P N ops Q (⟨dst,.binOp o' t x y yt,ty,pos,af,none⟩::l) fr S:=WL.cr hr Zh h a kt c
theorem YN{β:Type}{o':BinOp}{t yt:TypeId}{p:Prop}{d:Decidable p}{A B:Cq β}{Φ:β->Prop}{j e:Nat}{c:Bool}(hr:(@ite _ p d A B).wp Φ)(a:(ops[j]?).bind (·.dst)=some e)(h2:fr.get e=some (.bool c))(h:Y0 P N ⟨dst,.binOp o' t x y yt,ty,pos,af,some (j,c)⟩ fr S (.bool (@decide p d)))(f:Ω N dst)
  (kt:p->A.wp Φ->WL P N ops Q l (ν dst (.bool true) fr) S) (g:¬p->B.wp Φ->WL P N ops Q l (ν dst (.bool false) fr) S):WL P N ops Q (⟨dst,.binOp o' t x y yt,ty,pos,af,some (j,c)⟩::l) fr S:=WL.cr hr (rL a h2) h f kt g
theorem Yv{Bt:Ο}{fs:Ŀ Bool}{Λ:Fr}{β:Type}{o':BinOp}{t yt:TypeId}{p:Prop}{d:Decidable p}{A B:Cq β}{Φ:β->Prop}(hr:(@ite _ p d A B).wp Φ)(h:∀G',Mem.le G G'->Y0 P N ⟨dst,.binOp o' t x y yt,ty,pos,af,none⟩ (Λ++fr) (St w0 G0 G' L) (.bool (@decide p d)))
  (kt:p->A.wp Φ->γ P N Q fr w0 G0 G L ops Bt fs l (ν dst (.bool true) Λ) []) (a:¬p->B.wp Φ->γ P N Q fr w0 G0 G L ops Bt fs l (ν dst (.bool false) Λ) []):γ P N Q fr w0 G0 G L ops Bt (false::fs) (⟨dst,.binOp o' t x y yt,ty,pos,af,none⟩::l) Λ []:=γ.cr hr Zh h kt a
theorem YJ{Bt:Ο}{fs:Ŀ Bool}{Λ:Fr}{β:Type}{o':BinOp}{t yt:TypeId}{p:Prop}{d:Decidable p}{A B:Cq β}{Φ:β->Prop}{j e:Nat}{c:Bool}(hr:(@ite _ p d A B).wp Φ)(a:(ops[j]?).bind (·.dst)=some e)(h2:(Λ++fr).get e=some (.bool c))(h:∀G',Mem.le G G'->Y0 P N ⟨dst,.binOp o' t x y yt,ty,pos,af,some (j,c)⟩ (Λ++fr) (St w0 G0 G' L) (.bool (@decide p d)))
  (kt:p->A.wp Φ->γ P N Q fr w0 G0 G L ops Bt fs l (ν dst (.bool true) Λ) []) (f:¬p->B.wp Φ->γ P N Q fr w0 G0 G L ops Bt fs l (ν dst (.bool false) Λ) []):γ P N Q fr w0 G0 G L ops Bt (false::fs) (⟨dst,.binOp o' t x y yt,ty,pos,af,some (j,c)⟩::l) Λ []:=γ.cr hr (rL a h2) h kt f
theorem YT{α:Type}{t e:TypeId}{r:Rp α}{n m cap j d:Nat}{c:Bool}{p:ŀ Addr}{k:IntKind}{i:Int}{xs:Ŀ α}{z:α}{D:Mem->(Nat->Value->Prop)->Nat->Prop}[g:Udl P t (.slice e)][h2:Siz P e m](a:(ops[j]?).bind (·.dst)=some d)(f:fr.get d=some (.bool c))(A:fr.ev x=some (.slice p n cap))(B:fr.ev y=some (.int k i))(hi:0<=i/\xs[i.toNat]?=some z)(h:Ζ r G (.slice p n cap) xs)(q:Exp r z D)(v:r.size=m)(s:Ω N dst)
  (kk:D G (λk u=>G (pb p) k=some u) (po p+i.toNat*m)->WL P N ops Q l (ν dst (.pointer (some ⟨pb p,po p+i.toNat*m,none⟩)) fr) (St w0 G0 G L)):WL P N ops Q (⟨dst,.indexAddr t x y,ty,pos,af,some (j,c)⟩::l) fr (St w0 G0 G L):=
 gy a f (Y0.lL g.h h2.h h A B hi) s (kk (v ▸ q.h (Ζ.at h hi)))
theorem YK{Bt:Ο}{fs:Ŀ Bool}{Λ:Fr}{α:Type}{t e:TypeId}{r:Rp α}{n m cap j d:Nat}{c:Bool}{p:ŀ Addr}{k:IntKind}{i:Int}{xs:Ŀ α}{z:α}{D:Mem->(Nat->Value->Prop)->Nat->Prop}[q:Udl P t (.slice e)][h2:Siz P e m](f:(ops[j]?).bind (·.dst)=some d)(g:(Λ++fr).get d=some (.bool c))(A:(Λ++fr).ev x=some (.slice p n cap))(B:(Λ++fr).ev y=some (.int k i))(hi:0<=i/\xs[i.toNat]?=some z)(h:Ζ r G (.slice p n cap) xs)(s:Exp r z D)(v:r.size=m)
  (kk:D G (λk u=>G (pb p) k=some u) (po p+i.toNat*m)->γ P N Q fr w0 G0 G L ops Bt fs l (ν dst (.pointer (some ⟨pb p,po p+i.toNat*m,none⟩)) Λ) []):γ P N Q fr w0 G0 G L ops Bt (false::fs) (⟨dst,.indexAddr t x y,ty,pos,af,some (j,c)⟩::l) Λ []:=
 cy f g (λ_ a=>Y0.lL q.h h2.h (h.mono a) A B hi) (kk (v ▸ s.h (Ζ.at h hi)))
section
variable {t e yt:TypeId}
theorem YX{a b:Bool}[h:Udl P t .bool](c:fr.ev x=some (.bool a))(d:fr.ev y=some (.bool b)):Y0 P N ⟨dst,.binOp .eql t x y yt,ty,pos,af,g⟩ fr S (.bool (decide (a=b))):=Y0.BS h.h c d
theorem Yp{a b:Bool}[h:Udl P t .bool](c:fr.ev x=some (.bool a))(d:fr.ev y=some (.bool b)):Y0 P N ⟨dst,.binOp .neq t x y yt,ty,pos,af,g⟩ fr S (.bool (decide (¬a=b))):=Y0.N5 h.h c d
theorem YY{a b:Ĳ}[h:Udl P t .string](c:fr.ev x=some (.string a))(d:fr.ev y=some (.string b)):Y0 P N ⟨dst,.binOp .eql t x y yt,ty,pos,af,g⟩ fr S (.bool (decide (a=b))):=Y0.ur h.h c d
theorem Yn{k:IntKind}{n:Nat}{a b:Fin n->Int}[h:Udl P t (.array n e)][d:Udl P e (.int k)][f:Sca P e][l:Siz P e 1](c:P.eqGuardType P.depth t=false)(i:fr.ev x=some (.agg (jS k n a).toArray))(j:fr.ev y=some (.agg (jS k n b).toArray)):Y0 P N ⟨dst,.binOp .eql t x y yt,ty,pos,af,g⟩ fr S (.bool (decide (a=b))):=Y0.M0 h.h d.h f.h l.h c i j
theorem Yq{k:IntKind}{n:Nat}{a b:Fin n->Int}[h:Udl P t (.array n e)][d:Udl P e (.int k)][f:Sca P e][l:Siz P e 1](c:P.eqGuardType P.depth t=false)(i:fr.ev x=some (.agg (jS k n a).toArray))(j:fr.ev y=some (.agg (jS k n b).toArray)):Y0 P N ⟨dst,.binOp .neq t x y yt,ty,pos,af,g⟩ fr S (.bool (decide (¬a=b))):=Y0.N7 h.h d.h f.h l.h c i j
theorem ZBm{p:ŀ Addr}{n c:Nat}[h:Udl P t (.slice e)](a:fr.ev x=some (.slice p n c)):Y0 P N ⟨dst,.call ⟨.builtin .cap,#[x],#[t]⟩,ty,pos,af,g⟩ fr S (.int .i64 (c:Int)):=Y0.BA h.h a
theorem Yo{s:Ĳ}[h:Udl P t .string](a:fr.ev x=some (.string s)):Y0 P N ⟨dst,.call ⟨.builtin .len,#[x],#[t]⟩,ty,pos,af,g⟩ fr S (.int .i64 (s.size:Int)):=Y0.CF h.h a
theorem Fp{a:IntKind}{k:IntKind}{i:Int}{n:Nat}{f:Fin n->Int}[h:Udl P t (.array n e)][c:Sca P e][l:Siz P e 1](d:fr.ev x=some (.agg (õ (Value.int a) n f).toArray))(j:fr.ev y=some (.int k i))(hi:0<=i/\i<n):Y0 P N ⟨dst,.index t x y,ty,pos,af,g⟩ fr S (Value.int a (Ε f i)):=Y0.index h.h c.h l.h d j hi (tx _ _ _ hi)
theorem Fo{k:IntKind}{i:Int}{n:Nat}{f:Fin n->Bool}[h:Udl P t (.array n e)][a:Sca P e][j:Siz P e 1](c:fr.ev x=some (.agg (õ Value.bool n f).toArray))(d:fr.ev y=some (.int k i))(hi:0<=i/\i<n):Y0 P N ⟨dst,.index t x y,ty,pos,af,g⟩ fr S (Value.bool (Ε f i)):=Y0.index h.h a.h j.h c d hi (tx _ _ _ hi)
theorem FM{s:Ĳ}{k:IntKind}{i:Int}[h:Udl P t .string](a:fr.ev x=some (.string s))(c:fr.ev y=some (.int k i))(hi:0<=i/\i<(s.size:Int)):Y0 P N ⟨dst,.index t x y,ty,pos,af,g⟩ fr S (.int .u8 (eO s i)):=Y0.sx h.h a c hi
theorem Gf{len b m:Nat}{k:IntKind}{i:Int}[a:Udl P t (.array len e)][f:Siz P e m](c:fr.ev x=some (.pointer (some ⟨b,0,none⟩)))(d:fr.ev y=some (.int k i))(hi:0<=i/\i<len):Y0 P N ⟨dst,.indexAddr t x y,ty,pos,af,g⟩ fr S (.pointer (some ⟨b,i.toNat*m,none⟩)):=Y0.vU a.h f.h c d hi
theorem Zv0{fn:Fn}{first a:Array Operand}{c d:Ŀ Value}(e:fr.iv first.toList=some c)(h2:fr.iv a.toList=some d):Y0 P N ⟨dst,.makeFunc fn first a,ty,pos,af,g⟩ fr S (.func fn c.toArray d.toArray):=Y0.makeFunc e h2
end
theorem en0{f:FuncId}{fn:Func}{c:Code}{args:Ŀ Value}{pre:Mem->Prop}{post:Mem->Value->Prop}(g:P.funcs[f]?=some fn)(e:fn.body=some c)(a:fn.ntmps=N)(d:Nat.ble args.length N=true)
  (h:∀w0 G0,w0.L=[]->pre G0->WC P N c (bodyPost P fn (u5 w0 G0 post)) (kp args 0) (St w0 G0 G0 [])):iL P f args.toArray pre post:=iL.enter g e a d h
section
variable {α:Type}{r:Rp α}
theorem ZyI:þ r G (oK []) []:=rfl
theorem Zxq{v:Value}{vs:Ŀ Value}{x:α}{xs:Ŀ α}(h:r.fe G v.cells.toList x)(h2:þ r G (oK vs) xs):þ r G (oK (v::vs)) (x::xs):=⟨_,_,rfl,h,h2⟩
theorem Mr{r:Rp α}{v:Value}{xs:Ŀ α}(h:Ζ r G v xs)(e:v.cells.toList=[v]):(Rp.sl r).fe G v.cells.toList xs:=⟨v,e,h⟩
theorem ZBj{t e:TypeId}{len:Nat}{parts:Array (Nat×Operand)}{vs:Ŀ Value}{xs:Ŀ α}{f:Lo}[x:Udl P t (.slice e)](_:RpT P e α r)(v:fr.iv (parts.toList.map (·.2))=some vs)(c:þ r G (oK vs) xs)(s:(parts.toList.map (·.1)).length=vs.length)(a:xs.length=len)(d:len<=small)
  (h:∀w,(Instr.buildSlice t len ((parts.toList.map (·.1)).zip vs).toArray).run P w=.ok (.slice (some ⟨w.heap.size,0,none⟩) len len) (w.alloc (.cells (oK vs).toArray e))) (n:w0.L=f) (m:f.get 999=none) (u:L.get 999=none) (q:Ω N dst)
  (k:∀p G',Mem.le G G'->Ζ r G' (.slice p len len) xs->WL P N ops Q l (ν dst (.slice p len len) fr) (St w0 G0 G' L)):WL P N ops Q (⟨dst,.buildSlice t len parts,ty,pos,af,none⟩::l) fr (St w0 G0 G L):=by
 have g:fr.iv (parts.toList.map (·.2))=some ((((parts.toList.map (·.1)).zip vs).toArray).toList.map (·.2)):=by rw[v,List.map_snd_zip ŉ]
 have i:parts.toList.map (·.1)=(((parts.toList.map (·.1)).zip vs).toArray).toList.map (·.1):=by rw[List.map_fst_zip ŉ]
 have j:w0.L.get 999=none:=by rw[n];exact m
 exact WL.qP (key:=999) (e:=e) (r:=r) (cs:=oK vs) xs Zh q g i a d h c u j k
theorem YP{t e:TypeId}{z:Value}{s:Operand}{sz bytes m c id:Nat}{v:Value}{xs ys:Ŀ α}{p:ŀ Addr}{tk:ŀ Ow}[u:Udl P t (.slice e)][j:ElC P e z sz bytes](q:fr.ev s=some v)(A:fr.ev x=some (.slice p m c))(y:Γ r e G v xs tk)(g:L.get id=tk)(B:Ζ r G (.slice p m c) ys)(h:(xs++ys).length<=small)(C:sz=r.size)(i:z.cells.size=r.size)(f:bytes<=100000)(n:Ω N dst)
  (k:∀p' a d,Γ r e G (.slice p' (xs++ys).length a) (xs++ys) d->WL P N ops Q l (ν dst (.slice p' (xs++ys).length a) fr) (St w0 G0 G ((id,d)::L))) :
  WL P N ops Q (⟨dst,.call ⟨.builtin .append,#[s,x],#[t,t]⟩,ty,pos,af,none⟩::l) fr (St w0 G0 G L):=WL.iQ id Zh n u.h (C ▸ j.h) i f q A y g B h k
end
theorem ZxI{t t':TypeId}{b n:Nat}{a:IntKind}{f:Fin n->Int}{i u:Int}{key:Nat}[h:Siz P t 1](c:fr.ev x=some (.pointer (some ⟨b,i.toNat,none⟩)))(d:fr.ev y=some (.int a u))(hi:L.get key=some ⟨b,.cells (õ (Value.int a) n f).toArray t' (0,0),0⟩)(e:0<=i/\i<(n:Int))
  (k:WL P N ops Q l fr (St w0 G0 G ((key,some ⟨b,.cells (õ (Value.int a) n (ζ f i.toNat u)).toArray t' (0,0),0⟩)::L))):WL P N ops Q (⟨none,.store t x y,ty,pos,af,none⟩::l) fr (St w0 G0 G L):=
 WL.fM key _ Zh h.h c d hi (by rw[Zy];omega) rfl (vq _ _ _ _ _) k
theorem ZxH{t t':TypeId}{b n:Nat}{f:Fin n->Bool}{i:Int}{u:Bool}{key:Nat}[h:Siz P t 1](a:fr.ev x=some (.pointer (some ⟨b,i.toNat,none⟩)))(c:fr.ev y=some (.bool u))(hi:L.get key=some ⟨b,.cells (õ Value.bool n f).toArray t' (0,0),0⟩)(d:0<=i/\i<(n:Int))
  (k:WL P N ops Q l fr (St w0 G0 G ((key,some ⟨b,.cells (õ Value.bool n (ζ f i.toNat u)).toArray t' (0,0),0⟩)::L))):WL P N ops Q (⟨none,.store t x y,ty,pos,af,none⟩::l) fr (St w0 G0 G L):=
 WL.fM key _ Zh h.h a c hi (by rw[Zy];omega) rfl (vq _ _ _ _ _) k
theorem sK{b o d n:Nat}{cells:Array Value}{rest vs q:Ŀ Value}(h:∀j u,cells[j]?=some u->(λk u=>G b k=some u) (o+j) u)(c:kX d cells.toList=some rest)(h2:rest=vs++q):∀j v,vs.toArray[j]?=some v->G b (o+d+j)=some v:=by obtain⟨p,h3,a⟩:=FN c;intro j v e;have:=h _ _ (Mj h3 a h2 j v e);rwa [<-Ţ]at this
theorem Zy7{t:TypeId}{b o d n:Nat}{c:Mem}{cells:Array Value}{rest:Ŀ Value}[h:Agg P t n](m:fr.ev x=some (.pointer (some ⟨b,o+d,none⟩)))(e:∀j u,cells[j]?=some u->(λk u=>c b k=some u) (o+j) u)(a:Mem.le c G)(f:kX d cells.toList=some rest)(i:rest.length=n):Y0 P N ⟨dst,.load t x,ty,pos,af,g⟩ fr (St w0 G0 G L) (.agg rest.toArray):=
 Y0.jv rest.toArray h.h m (by simpa using i) (λj v l=>a _ _ _ (sK (n:=n) e f (Ę rest).symm j v l))
theorem Zy8{t:TypeId}{b o d n:Nat}{c:Mem}{cells:Array Value}{rest vs:Ŀ Value}[h:Agg P t n](p:fr.ev x=some (.pointer (some ⟨b,o+d,none⟩)))(f:∀j u,cells[j]?=some u->(λk u=>c b k=some u) (o+j) u)(a:Mem.le c G)(i:kX d cells.toList=some rest)(l:lX n rest=some vs):Y0 P N ⟨dst,.load t x,ty,pos,af,g⟩ fr (St w0 G0 G L) (.agg vs.toArray):=by obtain⟨q,h3,e⟩:=LX l;exact Y0.jv vs.toArray h.h p (by simpa using e) (λj v m=>a _ _ _ (sK (n:=n) f i h3 j v m))
theorem ZxP{t:TypeId}{b o n:Nat}{c:Mem}{d:IntKind}{f:Fin n->Int}{i:Int}[h:Sca P t](m:fr.ev x=some (.pointer (some ⟨b,o+i.toNat,none⟩)))(l:∀j u,(õ (Value.int d) n f).toArray[j]?=some u->(λk u=>c b k=some u) (o+j) u)(a:Mem.le c G)(e:0<=i/\i<(n:Int)):Y0 P N ⟨dst,.load t x,ty,pos,af,g⟩ fr (St w0 G0 G L) (Value.int d (Ε f i)):=Y0.hP h.h m (a _ _ _ (l i.toNat _ (tx _ _ _ e)))
theorem Yt{id:Nat}{a b:Code}(h:WC P N (.seq a b) (Exit.inBlock id Q) fr S):WC P N (.block id (.seq a b)) Q fr S:=WC.block h
theorem Ys{id i:Nat}{a:Array Oper}{b:Bool}(h:WC P N (.region i a b) (Exit.inBlock id Q) fr S):WC P N (.block id (.region i a b)) Q fr S:=WC.block h
theorem ZBA{t:TypeId}(h:Y0 P N ⟨dst,.load t x,ty,pos,af,g⟩ fr S v):Y0 P N ⟨dst,.load t x,ty,pos,af,g⟩ fr S v:=h
theorem ZBa{o:BinOp}{t yt:TypeId}(h:Y0 P N ⟨dst,.binOp o t x y yt,ty,pos,af,g⟩ fr S v):Y0 P N ⟨dst,.binOp o t x y yt,ty,pos,af,g⟩ fr S v:=h
theorem ZBz{b:Builtin}{xs:Array Operand}{a:Array TypeId}(h:Y0 P N ⟨dst,.call ⟨.builtin b,xs,a⟩,ty,pos,af,g⟩ fr S v):Y0 P N ⟨dst,.call ⟨.builtin b,xs,a⟩,ty,pos,af,g⟩ fr S v:=h
theorem ZBy(h:WL P N ops Q l fr S):WL P N ops Q l fr S:=h
theorem jn1{a b c d:Code}{o:Operand}(h:WC P N (.seq (.seq a (.cond o b c)) d) Q fr S):WC P N (.seq (.seq a (.cond o b c)) d) Q fr S:=h
theorem jn2{b c d:Code}{o:Operand}(h:WC P N (.seq (.cond o b c) d) Q fr S):WC P N (.seq (.cond o b c) d) Q fr S:=h
theorem ZBw{c:Code}(h:WC P N c Q fr S):WC P N c Q fr S:=h
theorem ZBx{e:Exit}(h:WE N Q e fr S):WE N Q e fr S:=h
theorem ZBv{Bt:Ο}{fs:Ŀ Bool}{Λ:Fr}{Τ:jj}(h:γ P N Q fr w0 G0 G L ops Bt fs l Λ Τ):γ P N Q fr w0 G0 G L ops Bt fs l Λ Τ:=h
theorem tn{o:Oper} (h:Y0 P N o fr S v:=by
 first
 |((with_reducible apply Y0.move);exact rfl)
 |((with_reducible apply Y0.eT);exact rfl;exact rfl)
 |((with_reducible apply Y0.qc);exact rfl;exact rfl)
 |((with_reducible apply ZBI);exact rfl)
 | ((with_reducible apply ZBA);first
  |((with_reducible apply ZAs);exact rfl;(focus ((repeat (first|exact lh|apply lt));all_goals exact rfl));exact rfl)
  |((with_reducible apply Zy9);exact rfl;(focus ((repeat (first|exact lh|apply lt));all_goals exact rfl));first|exact rfl|exact Zy _ _ _)
  |((with_reducible apply Zzd);exact rfl;(focus ((repeat (first|exact lh|apply lt));all_goals exact rfl));assumption)
  |((with_reducible apply Zzc);exact rfl;(focus ((repeat (first|exact lh|apply lt));all_goals exact rfl));assumption)
  |((with_reducible apply Zza);exact rfl;(focus ((repeat (first|exact lh|apply lt));all_goals exact rfl));exact rfl;first|exact rfl|exact xa _ _ _)
  |((with_reducible apply Zzb);exact rfl;(focus ((repeat (first|exact lh|apply lt));all_goals exact rfl));exact rfl;exact rfl)
  |((with_reducible apply ZAr);exact rfl;first|exact gz|exact gz1)
  |((with_reducible apply Zy7);exact rfl;(with_reducible assumption);exact uD;exact rfl;first|exact rfl|exact xa _ _ _)
  |((with_reducible apply Zy8);exact rfl;(with_reducible assumption);exact uD;exact rfl;exact rfl)
  |((with_reducible apply ZxP);exact rfl;(with_reducible assumption);exact uD;assumption)
  |((with_reducible apply Zy6);exact rfl;exact gzA;(first|exact rfl|exact Zy _ _ _))
  )
 | ((with_reducible apply ZBa);first
  |((with_reducible apply Y0.add);exact rfl;exact rfl)
  |((with_reducible apply Y0.lss);exact rfl;exact rfl)
  |((with_reducible apply Y0.eql);exact rfl;exact rfl)
  |((with_reducible apply Y0.gtr);exact rfl;exact rfl)
  |((with_reducible apply Y0.neq);exact rfl;exact rfl)
  |((with_reducible apply Y0.sub);exact rfl;exact rfl)
  |((with_reducible apply Y0.geq);exact rfl;exact rfl)
  |((with_reducible apply Y0.leq);exact rfl;exact rfl)
  |((with_reducible apply Y0.mul);exact rfl;exact rfl)
  |((with_reducible apply YX);exact rfl;exact rfl)
  |((with_reducible apply Yp);exact rfl;exact rfl)
  |((with_reducible apply YY);exact rfl;exact rfl)
  |((with_reducible apply Yn);kernel_rfl;exact rfl;exact rfl)
  |((with_reducible apply Yq);kernel_rfl;exact rfl;exact rfl)
  |((with_reducible apply Y0.shl);exact rfl;exact rfl;decide)
  |((with_reducible apply Y0.shr);exact rfl;exact rfl;decide)
  |((with_reducible apply Y0.and);exact rfl;exact rfl)
  |((with_reducible apply Y0.or);exact rfl;exact rfl)
  |((with_reducible apply Y0.rem);exact rfl;exact rfl;decide)
  |((with_reducible apply Y0.quo);exact rfl;exact rfl;decide)
  )
 | ((with_reducible apply ZBz);first
  |((with_reducible apply ZBn);exact rfl)
  |((with_reducible apply ZBm);exact rfl)
  |((with_reducible apply Yo);exact rfl)
  |((with_reducible apply Y0.max2);exact rfl;exact rfl)
  |((with_reducible apply Y0.min2);exact rfl;exact rfl)
  )
 |((with_reducible apply Zy4);(intro _;kernel_rfl))
 |((with_reducible apply ZAq);exact rfl;(first|exact rfl|simp[r5,Value.cells]);(intro _;kernel_rfl);exact rfl)
 |((with_reducible apply YU);exact rfl;exact rfl;(intro _;kernel_rfl))
 |((with_reducible apply YV);exact rfl;exact rfl;exact rfl;exact rfl;(intro _;kernel_rfl))
 |((with_reducible apply Y0.extract);exact rfl;exact rfl)
 |((with_reducible apply Y0.CN);exact rfl)
 |((with_reducible apply Y0.not);exact rfl)
 |((with_reducible apply YW);exact rfl)
 |((with_reducible apply Y0.assign);exact rfl)
 |((with_reducible apply Y0.neg);exact rfl)
 |((with_reducible apply Y0.nilCheck);exact rfl)
 |((with_reducible apply Zv0);exact rfl;exact rfl)):Y0 P N o fr S v:=h
structure IY (q:Prop):Prop where
 h:q
theorem XK{p:Prop} (h:p:=by
  (try dsimp only at *);repeat' (first
    | ((with_reducible apply ZBy);first
      |((with_reducible apply ZBo);exact rfl;exact rfl)
      |((with_reducible apply ZBp);exact rfl;exact rfl)
      |(with_reducible apply nx)
      |(with_reducible apply nr)
      |((with_reducible apply sk);exact rfl;exact rfl;exact rfl)
      |((with_reducible apply sf);exact rfl;exact rfl;exact rfl)
      |(guard_hyp zs;(with_reducible apply ZBb);exact hr;exact tn;exact rfl;((try clear hr);intro _ hr);rotate_left;((try clear hr);intro _ hr))
      |(guard_hyp zs;(with_reducible apply YN);exact hr;exact rfl;exact rfl;exact tn;exact rfl;((try clear hr);intro _ hr);rotate_left;((try clear hr);intro _ hr))
      |((with_reducible apply yy);exact tn;exact rfl)
      |((with_reducible apply gy);exact rfl;exact rfl;exact tn;exact rfl)
      |(with_reducible apply WL.nil)
      |((with_reducible apply ZyY);exact rfl;exact rfl;(focus ((repeat (first|exact lh|apply lt));all_goals exact rfl));exact rfl;exact rfl)
      |((with_reducible apply Yr);exact rfl;exact rfl;intro _)
      |((with_reducible apply ZxG);exact rfl;exact rfl;(focus ((repeat (first|exact lh|apply lt));all_goals exact rfl));(first|exact rfl|exact Zy _ _ _);(first|exact rfl|exact Zy _ _ _);(first|exact rfl|exact c|exact a))
      |(revert hr;refine pZ λ_ zh hr=>?_;(with_reducible apply Y8);exact uf İ;exact rfl;apply(SpcM.h zh);exact rfl)
      |(revert hr;refine pZ λ_ zh hr=>?_;(with_reducible apply ZyW);exact uf İ;exact rfl;exact rfl;exact rfl;apply(SpcM.h zh);exact rfl)
      | (revert hr;refine pZ λ_ zh hr=>?_;(with_reducible apply YQ);exact uf İ;exact rfl;apply(SpcM.h zh);exact rfl;rotate_left 1;intro _ _ _ zp
         first
           |(obtain⟨_,_,rfl,_⟩:=zp)
           |(obtain⟨_,_,_,_,rfl,_,_⟩:=zp)
           |(obtain⟨_,_,_,_,_,_,rfl,_,_,_⟩:=zp)
           |(obtain⟨_,_,_,_,_,_,_,_,rfl,_,_,_,_⟩:=zp))
      | (revert hr;refine pZ λ_ zh hr=>?_;(with_reducible apply ZBi);exact rfl;exact rfl;exact zh;exact zD;infer_instance;exact rfl;exact rfl;intro zh
         (repeat (first|with_reducible refine vA zh λ_ zh=>?_|with_reducible refine zy zh λ_ zh=>?_)))
      |((with_reducible apply Y7);exact rfl;intro _)
      |(revert hr;refine HC λzh hr=>?_;first|((with_reducible apply yy);(first|((with_reducible apply Ge);exact rfl;exact rfl;exact zh)|((with_reducible apply Gj);exact rfl;exact rfl;exact zh)|((with_reducible apply Gf);exact rfl;exact rfl;exact zh)|((with_reducible apply Gm);exact rfl;exact rfl;exact zh)|((with_reducible apply Y0.shl);exact rfl;exact rfl;exact zh)|((with_reducible apply Y0.rem);exact rfl;exact rfl;exact zh)|((with_reducible apply Y0.quo);exact rfl;exact rfl;exact zh)|((with_reducible apply Fp);exact rfl;exact rfl;exact zh)|((with_reducible apply Fo);exact rfl;exact rfl;exact zh)|((with_reducible apply FM);exact rfl;exact rfl;exact zh));exact rfl)|((with_reducible apply gy);exact rfl;exact rfl;(first|((with_reducible apply Ge);exact rfl;exact rfl;exact zh)|((with_reducible apply Gj);exact rfl;exact rfl;exact zh)|((with_reducible apply Gf);exact rfl;exact rfl;exact zh)|((with_reducible apply Gm);exact rfl;exact rfl;exact zh)|((with_reducible apply Y0.shl);exact rfl;exact rfl;exact zh)|((with_reducible apply Y0.rem);exact rfl;exact rfl;exact zh)|((with_reducible apply Y0.quo);exact rfl;exact rfl;exact zh)|((with_reducible apply Fp);exact rfl;exact rfl;exact zh)|((with_reducible apply Fo);exact rfl;exact rfl;exact zh)|((with_reducible apply FM);exact rfl;exact rfl;exact zh));exact rfl))
      | (revert hr;refine pZ λ_ zh hr=>?_;(with_reducible apply YT);exact rfl;exact rfl;exact rfl;exact rfl;exact zh;exact zD;infer_instance;exact rfl;exact rfl;intro zh
         (repeat (first|with_reducible refine vA zh λ_ zh=>?_|with_reducible refine zy zh λ_ zh=>?_)))
      |(guard_hyp zs;(with_reducible apply Yu);exact hr;exact rfl;exact rfl;((try clear hr);intro hr);rotate_left;((try clear hr);intro hr))
      |((with_reducible apply ZxI);exact rfl;exact rfl;(focus ((repeat (first|exact lh|apply lt));all_goals exact rfl));assumption)
      |((with_reducible apply ZxH);exact rfl;exact rfl;(focus ((repeat (first|exact lh|apply lt));all_goals exact rfl));assumption)
      |((with_reducible apply ZBj);infer_instance;exact rfl;(focus ((repeat (first|exact ZyI|(apply Zxq;(first|exact rfl|(apply Mr;exact gK;exact rfl)|exact N0))));fail_if_success refine ?_));exact rfl;exact rfl;decide;(intro _;kernel_rfl);assumption;exact rfl;exact rfl;exact rfl;intro _ _ _ _)
      |(revert hr;refine HC λzh hr=>?_;(with_reducible apply YP);exact rfl;exact rfl;(first|exact zC|exact Γ.nil);(focus ((repeat (first|exact lh|apply lt));all_goals exact rfl));exact gK;exact zh;exact rfl;exact rfl;decide;exact rfl;intro _ _ _ _)
      | (revert hr;refine pZ λ_ zh hr=>?_;(with_reducible apply ZAk);exact uf İ;exact rfl;exact rfl;exact rfl;apply(SpcM.h zh);exact rfl;rotate_left 1;intro _ _ _ zp
         (first
           |(obtain⟨_,_,rfl,_⟩:=zp)
           |(obtain⟨_,_,_,_,rfl,_,_⟩:=zp)
           |(obtain⟨_,_,_,_,_,_,rfl,_,_,_⟩:=zp)
           |(obtain⟨_,_,_,_,_,_,_,_,rfl,_,_,_,_⟩:=zp)))
      |(revert hr;refine pZ λ_ zh hr=>?_;(with_reducible apply ZyX);exact rfl;exact uf İ;exact rfl;apply(SpcM.h zh);exact rfl)
      |(revert hr;refine pZ λ_ zh hr=>?_;(with_reducible apply yy);((with_reducible apply Zy5);exact rfl;exact rfl;exact zC;exact zh);exact rfl)
      |((with_reducible apply ZyZ);exact rfl;exact rfl;exact zC;(focus ((repeat (first|exact lh|apply lt));all_goals exact rfl));exact rfl;exact rfl;(first|exact rfl|(apply Mr;exact gK;exact rfl)|exact N0);assumption;intro _ _)
      |(revert hr;refine HC λzh hr=>?_;(with_reducible apply ZAm);infer_instance;exact rfl;exact rfl;exact zh;exact rfl;exact rfl;exact rfl;exact rfl;exact rfl;(first|exact rfl|(apply Mr;exact gK;exact rfl)|exact N0);intro _ _ _)
      | (revert hr;refine pZ λ_ zh hr=>?_;(with_reducible apply Y9);exact uf İ;exact rfl;apply(SpcM.h zh);rotate_left 1;exact rfl;((with_reducible apply ls1);(focus ((repeat (first|exact lh|apply lt));all_goals exact rfl)));exact tL;rotate_left 1;intro _ _ _ _ zp
         (obtain⟨_,_,_,rfl,rfl,_⟩:=zp))
      |exact(show False from hr).elim
      |(guard_hyp zs;refine Mv hr ?_ ?_<;>((try clear hr);intro zh hr;subst zh))
      |(guard_hyp zs;refine Mu hr ?_ ?_<;>((try clear hr);intro zh _ hr;rw[zh]))
      )
    | ((with_reducible apply ZBx);first
      |(with_reducible apply WE.then)
      |(with_reducible apply WE.hJ)
      |(with_reducible apply WE.å)
      |(with_reducible apply WE.inBlock)
      |(with_reducible apply WE.gv)
      |(with_reducible apply WE.Ì)
      |(with_reducible apply WE.nx)
      |(with_reducible apply WE.se)
      |((with_reducible apply Ó);exact hr;exact rfl;exact rfl)
      |((with_reducible apply WE.jP);exact rfl;exact ya;(rewrite [<-(show _=r from hr)]);first|exact rfl|exact⟨_,_,rfl,gK⟩|exact⟨_,_,rfl,HF⟩|exact⟨_,_,_,_,rfl,gK,gK⟩|exact⟨_,_,_,_,_,_,rfl,gK,gK,gK⟩|exact⟨_,_,_,_,_,_,_,_,rfl,gK,gK,gK,gK⟩)
      |((with_reducible apply WE.uM);exact rfl;exact ya;exact ya;(rewrite [<-(show _=r from hr)]);first|exact rfl|exact⟨_,_,rfl,gK⟩|exact⟨_,_,rfl,HF⟩|exact⟨_,_,_,_,rfl,gK,gK⟩|exact⟨_,_,_,_,_,_,rfl,gK,gK,gK⟩|exact⟨_,_,_,_,_,_,_,_,rfl,gK,gK,gK,gK⟩)
      |((with_reducible apply WE.C3);exact rfl;exact ya;exact ya;exact ya;(rewrite [<-(show _=r from hr)]);first|exact rfl|exact⟨_,_,rfl,gK⟩|exact⟨_,_,rfl,HF⟩|exact⟨_,_,_,_,rfl,gK,gK⟩|exact⟨_,_,_,_,_,_,rfl,gK,gK,gK⟩)
      |((with_reducible apply wr_);exact rfl;exact ya;((rewrite [<-(show _=r from hr)]);exact⟨_,_,_,rfl,rfl,zC⟩);(focus ((repeat (first|exact lh|apply lt));all_goals exact rfl)))
      |(with_reducible apply WE.iX)
      |((with_reducible apply Nt);(first|refine qF (x':=⟨_,_,_,_,_,_,_,_,_,_,_,_⟩) hr ⟨Å rfl,wk iU,?_⟩|refine qF (x':=⟨_,_,_,_,_,_,_,_,_,_,_⟩) hr ⟨Å rfl,wk iU,?_⟩|refine qF (x':=⟨_,_,_,_,_,_,_,_,_,_⟩) hr ⟨Å rfl,wk iU,?_⟩|refine qF (x':=⟨_,_,_,_,_,_,_,_,_⟩) hr ⟨Å rfl,wk iU,?_⟩|refine qF (x':=⟨_,_,_,_,_,_,_,_⟩) hr ⟨Å rfl,wk iU,?_⟩|refine qF (x':=⟨_,_,_,_,_,_,_⟩) hr ⟨Å rfl,wk iU,?_⟩|refine qF (x':=⟨_,_,_,_,_,_⟩) hr ⟨Å rfl,wk iU,?_⟩|refine qF (x':=⟨_,_,_,_,_⟩) hr ⟨Å rfl,wk iU,?_⟩|refine qF (x':=⟨_,_,_,_⟩) hr ⟨Å rfl,wk iU,?_⟩|refine qF (x':=⟨_,_,_⟩) hr ⟨Å rfl,wk iU,?_⟩|refine qF (x':=⟨_,()⟩) hr ⟨Å rfl,wk iU,?_⟩|refine qF (x':=⟨_,_⟩) hr ⟨Å rfl,wk iU,?_⟩|refine qF (x':=_) hr ⟨Å rfl,wk iU,?_⟩);(try dsimp only))
      |((with_reducible apply Nu);(first|refine qG (x':=⟨_,_,_,_,_,_,_,_,_,_,_,_⟩) hr ⟨Å rfl,wk iU,?_⟩|refine qG (x':=⟨_,_,_,_,_,_,_,_,_,_,_⟩) hr ⟨Å rfl,wk iU,?_⟩|refine qG (x':=⟨_,_,_,_,_,_,_,_,_,_⟩) hr ⟨Å rfl,wk iU,?_⟩|refine qG (x':=⟨_,_,_,_,_,_,_,_,_⟩) hr ⟨Å rfl,wk iU,?_⟩|refine qG (x':=⟨_,_,_,_,_,_,_,_⟩) hr ⟨Å rfl,wk iU,?_⟩|refine qG (x':=⟨_,_,_,_,_,_,_⟩) hr ⟨Å rfl,wk iU,?_⟩|refine qG (x':=⟨_,_,_,_,_,_⟩) hr ⟨Å rfl,wk iU,?_⟩|refine qG (x':=⟨_,_,_,_,_⟩) hr ⟨Å rfl,wk iU,?_⟩|refine qG (x':=⟨_,_,_,_⟩) hr ⟨Å rfl,wk iU,?_⟩|refine qG (x':=⟨_,_,_⟩) hr ⟨Å rfl,wk iU,?_⟩|refine qG (x':=⟨_,()⟩) hr ⟨Å rfl,wk iU,?_⟩|refine qG (x':=⟨_,_⟩) hr ⟨Å rfl,wk iU,?_⟩|refine qG (x':=_) hr ⟨Å rfl,wk iU,?_⟩);(try dsimp only))
      |((with_reducible apply Nv);(first|refine qH (x':=⟨_,_,_,_,_,_,_,_,_,_,_,_⟩) hr ⟨Å rfl,wk iU,?_⟩|refine qH (x':=⟨_,_,_,_,_,_,_,_,_,_,_⟩) hr ⟨Å rfl,wk iU,?_⟩|refine qH (x':=⟨_,_,_,_,_,_,_,_,_,_⟩) hr ⟨Å rfl,wk iU,?_⟩|refine qH (x':=⟨_,_,_,_,_,_,_,_,_⟩) hr ⟨Å rfl,wk iU,?_⟩|refine qH (x':=⟨_,_,_,_,_,_,_,_⟩) hr ⟨Å rfl,wk iU,?_⟩|refine qH (x':=⟨_,_,_,_,_,_,_⟩) hr ⟨Å rfl,wk iU,?_⟩|refine qH (x':=⟨_,_,_,_,_,_⟩) hr ⟨Å rfl,wk iU,?_⟩|refine qH (x':=⟨_,_,_,_,_⟩) hr ⟨Å rfl,wk iU,?_⟩|refine qH (x':=⟨_,_,_,_⟩) hr ⟨Å rfl,wk iU,?_⟩|refine qH (x':=⟨_,_,_⟩) hr ⟨Å rfl,wk iU,?_⟩|refine qH (x':=⟨_,()⟩) hr ⟨Å rfl,wk iU,?_⟩|refine qH (x':=⟨_,_⟩) hr ⟨Å rfl,wk iU,?_⟩|refine qH (x':=_) hr ⟨Å rfl,wk iU,?_⟩);(try dsimp only))
      |exact(show False from hr).elim
      )
    | ((with_reducible apply ZBw);first
      |((first|guard_hyp zs|(fail_if_success with_reducible apply jn1;fail_if_success with_reducible apply jn2));first|(with_reducible apply sr)|(with_reducible apply WC.seq))
      |(with_reducible apply WC.skip)
      |(with_reducible apply WC.ret)
      |(guard_hyp zs;(with_reducible apply ZBq);exact hr;exact rfl;((try clear hr);intro _ hr);rotate_left;((try clear hr);intro _ hr))
      |(guard_hyp zs;(with_reducible apply WC.VT);exact hr;exact rfl;((try clear hr);intro _ hr);rotate_left;((try clear hr);intro _ hr))
      |(with_reducible apply WC.region)
      |(with_reducible apply Yt)
      |(with_reducible apply Ys)
      |(with_reducible apply WC.exit)
      |((with_reducible apply WC.pM);exact rfl)
      |((with_reducible apply WC.pL);exact rfl)
      |((with_reducible apply ZAl);exact rfl;(repeat ((with_reducible apply ZBs);decide +kernel));(with_reducible apply ZBr);decide +kernel;intro _)
      |exact(show False from hr).elim
      |(guard_hyp zs;refine Mv hr ?_ ?_<;>((try clear hr);intro zh hr;subst zh))
      |(guard_hyp zs;refine Mu hr ?_ ?_<;>((try clear hr);intro zh _ hr;rw[zh]))
      )
    | ((with_reducible apply ZBv);first
      |(guard_hyp zs;(with_reducible apply Yv);exact hr;(intro _ _;exact tn);((try clear hr);intro _ hr);rotate_left;((try clear hr);intro _ hr))
      |(guard_hyp zs;(with_reducible apply YJ);exact hr;exact rfl;exact rfl;(intro _ _;exact tn);((try clear hr);intro _ hr);rotate_left;((try clear hr);intro _ hr))
      |((with_reducible apply Wq);(intro _ _;exact tn))
      |((with_reducible apply cy);exact rfl;exact rfl;(intro _ _;exact tn))
      |((with_reducible apply ct);exact rfl;exact rfl)
      |((with_reducible apply cf);exact rfl;exact rfl)
      |((with_reducible apply cs);exact rfl;exact rfl)
      |((with_reducible apply γ.mV);assumption)
      |(revert hr;refine pZ λ_ zh hr=>?_;(with_reducible apply ZzM);exact uf İ;exact rfl;apply(SpcM.h zh);(intro _ _))
      |(revert hr;refine pZ λ_ zh hr=>?_;(with_reducible apply Zyh);exact uf İ;exact rfl;exact rfl;exact rfl;apply(SpcM.h zh);(intro _ _))
      | (revert hr;refine pZ λ_ zh hr=>?_;(with_reducible apply Yw);exact rfl;exact rfl;exact zh;exact zD;infer_instance;exact rfl;intro zh
         (repeat (first|with_reducible refine vA zh λ_ zh=>?_|with_reducible refine zy zh λ_ zh=>?_)))
      |(revert hr;refine HC λzh hr=>?_;first|((with_reducible apply Wq);(intro _ _;first|((with_reducible apply Ge);exact rfl;exact rfl;exact zh)|((with_reducible apply Gj);exact rfl;exact rfl;exact zh)|((with_reducible apply Gf);exact rfl;exact rfl;exact zh)|((with_reducible apply Gm);exact rfl;exact rfl;exact zh)|((with_reducible apply Y0.shl);exact rfl;exact rfl;exact zh)|((with_reducible apply Y0.rem);exact rfl;exact rfl;exact zh)|((with_reducible apply Y0.quo);exact rfl;exact rfl;exact zh)|((with_reducible apply Fp);exact rfl;exact rfl;exact zh)|((with_reducible apply Fo);exact rfl;exact rfl;exact zh)|((with_reducible apply FM);exact rfl;exact rfl;exact zh)))|((with_reducible apply cy);exact rfl;exact rfl;(intro _ _;first|((with_reducible apply Ge);exact rfl;exact rfl;exact zh)|((with_reducible apply Gj);exact rfl;exact rfl;exact zh)|((with_reducible apply Gf);exact rfl;exact rfl;exact zh)|((with_reducible apply Gm);exact rfl;exact rfl;exact zh)|((with_reducible apply Y0.shl);exact rfl;exact rfl;exact zh)|((with_reducible apply Y0.rem);exact rfl;exact rfl;exact zh)|((with_reducible apply Y0.quo);exact rfl;exact rfl;exact zh)|((with_reducible apply Fp);exact rfl;exact rfl;exact zh)|((with_reducible apply Fo);exact rfl;exact rfl;exact zh)|((with_reducible apply FM);exact rfl;exact rfl;exact zh))))
      | (revert hr;refine pZ λ_ zh hr=>?_;(with_reducible apply YK);exact rfl;exact rfl;exact rfl;exact rfl;exact zh;exact zD;infer_instance;exact rfl;intro zh
         (repeat (first|with_reducible refine vA zh λ_ zh=>?_|with_reducible refine zy zh λ_ zh=>?_)))
      |(revert hr;refine pZ λ_ zh hr=>?_;(with_reducible apply ZzN);exact uf İ;(intro _;exact rfl);apply(SpcM.h zh);exact ZBd;(intro _ _))
      |((with_reducible apply ZBu);(intro _ _ _;exact tn))
      |((with_reducible apply h_f);exact tn)
      |((with_reducible apply ZBt);(intro _;exact tn))
      | ((with_reducible apply γ.tc);intro _ _ _ zp;(first
           |(obtain⟨_,_,rfl,_⟩:=zp)
           |(obtain⟨_,_,_,_,rfl,_,_⟩:=zp)
           |(obtain⟨_,_,_,_,_,_,rfl,_,_,_⟩:=zp)
           |(obtain⟨_,_,_,_,_,_,_,_,rfl,_,_,_,_⟩:=zp)))
      | ((with_reducible apply γ.td);intro _ _ _ _ zp zq;(first
           |(obtain⟨_,_,rfl,_⟩:=zp)
           |(obtain⟨_,_,_,_,rfl,_,_⟩:=zp)
           |(obtain⟨_,_,_,_,_,_,rfl,_,_,_⟩:=zp)
           |(obtain⟨_,_,_,_,_,_,_,_,rfl,_,_,_,_⟩:=zp));(first
           |(obtain⟨_,_,rfl,_⟩:=zq)
           |(obtain⟨_,_,_,_,rfl,_,_⟩:=zq)
           |(obtain⟨_,_,_,_,_,_,rfl,_,_,_⟩:=zq)
           |(obtain⟨_,_,_,_,_,_,_,_,rfl,_,_,_,_⟩:=zq)))
      |exact(show False from hr).elim
      |(guard_hyp zs;refine Mv hr ?_ ?_<;>((try clear hr);intro zh hr;subst zh))
      |(guard_hyp zs;refine Mu hr ?_ ?_<;>((try clear hr);intro zh _ hr;rw[zh]))
      )
    |((with_reducible apply en0);exact rfl;exact rfl;exact rfl;exact rfl;intro _ _ _ zh;(repeat (first|with_reducible refine vA zh λ_ zh=>?_|with_reducible refine zy zh λ_ zh=>?_)))
    |((with_reducible apply en1);exact rfl;exact rfl;exact rfl;exact rfl;intro _ _ _ zh;(repeat (first|with_reducible refine vA zh λ_ zh=>?_|with_reducible refine zy zh λ_ zh=>?_)))
    |exact uD
    |exact trivial
    |exact zD
    |exact XH
    |exact zC
    |((with_reducible apply Tok.full))
    |(with_reducible assumption)
    |exact Γ.nil
    |(with_reducible apply And.intro)
    )
  first
  |fail_if_success refine ?_
  | ((try (revert zh;have zc:=zk;clear zc))
     (try (revert zp;have zc:=zk;clear zc))
     (try (revert hr;have zc:=zk;clear zc))
     (repeat (rename_i zx;revert zx;have zc:=zk;clear zc))
     exact zk.h
     fail_if_success refine ?_)):p:=h
theorem Ξ{p q:Prop}(k:q) (h:IY q->IY True->p:=by
 intro zk zs;(try have hr:=hr);exact XK):p:=h ⟨k⟩ ⟨trivial⟩
theorem ê{p q:Prop}(k:q) (h:IY q->p:=by
 intro zk;(try have hr:=hr);exact XK):p:=h ⟨k⟩
theorem Η{p:Prop}(h:p:=by exact Ξ trivial):p:=h
end
abbrev tr:Mem->Prop:=λ_=>True
def Fr.pick(fr:Fr):Ŀ Nat->ŀ Fr
 |[]=>some []
 |t::a=>match fr.get t with
  |some v=>match Fr.pick fr a with
   |some r=>some ((t,v)::r)
   |none=>none
  |none=>none
theorem Fr.Ba{fr:Fr}:∀{a:Ŀ Nat}{A:Fr},fr.pick a=some A->Fr.sub A fr
 |[],A,h=>by simp only[Fr.pick,ď]at h;subst h;exact Fr.Zw _
 |t::a,A,h=>by
  unfold Fr.pick at h;split at h
  .rename_i v c;split at h
   .rename_i r hr;simp only[ď]at h;subst h;exact Fr.Zi c (Fr.Ba hr)
   cases h
  cases h
def Lo.find:Lo->Nat->ŀ (ŀ Ow)
 |[],_=>none
 |p::r,i=>bif Nat.beq p.1 i then some p.2 else Lo.find r i
theorem Lo.Tm:∀{L:Lo}{i:Nat}{x:ŀ Ow},L.find i=some x->L.get i=x
 |[],i,x,h=>by cases h
 |p::r,i,x,h=>by
  unfold Lo.find at h;show(bif Nat.beq p.1 i then p.2 else Lo.get r i)=x;cases a:Nat.beq p.1 i with
  |true=>rw[a]at h;simpa using h
  |false=>rw[a]at h;exact Lo.Tm h
def Lo.pick(L:Lo):Ŀ Nat->ŀ Lo
 |[]=>some []
 |i::a=>match L.find i with
  |some x=>match Lo.pick L a with
   |some r=>some ((i,x)::r)
   |none=>none
  |none=>none
theorem Lo.Ba{L:Lo}:∀{a:Ŀ Nat}{A:Lo},L.pick a=some A->Lo.sub A L
 |[],A,h=>by simp only[Lo.pick,ď]at h;subst h;exact Lo.Zw _
 |t::a,A,h=>by
  unfold Lo.pick at h;split at h
  .rename_i v c;split at h
   .rename_i r hr;simp only[ď]at h;subst h;exact Lo.Zi (Lo.Tm c) (Lo.Ba hr)
   cases h
  cases h
theorem Fr.Y6{A B fr:Fr}(c:Fr.sub A fr)(h2:Fr.sub B fr):Fr.sub (A++B) fr:=by
 intro t v h;rw[Fr.get_append]at h;cases a:A.get t with
 |some x=>rw[a]at h;exact c t v (by rw[a];simpa using h)
 |none=>rw[a]at h;exact h2 t v (by simpa using h)
theorem Lo.UG:∀{A B L:Lo},(∀p∈A,L.get p.1=p.2)->Lo.sub B L->Lo.sub (A++B) L
 |[],_,_,_,h2=>h2
 |p::A,B,L,a,h2=>Lo.Zi (a p ß) (Lo.UG (λq c=>a q (by simp[c])) h2)
theorem Y4{A L:Lo}(h:A.map (λp=>L.get p.1)=A.map (λp=>p.2)):∀p∈A,L.get p.1=p.2:=by
 induction A with
 |nil=>intro p hp;cases hp
 |cons q A a=>
  simp only[Ġ,ŏ]at h;intro p hp;rcases Ď.1 hp with rfl|hp
  .exact h.1
  exact a h.2 p hp
section
variable {P:Program}{N:Nat}{Q:î}{fr:Fr}{w0:Bs}{G0 G:Mem}{L:Lo}
theorem WC.mL{X Y σ ρ β:Type}{id:Nat}{c:Code}{step:σ->Cq (σ⊕ρ)}{f:σ}{k:ρ->Cq β}{Ψ:β->Prop}{f1 f2:Fr}{i j:Lo}(t:((Cq.loop step f).next k).wp Ψ)(a b a' b':Ŀ Nat)
  (g:X->σ×Fr×(Mem->Prop)×Lo) (e:Y->ρ×Fr×(Mem->Prop)×Lo) (d:X) (l:(fr.pick a,L.pick b,fr.pick a',L.pick b')=(some f1,some i,some f2,some j)) (q:(g d).1=f)
  (r:(g d).2.1.map (λp=>fr.get p.1)=(g d).2.1.map (λp=>some p.2)) (s:(g d).2.2.2.map (λp=>L.get p.1)=(g d).2.2.2.map (λp=>p.2)) (hH:(g d).2.2.1 G)
  (round:∀(A:σ->Prop) G' x,Mem.le G G'->(g x).2.2.1 G'->(step (g x).1).wp (Out A λo=>(k o).wp Ψ)->
   WC P N c (Exit.then (jm N (λy:Mem×X=>(g y.2).2.1++f1) (λy=>Mem.le G y.1/\(g y.2).2.2.1 y.1) (λy=>St w0 G0 y.1 ((g y.2).2.2.2++i)) (λy=>(g y.2).1) A)
    (Exit.inBlock id (la N (λy:Mem×Y=>(e y.2).2.1++f2) (λy=>(k (e y.2).1).wp Ψ/\Mem.le G y.1/\(e y.2).2.2.1 y.1) (λy=>St w0 G0 y.1 ((e y.2).2.2.2++j)) Q))) ((g x).2.1++f1) (St w0 G0 G' ((g x).2.2.2++i)))
  (h2:∀G' z,(k (e z).1).wp Ψ->Mem.le G G'->(e z).2.2.1 G'->WE N Q .normal ((e z).2.1++f2) (St w0 G0 G' ((e z).2.2.2++j))):WC P N (.block id (.loop c)) Q fr (St w0 G0 G L):=by
 have m:=Fr.Ba (đ (·.1) l)
 have n:=Lo.Ba (đ (·.2.1) l)
 exact WC.wa (X:=Mem×X) (Y:=Mem×Y) t (λy=>⟨(g y.2).1,(g y.2).2.1++f1,Mem.le G y.1/\(g y.2).2.2.1 y.1,St w0 G0 y.1 ((g y.2).2.2.2++i)⟩) (λy=>⟨(e y.2).1,(e y.2).2.1++f2,Mem.le G y.1/\(e y.2).2.2.1 y.1,St w0 G0 y.1 ((e y.2).2.2.2++j)⟩) (G,d) q
  (Fr.Y6 (Å r) m) ⟨Mem.le_refl _,hH⟩ (λw h=>h.weaken (Lo.UG (Y4 s) n))
  (λA x h hr=>round A x.1 x.2 h.1 h.2 hr) (λz h=>h2 z.1 z.2 h.1 h.2.1 h.2.2)
theorem GH{p:Prop} (h:p:=by
 (try dsimp only);(repeat' (first
  |with_reducible exact trivial
  |exact gK
  |exact zC
  |(with_reducible apply Tok.full)
  |exact Γ.nil
  |(with_reducible assumption)
  |with_reducible apply And.intro
  |exact HF
  |assumption))
 fail_if_success refine ?_):p:=h
theorem px{α β:Type}{p:α×β->Prop}(h:∀a b,p (a,b)):∀x,p x:=λx=>h x.1 x.2
theorem rd{p:Prop} (h:p:=by
 intro _ _;(repeat (refine px ?_;intro _));intro _ zl zi hr;(try dsimp only at zi);(repeat (with_reducible refine vA zi λ_ zi=>?_));exact Η):p:=h
theorem rs{p:Prop} (h:p:=by
 intro _;(repeat (refine px ?_;intro _));intro _ hr zl zi;(try dsimp only at zi);(repeat (with_reducible refine vA zi λ_ zi=>?_));exact Η):p:=h
theorem WC.mA{X Y σ ρ β:Type}{id:Nat}{c:Code}{step:σ->Cq (σ⊕ρ)}{f:σ}{k:ρ->Cq β}{Ψ:β->Prop}{f1 f2:Fr}{h i:Lo}(q:((Cq.loop step f).next k).wp Ψ)(a b a' b':Ŀ Nat)
  (g:X->σ×Fr×(Mem->Prop)×Lo) (e:Y->ρ×Fr×(Mem->Prop)×Lo) (d:X) (n:(fr.pick a,L.pick b,fr.pick a',L.pick b')=(some f1,some h,some f2,some i):=by exact rfl) (j:(g d).1=f:=by exact rfl) (l:(g d).2.1.map (λp=>fr.get p.1)=(g d).2.1.map (λp=>some p.2):=by exact rfl) (m:(g d).2.2.2.map (λp=>L.get p.1)=(g d).2.2.2.map (λp=>p.2):=by exact rfl) (hH:(g d).2.2.1 G:=by exact GH)
  (round:∀(A:σ->Prop) G' x,Mem.le G G'->(g x).2.2.1 G'->(step (g x).1).wp (Out A λo=>(k o).wp Ψ)->
   WC P N c (Exit.then (jm N (λy:Mem×X=>(g y.2).2.1++f1) (λy=>Mem.le G y.1/\(g y.2).2.2.1 y.1) (λy=>St w0 G0 y.1 ((g y.2).2.2.2++h)) (λy=>(g y.2).1) A)
    (Exit.inBlock id (la N (λy:Mem×Y=>(e y.2).2.1++f2) (λy=>(k (e y.2).1).wp Ψ/\Mem.le G y.1/\(e y.2).2.2.1 y.1) (λy=>St w0 G0 y.1 ((e y.2).2.2.2++i)) Q))) ((g x).2.1++f1) (St w0 G0 G' ((g x).2.2.2++h)):=by exact rd)
  (h2:∀G' z,(k (e z).1).wp Ψ->Mem.le G G'->(e z).2.2.1 G'->WE N Q .normal ((e z).2.1++f2) (St w0 G0 G' ((e z).2.2.2++i)):=by exact rs):WC P N (.block id (.loop c)) Q fr (St w0 G0 G L):=WC.mL q a b a' b' g e d n j l m hH round h2
theorem WC.mB{X Y σ ρ β:Type}{id:Nat}{c:Code}{step:σ->Cq (σ⊕ρ)}{f:σ}{k:ρ->Cq β}{Ψ:β->Prop}{f1 f2:Fr}{h i:Lo}(q:((Cq.loop step f).next k).wp Ψ)(a b a' b':Ŀ Nat)
  (g:X->σ×Fr×(Mem->Prop)×Lo) (e:Y->ρ×Fr×(Mem->Prop)×Lo) (d:X) (h2:∀G' z,(k (e z).1).wp Ψ->Mem.le G G'->(e z).2.2.1 G'->WE N Q .normal ((e z).2.1++f2) (St w0 G0 G' ((e z).2.2.2++i)))
  (n:(fr.pick a,L.pick b,fr.pick a',L.pick b')=(some f1,some h,some f2,some i):=by exact rfl) (j:(g d).1=f:=by exact rfl) (l:(g d).2.1.map (λp=>fr.get p.1)=(g d).2.1.map (λp=>some p.2):=by exact rfl) (m:(g d).2.2.2.map (λp=>L.get p.1)=(g d).2.2.2.map (λp=>p.2):=by exact rfl) (hH:(g d).2.2.1 G:=by exact GH)
  (round:∀(A:σ->Prop) G' x,Mem.le G G'->(g x).2.2.1 G'->(step (g x).1).wp (Out A λo=>(k o).wp Ψ)->
   WC P N c (Exit.then (jm N (λy:Mem×X=>(g y.2).2.1++f1) (λy=>Mem.le G y.1/\(g y.2).2.2.1 y.1) (λy=>St w0 G0 y.1 ((g y.2).2.2.2++h)) (λy=>(g y.2).1) A)
    (Exit.inBlock id (la N (λy:Mem×Y=>(e y.2).2.1++f2) (λy=>(k (e y.2).1).wp Ψ/\Mem.le G y.1/\(e y.2).2.2.1 y.1) (λy=>St w0 G0 y.1 ((e y.2).2.2.2++i)) Q))) ((g x).2.1++f1) (St w0 G0 G' ((g x).2.2.2++h)):=by exact rd):WC P N (.block id (.loop c)) Q fr (St w0 G0 G L):=WC.mL q a b a' b' g e d n j l m hH round h2
theorem WC.mC{X Y σ ρ β:Type}{id:Nat}{c:Code}{step:σ->Cq (σ⊕ρ)}{f:σ}{k:ρ->Cq β}{Ψ:β->Prop}{f1 f2:Fr}{h i:Lo}(q:((Cq.loop step f).next k).wp Ψ)(a b a' b':Ŀ Nat)
  (g:X->σ×Fr×(Mem->Prop)×Lo) (e:Y->ρ×Fr×(Mem->Prop)×Lo) (d:X) (round:∀(A:σ->Prop) G' x,Mem.le G G'->(g x).2.2.1 G'->(step (g x).1).wp (Out A λo=>(k o).wp Ψ)->
   WC P N c (Exit.then (jm N (λy:Mem×X=>(g y.2).2.1++f1) (λy=>Mem.le G y.1/\(g y.2).2.2.1 y.1) (λy=>St w0 G0 y.1 ((g y.2).2.2.2++h)) (λy=>(g y.2).1) A)
    (Exit.inBlock id (la N (λy:Mem×Y=>(e y.2).2.1++f2) (λy=>(k (e y.2).1).wp Ψ/\Mem.le G y.1/\(e y.2).2.2.1 y.1) (λy=>St w0 G0 y.1 ((e y.2).2.2.2++i)) Q))) ((g x).2.1++f1) (St w0 G0 G' ((g x).2.2.2++h)))
  (n:(fr.pick a,L.pick b,fr.pick a',L.pick b')=(some f1,some h,some f2,some i):=by exact rfl) (j:(g d).1=f:=by exact rfl) (l:(g d).2.1.map (λp=>fr.get p.1)=(g d).2.1.map (λp=>some p.2):=by exact rfl) (m:(g d).2.2.2.map (λp=>L.get p.1)=(g d).2.2.2.map (λp=>p.2):=by exact rfl) (hH:(g d).2.2.1 G:=by exact GH)
  (h2:∀G' z,(k (e z).1).wp Ψ->Mem.le G G'->(e z).2.2.1 G'->WE N Q .normal ((e z).2.1++f2) (St w0 G0 G' ((e z).2.2.2++i)):=by exact rs):WC P N (.block id (.loop c)) Q fr (St w0 G0 G L):=WC.mL q a b a' b' g e d n j l m hH round h2
theorem WC.mD{X Y σ ρ β:Type}{id:Nat}{c:Code}{step:σ->Cq (σ⊕ρ)}{f:σ}{k:ρ->Cq β}{Ψ:β->Prop}{f1 f2:Fr}{h i:Lo}(q:((Cq.loop step f).next k).wp Ψ)(a b a' b':Ŀ Nat)
  (g:X->σ×Fr×(Mem->Prop)×Lo) (e:Y->ρ×Fr×(Mem->Prop)×Lo) (d:X) (round:∀(A:σ->Prop) G' x,Mem.le G G'->(g x).2.2.1 G'->(step (g x).1).wp (Out A λo=>(k o).wp Ψ)->
   WC P N c (Exit.then (jm N (λy:Mem×X=>(g y.2).2.1++f1) (λy=>Mem.le G y.1/\(g y.2).2.2.1 y.1) (λy=>St w0 G0 y.1 ((g y.2).2.2.2++h)) (λy=>(g y.2).1) A)
    (Exit.inBlock id (la N (λy:Mem×Y=>(e y.2).2.1++f2) (λy=>(k (e y.2).1).wp Ψ/\Mem.le G y.1/\(e y.2).2.2.1 y.1) (λy=>St w0 G0 y.1 ((e y.2).2.2.2++i)) Q))) ((g x).2.1++f1) (St w0 G0 G' ((g x).2.2.2++h)))
  (h2:∀G' z,(k (e z).1).wp Ψ->Mem.le G G'->(e z).2.2.1 G'->WE N Q .normal ((e z).2.1++f2) (St w0 G0 G' ((e z).2.2.2++i)))
  (n:(fr.pick a,L.pick b,fr.pick a',L.pick b')=(some f1,some h,some f2,some i):=by exact rfl) (j:(g d).1=f:=by exact rfl) (l:(g d).2.1.map (λp=>fr.get p.1)=(g d).2.1.map (λp=>some p.2):=by exact rfl) (m:(g d).2.2.2.map (λp=>L.get p.1)=(g d).2.2.2.map (λp=>p.2):=by exact rfl) (hH:(g d).2.2.1 G:=by exact GH):WC P N (.block id (.loop c)) Q fr (St w0 G0 G L):=WC.mL q a b a' b' g e d n j l m hH round h2
theorem WC.nA{Y β:Type}{x y:Code}{m:Cq β}{Ψ:β->Prop}{f1:Fr}{c:Lo}(f:m.wp Ψ)(a b:Ŀ Nat)(e:Y->Fr×Cq β×(Mem->Prop)×Lo)(g:(fr.pick a,L.pick b)=(some f1,some c):=by exact rfl)
  (d:WC P N x (Exit.then (l7 N (λy:Mem×Y=>(e y.2).1++f1) (λy=>(e y.2).2.1.wp Ψ/\Mem.le G y.1/\(e y.2).2.2.1 y.1) (λy=>St w0 G0 y.1 ((e y.2).2.2.2++c))) Q) fr (St w0 G0 G L):=by exact Η)
  (h2:∀G' z,(e z).2.1.wp Ψ->Mem.le G G'->(e z).2.2.1 G'->WC P N y Q ((e z).1++f1) (St w0 G0 G' ((e z).2.2.2++c)):=by exact rs):WC P N (.seq x y) Q fr (St w0 G0 G L):=WC.sT (Y:=Mem×Y) f (λy=>⟨(e y.2).1++f1,(e y.2).2.1,Mem.le G y.1/\(e y.2).2.2.1 y.1,St w0 G0 y.1 ((e y.2).2.2.2++c)⟩) d (λz h=>h2 z.1 z.2 h.1 h.2.1 h.2.2)
theorem WC.nB{Y β:Type}{x y:Code}{m:Cq β}{Ψ:β->Prop}{f1:Fr}{c:Lo}(f:m.wp Ψ)(a b:Ŀ Nat)(e:Y->Fr×Cq β×(Mem->Prop)×Lo)(h2:∀G' z,(e z).2.1.wp Ψ->Mem.le G G'->(e z).2.2.1 G'->WC P N y Q ((e z).1++f1) (St w0 G0 G' ((e z).2.2.2++c)))
  (g:(fr.pick a,L.pick b)=(some f1,some c):=by exact rfl)
  (d:WC P N x (Exit.then (l7 N (λy:Mem×Y=>(e y.2).1++f1) (λy=>(e y.2).2.1.wp Ψ/\Mem.le G y.1/\(e y.2).2.2.1 y.1) (λy=>St w0 G0 y.1 ((e y.2).2.2.2++c))) Q) fr (St w0 G0 G L):=by exact Η):WC P N (.seq x y) Q fr (St w0 G0 G L):=WC.sT (Y:=Mem×Y) f (λy=>⟨(e y.2).1++f1,(e y.2).2.1,Mem.le G y.1/\(e y.2).2.2.1 y.1,St w0 G0 y.1 ((e y.2).2.2.2++c)⟩) d (λz h=>h2 z.1 z.2 h.1 h.2.1 h.2.2)
theorem WC.nC{Y β:Type}{x y:Code}{m:Cq β}{Ψ:β->Prop}{f1:Fr}{c:Lo}(f:m.wp Ψ)(a b:Ŀ Nat)(e:Y->Fr×Cq β×(Mem->Prop)×Lo)(d:WC P N x (Exit.then (l7 N (λy:Mem×Y=>(e y.2).1++f1) (λy=>(e y.2).2.1.wp Ψ/\Mem.le G y.1/\(e y.2).2.2.1 y.1) (λy=>St w0 G0 y.1 ((e y.2).2.2.2++c))) Q) fr (St w0 G0 G L))
  (g:(fr.pick a,L.pick b)=(some f1,some c):=by exact rfl)
  (h2:∀G' z,(e z).2.1.wp Ψ->Mem.le G G'->(e z).2.2.1 G'->WC P N y Q ((e z).1++f1) (St w0 G0 G' ((e z).2.2.2++c)):=by exact rs):WC P N (.seq x y) Q fr (St w0 G0 G L):=WC.sT (Y:=Mem×Y) f (λy=>⟨(e y.2).1++f1,(e y.2).2.1,Mem.le G y.1/\(e y.2).2.2.1 y.1,St w0 G0 y.1 ((e y.2).2.2.2++c)⟩) d (λz h=>h2 z.1 z.2 h.1 h.2.1 h.2.2)
theorem WC.nD{Y β:Type}{x y:Code}{m:Cq β}{Ψ:β->Prop}{f1:Fr}{c:Lo}(f:m.wp Ψ)(a b:Ŀ Nat)(e:Y->Fr×Cq β×(Mem->Prop)×Lo)(d:WC P N x (Exit.then (l7 N (λy:Mem×Y=>(e y.2).1++f1) (λy=>(e y.2).2.1.wp Ψ/\Mem.le G y.1/\(e y.2).2.2.1 y.1) (λy=>St w0 G0 y.1 ((e y.2).2.2.2++c))) Q) fr (St w0 G0 G L))
  (h2:∀G' z,(e z).2.1.wp Ψ->Mem.le G G'->(e z).2.2.1 G'->WC P N y Q ((e z).1++f1) (St w0 G0 G' ((e z).2.2.2++c)))
  (g:(fr.pick a,L.pick b)=(some f1,some c):=by exact rfl):WC P N (.seq x y) Q fr (St w0 G0 G L):=WC.sT (Y:=Mem×Y) f (λy=>⟨(e y.2).1++f1,(e y.2).2.1,Mem.le G y.1/\(e y.2).2.2.1 y.1,St w0 G0 y.1 ((e y.2).2.2.2++c)⟩) d (λz h=>h2 z.1 z.2 h.1 h.2.1 h.2.2)
end
end Go.EL

namespace Go.Proofs.YtepbagkffgddlaaGreat
open Go.IntKind (i8 i16 i32 i64 u8 u16 u32 u64)
open Go.Proofs.Tryz
open Go Go.EL Go.RowKit Go.Proofs
instance Wu:Agg prog 26 2:=⟨Bo⟩
instance Wv:Agg prog 34 3:=⟨MG⟩
instance Ww:Agg prog 37 1:=⟨Bp⟩
instance Wx:Agg prog 40 10:=⟨xC⟩
instance Wy:Agg prog 48 3:=⟨lD⟩
instance Wz:Agg prog 54 3:=⟨oG⟩
instance WA:Agg prog 56 11:=⟨Bq⟩
instance WB:Agg prog 71 8:=⟨lE⟩
instance WD:Agg prog 89 9:=⟨Br⟩
instance WG:Agg prog 94 7:=⟨MH⟩
instance M9:Agg prog 100 4:=⟨vB⟩
instance Na:Agg prog 118 2:=⟨pC⟩
instance Nb:Agg prog 120 4:=⟨rO⟩
instance Nc:Agg prog 129 4:=⟨Bl⟩
instance Nd:Agg prog 145 8:=⟨rP⟩
instance Ng:Agg prog 147 12:=⟨rQ⟩
instance Nh:Agg prog 160 3:=⟨Bm⟩
instance Ni:Agg prog 194 2:=⟨Bn⟩
instance Nj:Agg prog 202 3:=⟨rR⟩
instance Nk:Agg prog 225 64:=⟨mK⟩
instance Nl:Agg prog 325 32:=⟨ko⟩
instance amE:Sca prog 3:=⟨eK⟩
instance amF:Sca prog 4:=⟨uO⟩
instance amG:Sca prog 5:=⟨HE⟩
instance WT:Sca prog 24:=⟨uN⟩
instance WU:Sca prog 28:=⟨C5⟩
instance WV:Sca prog 31:=⟨yb⟩
instance WW:Sca prog 32:=⟨sP⟩
instance WX:Sca prog 35:=⟨C6⟩
instance WY:Sca prog 38:=⟨Od⟩
instance WZ:Sca prog 44:=⟨sQ⟩
instance W0:Sca prog 46:=⟨jQ⟩
instance W1:Sca prog 50:=⟨mu⟩
instance W2:Sca prog 52:=⟨sR⟩
instance W3:Sca prog 87:=⟨qR⟩
instance Nw:Sca prog 102:=⟨we⟩
instance Nx:Sca prog 116:=⟨qk⟩
instance Ny:Sca prog 126:=⟨n5⟩
instance Nz:Sca prog 127:=⟨lT⟩
instance NA:Sca prog 138:=⟨ql⟩
instance NB:Sca prog 140:=⟨wg⟩
instance NC:Sca prog 158:=⟨sM⟩
instance ND:Sca prog 196:=⟨sN⟩
instance NF:Sca prog 248:=⟨sO⟩
instance amH:Siz prog 3 1:=⟨jD⟩
instance amI:Siz prog 4 1:=⟨sz4⟩
instance amJ:Siz prog 5 1:=⟨sz5⟩
instance W4:Siz prog 26 2:=⟨Dk⟩
instance W5:Siz prog 28 1:=⟨Oi⟩
instance W6:Siz prog 32 1:=⟨Dl⟩
instance W7:Siz prog 37 1:=⟨Oj⟩
instance W8:Siz prog 40 10:=⟨Ol⟩
instance W9:Siz prog 44 1:=⟨Dm⟩
instance Xa:Siz prog 46 1:=⟨Om⟩
instance Xb:Siz prog 48 3:=⟨qU⟩
instance Xc:Siz prog 50 1:=⟨kQ⟩
instance Xd:Siz prog 52 1:=⟨Dn⟩
instance Xe:Siz prog 54 3:=⟨oa⟩
instance Xf:Siz prog 56 11:=⟨Dp⟩
instance Xg:Siz prog 71 8:=⟨oc⟩
instance Xh:Siz prog 87 1:=⟨Dq⟩
instance Xi:Siz prog 89 9:=⟨s9⟩
instance Xj:Siz prog 94 7:=⟨On⟩
instance NG:Siz prog 100 4:=⟨s6⟩
instance NH:Siz prog 102 1:=⟨De⟩
instance NI:Siz prog 118 2:=⟨wi⟩
instance NJ:Siz prog 120 4:=⟨wj⟩
instance NK:Siz prog 129 4:=⟨Df⟩
instance NL:Siz prog 138 1:=⟨Dg⟩
instance NM:Siz prog 140 1:=⟨Dh⟩
instance NN:Siz prog 145 8:=⟨wq⟩
instance NO:Siz prog 147 12:=⟨qt⟩
instance NP:Siz prog 160 3:=⟨Di⟩
instance NQ:Siz prog 194 2:=⟨n9⟩
instance NR:Siz prog 196 1:=⟨s7⟩
instance NS:Siz prog 197 5:=⟨wu⟩
instance NT:Siz prog 223 8:=⟨jY⟩
instance NU:Siz prog 225 64:=⟨lV⟩
instance NV:Siz prog 248 1:=⟨s8⟩
instance NW:Siz prog 325 32:=⟨wv⟩
instance am1:Zer prog 26 (.agg ([.slice none 0 0,.int .i64 0]).toArray):=⟨z26⟩
instance am2:Zer prog 48 (.agg ([.int .i64 0,.slice none 0 0,.slice none 0 0]).toArray):=⟨rA⟩
instance am3:Zer prog 54 (.agg ([.int .i64 0,.slice none 0 0,.slice none 0 0]).toArray):=⟨z54⟩
instance am4:Zer prog 56 (.agg ([.int .i64 0,.int .i64 0,.slice none 0 0,.slice none 0 0,.int .i64 0,.slice none 0 0,.slice none 0 0,.int .i64 0,.int .i64 0,.int .i64 0,.bool false]).toArray):=⟨yo⟩
instance am5:Zer prog 71 (.agg (õ (Value.int .i64) 8 (λ_=>0)).toArray):=⟨uX⟩
instance am6:Zer prog 89 (.agg ([.int .i64 0,.slice none 0 0,.int .i64 0,.int .i64 0,.int .i64 0,.slice none 0 0,.slice none 0 0,.slice none 0 0,.slice none 0 0]).toArray):=⟨HK⟩
instance am7:Zer prog 94 (.agg ([.int .i64 0,.slice none 0 0,.slice none 0 0,.int .i64 0,.slice none 0 0,.slice none 0 0,.int .i64 0]).toArray):=⟨z94⟩
instance Xy:Zer prog 100 (.agg ([.slice none 0 0,.int .i64 0,.int .i64 0,.int .i64 0]).toArray):=⟨yn⟩
instance Xz:Zer prog 118 (.agg ([.bool false,.slice none 0 0]).toArray):=⟨DL⟩
instance XA:Zer prog 120 (.agg ([.bool false,.slice none 0 0,.bool false,.slice none 0 0]).toArray):=⟨DM⟩
instance XB:Zer prog 129 (.agg ([.slice none 0 0,.slice none 0 0,.slice none 0 0,.int .i64 0]).toArray):=⟨OD⟩
instance XC:Zer prog 143 (.agg (õ Value.bool 8 (λ_=>false)).toArray):=⟨z143⟩
instance XD:Zer prog 145 (.agg (õ (Value.int .i64) 8 (λ_=>0)).toArray):=⟨z145⟩
instance XE:Zer prog 147 (.agg (([.bool false,.slice none 0 0,.bool false,.slice none 0 0]:Ŀ Value)++(õ (Value.int .i64) 8 (λ_=>0))).toArray):=⟨OF⟩
instance XF:Zer prog 225 (.agg (([.bool false,.slice none 0 0,.bool false,.slice none 0 0,.bool false,.slice none 0 0,.bool false,.slice none 0 0,.bool false,.slice none 0 0,.bool false,.slice none 0 0,.bool false,.slice none 0 0,.bool false,.slice none 0 0,.bool false,.slice none 0 0,.bool false,.slice none 0 0,.bool false,.slice none 0 0,.bool false,.slice none 0 0,.bool false,.slice none 0 0,.bool false,.slice none 0 0,.bool false,.slice none 0 0,.bool false,.slice none 0 0,.bool false,.slice none 0 0,.bool false,.slice none 0 0,.bool false,.slice none 0 0,.bool false,.slice none 0 0,.bool false,.slice none 0 0,.bool false,.slice none 0 0,.bool false,.slice none 0 0,.bool false,.slice none 0 0,.bool false,.slice none 0 0,.bool false,.slice none 0 0,.bool false,.slice none 0 0,.bool false,.slice none 0 0,.bool false,.slice none 0 0,.bool false,.slice none 0 0,.bool false,.slice none 0 0,.bool false,.slice none 0 0]:Ŀ Value)).toArray):=⟨DN⟩
instance XG:Zer prog 325 (.agg (([.bool false,.slice none 0 0,.bool false,.slice none 0 0,.bool false,.slice none 0 0,.bool false,.slice none 0 0,.bool false,.slice none 0 0,.bool false,.slice none 0 0,.bool false,.slice none 0 0,.bool false,.slice none 0 0,.bool false,.slice none 0 0,.bool false,.slice none 0 0,.bool false,.slice none 0 0,.bool false,.slice none 0 0,.bool false,.slice none 0 0,.bool false,.slice none 0 0,.bool false,.slice none 0 0,.bool false,.slice none 0 0]:Ŀ Value)).toArray):=⟨OH⟩
instance GP:Fad prog 26 0 0:=⟨λh=>Y0.Bh h⟩
instance GQ:Fad prog 26 1 1:=⟨λh=>Y0.zd h⟩
instance GR:Fad prog 34 0 0:=⟨λh=>Y0.ZAz h⟩
instance GS:Fad prog 34 1 1:=⟨λh=>Y0.Vz h⟩
instance GU:Fad prog 34 2 2:=⟨λh=>Y0.Yx h⟩
instance GV:Fad prog 37 0 0:=⟨λh=>Y0.VA h⟩
instance GW:Fad prog 40 0 0:=⟨λh=>Y0.Yy h⟩
instance GY:Fad prog 40 1 1:=⟨λh=>Y0.Yz h⟩
instance GZ:Fad prog 40 5 7:=⟨λh=>Y0.YE h⟩
instance G4:Fad prog 40 6 8:=⟨λh=>Y0.YF h⟩
instance G5:Fad prog 40 7 9:=⟨λh=>Y0.YG h⟩
instance G6:Fad prog 48 0 0:=⟨λh=>Y0.Gi h⟩
instance G7:Fad prog 48 1 1:=⟨λh=>Y0.Ml h⟩
instance G8:Fad prog 48 2 2:=⟨λh=>Y0.Mm h⟩
instance G9:Fad prog 54 0 0:=⟨λh=>Y0.VB h⟩
instance Ha:Fad prog 54 1 1:=⟨λh=>Y0.VC h⟩
instance Hb:Fad prog 54 2 2:=⟨λh=>Y0.VD h⟩
instance Hc:Fad prog 56 0 0:=⟨λh=>Y0.VE h⟩
instance Hd:Fad prog 56 1 1:=⟨λh=>Y0.VF h⟩
instance He:Fad prog 56 2 4:=⟨λh=>Y0.VG h⟩
instance Hf:Fad prog 56 3 7:=⟨λh=>Y0.Vg h⟩
instance Hg:Fad prog 56 4 8:=⟨λh=>Y0.Vh h⟩
instance Hh:Fad prog 56 5 9:=⟨λh=>Y0.Vi h⟩
instance Hi:Fad prog 56 6 10:=⟨λh=>Y0.Vj h⟩
instance Hj:Fad prog 89 0 0:=⟨λh=>Y0.Vk h⟩
instance Hk:Fad prog 89 1 1:=⟨λh=>Y0.Vl h⟩
instance Hl:Fad prog 89 2 2:=⟨λh=>Y0.Vm h⟩
instance Hm:Fad prog 89 3 3:=⟨λh=>Y0.Vn h⟩
instance Hn:Fad prog 89 4 4:=⟨λh=>Y0.Vo h⟩
instance Ho:Fad prog 89 5 5:=⟨λh=>Y0.Vp h⟩
instance Hq:Fad prog 89 6 6:=⟨λh=>Y0.Vq h⟩
instance Hr:Fad prog 89 7 7:=⟨λh=>Y0.Vr h⟩
instance Hs:Fad prog 89 8 8:=⟨λh=>Y0.Vs h⟩
instance Ht:Fad prog 94 0 0:=⟨λh=>Y0.Vt h⟩
instance Hu:Fad prog 94 1 3:=⟨λh=>Y0.YH h⟩
instance Hv:Fad prog 94 2 6:=⟨λh=>Y0.YI h⟩
instance B4:Fad prog 100 0 0:=⟨λh=>Y0.ZzC h⟩
instance B5:Fad prog 100 1 2:=⟨λh=>Y0.ZzD h⟩
instance B6:Fad prog 100 2 3:=⟨λh=>Y0.UN h⟩
instance B7:Fad prog 118 0 0:=⟨λh=>Y0.UO h⟩
instance B8:Fad prog 118 1 1:=⟨λh=>Y0.F6 h⟩
instance B9:Fad prog 120 0 0:=⟨λh=>Y0.UP h⟩
instance Ca:Fad prog 120 1 2:=⟨λh=>Y0.UQ h⟩
instance Cb:Fad prog 129 0 0:=⟨λh=>Y0.UR h⟩
instance Cc:Fad prog 129 1 1:=⟨λh=>Y0.US h⟩
instance Cd:Fad prog 129 2 2:=⟨λh=>Y0.UT h⟩
instance Ce:Fad prog 129 3 3:=⟨λh=>Y0.UU h⟩
instance Cf:Fad prog 147 0 0:=⟨λh=>Y0.L5 h⟩
instance Cg:Fad prog 147 1 4:=⟨λh=>Y0.ZzE h⟩
instance Ch:Fad prog 160 2 2:=⟨λh=>Y0.UW h⟩
instance Ci:Fad prog 194 0 0:=⟨λh=>Y0.UX h⟩
instance Cj:Fad prog 194 1 1:=⟨λh=>Y0.ZzH h⟩
instance Ck:Fad prog 202 0 0:=⟨λh=>Y0.UY h⟩
instance Cm:Fad prog 212 0 0:=⟨λh=>Y0.y6 h⟩
instance Cn:Fad prog 223 0 0:=⟨λh=>Y0.UZ h⟩
instance Co:Fad prog 223 1 4:=⟨λh=>Y0.U0 h⟩
instance Cp:Fad prog 228 0 0:=⟨λh=>Y0.U1 h⟩
instance Cs:Fad prog 228 1 3:=⟨λh=>Y0.ZzI h⟩
instance Ct:Fad prog 281 1 1:=⟨λh=>Y0.ZzK h⟩
instance Cu:Fad prog 281 2 2:=⟨λh=>Y0.ZzL h⟩
instance xS {x:Zg}:Exp rN x (λG K o=>∃c a,(∀(j:Nat) (u:Value),([.bool x.neg,.slice c x.υ.length a]).toArray[j]?=some u->K (o+j) u)/\Ζ (Rp.int .u32) G (.slice c x.υ.length a) x.υ):=⟨Kg⟩
instance vW {x:Za}:Exp Zk x (λG K o=>∃e d c a,(∀(j:Nat) (u:Value),(([.bool x.c.num.neg,.slice e x.c.num.υ.length d,.bool x.c.den.neg,.slice c x.c.den.υ.length a]:Ŀ Value)++(õ (Value.int .i64) 8 x.m)).toArray[j]?=some u->K (o+j) u)/\Ζ (Rp.int .u32) G (.slice e x.c.num.υ.length d) x.c.num.υ/\Ζ (Rp.int .u32) G (.slice c x.c.den.υ.length a) x.c.den.υ):=⟨ZtE⟩
instance rq {x:Zc}:Exp wR x (λG K o=>∃e d c a,(∀(j:Nat) (u:Value),([.int .i64 x.kind,.slice e x.p.length d,.slice c x.o.length a]).toArray[j]?=some u->K (o+j) u)/\Ζ Zk G (.slice e x.p.length d) x.p/\Ζ (Rp.vec .i64 8) G (.slice c x.o.length a) x.o):=⟨Jf⟩
instance vV {x:Ze}:Exp ZF x (λG K o=>∃e d c a i h g f,(∀(j:Nat) (u:Value),([.int .i64 x.id,.int .i64 x.k.n,.slice e x.k.eqs.length d,.slice c x.k.ε.length a,.int .i64 x.q.kind,.slice i x.q.p.length h,.slice g x.q.o.length f,.int .i64 x.χ,.int .i64 x.low,.int .i64 x.high,.bool x.done]).toArray[j]?=some u->K (o+j) u)/\Ζ (Rp.sl Zk) G (.slice e x.k.eqs.length d) x.k.eqs/\Ζ (Rp.sl Zk) G (.slice c x.k.ε.length a) x.k.ε/\Ζ Zk G (.slice i x.q.p.length h) x.q.p/\Ζ (Rp.vec .i64 8) G (.slice g x.q.o.length f) x.q.o):=⟨Re⟩
instance uA {x:Zu}:Exp ZP x (λG K o=>∃c a,(∀(j:Nat) (u:Value),([.slice c x.t.length a]).toArray[j]?=some u->K (o+j) u)/\Ζ (Rp.vec .i8 5) G (.slice c x.t.length a) x.t):=⟨Zru⟩
instance uB {x:ZM}:Exp tP x (λG K o=>∃c a e d,(∀(j:Nat) (u:Value),([.int .u8 x.kind,.slice c x.l.length a,.slice e x.v.length d]).toArray[j]?=some u->K (o+j) u)/\Ζ ZP G (.slice c x.l.length a) x.l/\Ζ (Rp.int .i8) G (.slice e x.v.length d) x.v):=⟨Zrv⟩
instance tK {x:Zt}:Exp yz x (λG K o=>∃e d c a g f i h,(∀(j:Nat) (u:Value),([.int .u8 x.fX,.int .u8 x.c.n,.slice e x.c.l.length d,.slice c x.c.iR.length a,.int .u8 x.kind,.slice g x.p.t.length f,.int .u8 x.o,.slice i x.l.length h,.int .i64 x.id,.int .i64 x.Μ]).toArray[j]?=some u->K (o+j) u)/\Ζ ZP G (.slice e x.c.l.length d) x.c.l/\Ζ (Rp.int .u8) G (.slice c x.c.iR.length a) x.c.iR/\Ζ (Rp.vec .i8 5) G (.slice g x.p.t.length f) x.p.t/\Ζ tP G (.slice i x.l.length h) x.l):=⟨ZpI⟩
instance uz {x:Zj}:Exp yD x (λG K o=>∃i h g f e d l k c a,(∀(j:Nat) (u:Value),([.int .i64 x.kind,.slice i x.p.length h,.int .i64 x.n,.int .i64 x.d,.int .i64 x.r,.slice g x.o.length f,.slice e x.l.length d,.slice l x.s.length k,.slice c x.b.length a]).toArray[j]?=some u->K (o+j) u)/\Ζ Zk G (.slice i x.p.length h) x.p/\Ζ (Rp.vec .i64 8) G (.slice g x.o.length f) x.o/\Ζ (Rp.sl Zk) G (.slice e x.l.length d) x.l/\Ζ (Rp.int .i64) G (.slice l x.s.length k) x.s/\Ζ (Rp.arr Z2 8) G (.slice c x.b.length a) x.b):=⟨Ql⟩
instance rp {x:Zo}:Exp ZL x (λG K o=>∃c a,(∀(j:Nat) (u:Value),([.int .i64 x.id,.slice c x.p.length a]).toArray[j]?=some u->K (o+j) u)/\Ζ Zk G (.slice c x.p.length a) x.p):=⟨ZmQ⟩
instance iu2:Udl prog 2 (.int .i64):=⟨underlying2⟩
instance iu3:Udl prog 3 (.int .i64):=⟨underlying3⟩
instance iu4:Udl prog 4 (.bool):=⟨underlying4⟩
instance iu5:Udl prog 5 (.int .u8):=⟨underlying5⟩
instance iu9:Udl prog 9 (.string):=⟨underlying9⟩
instance amK:Udl prog 22 (.slice 40):=⟨underlying22⟩
instance amL:Udl prog 24 (.slice 56):=⟨underlying24⟩
instance amM:Udl prog 31 (.slice 37):=⟨underlying31⟩
instance amN:Udl prog 32 (.slice 5):=⟨underlying32⟩
instance amO:Udl prog 35 (.slice 197):=⟨underlying35⟩
instance amP:Udl prog 38 (.slice 160):=⟨underlying38⟩
instance amQ:Udl prog 44 (.slice 3):=⟨underlying44⟩
instance amR:Udl prog 46 (.slice 50):=⟨underlying46⟩
instance amS:Udl prog 50 (.slice 147):=⟨underlying50⟩
instance amT:Udl prog 51 (.slice 71):=⟨underlying51⟩
instance amU:Udl prog 52 (.slice 71):=⟨underlying52⟩
instance amV:Udl prog 71 (.array 8 3):=⟨underlying71⟩
instance amW:Udl prog 82 (.slice 89):=⟨underlying82⟩
instance amX:Udl prog 87 (.slice 225):=⟨underlying87⟩
instance amY:Udl prog 90 (.slice 54):=⟨underlying90⟩
instance Xk:Udl prog 116 (.slice 248):=⟨underlying116⟩
instance Xl:Udl prog 126 (.slice 9):=⟨underlying126⟩
instance Xn:Udl prog 127 (.slice 194):=⟨underlying127⟩
instance Xo:Udl prog 143 (.array 8 4):=⟨underlying143⟩
instance Xp:Udl prog 145 (.array 8 3):=⟨underlying145⟩
instance Xq:Udl prog 169 (.int .u64):=⟨underlying169⟩
instance Xr:Udl prog 170 (.slice 46):=⟨underlying170⟩
instance Xs:Udl prog 196 (.int .i8):=⟨underlying196⟩
instance Xt:Udl prog 197 (.array 5 196):=⟨underlying197⟩
instance Xu:Udl prog 248 (.int .u32):=⟨underlying248⟩
instance Xv:Udl prog 250 (.int .u64):=⟨underlying250⟩
instance Xw:Udl prog 322 (.slice 118):=⟨underlying322⟩
instance Xx:Udl prog 324 (.slice 325):=⟨underlying324⟩
instance ix0 {k:IntKind}{x:Int}:Exp (Rp.int k) x (λ_ K o=>K o (.int k x)):=⟨AtK.int⟩
instance ix3 {α:Type}{r:Rp α}{x:Ŀ α}:Exp (Rp.sl r) x (λG K o=>∃p cap,K o (.slice p x.length cap)/\Ζ r G (.slice p x.length cap) x):=⟨AtK.sl⟩
instance ix5 {k:IntKind}{n:Nat}{x:Fin n->Int}:Exp (Rp.vec k n) x (λ_ K o=>∀j u,(EL.õ (Value.int k) n x).toArray[j]?=some u->K (o+j) u):=⟨AtK.vec⟩
theorem ZvA{G:Mem}{c:Bool}{d:(Ŀ Int)}{a:Value}(h2:Ζ (Rp.int .u32) G (a) d):rN.fe G ([.bool c,a]) ((Zg.mk c d)):=⟨[.bool c],[a],rfl,rfl,⟨_,rfl,h2⟩⟩
theorem ZvB{G:Mem}{d:Bool}{f:(Ŀ Int)}{a:Value}{e:Bool}{g:(Ŀ Int)}{c:Value}(h2:Ζ (Rp.int .u32) G (a) f)(h:Ζ (Rp.int .u32) G (c) g):tp.fe G ([.bool d,a,.bool e,c]) ((Zf.mk (Zg.mk d f) (Zg.mk e g))):=⟨[.bool d,a],[.bool e,c],rfl,⟨[.bool d],[a],rfl,rfl,⟨_,rfl,h2⟩⟩,⟨[.bool e],[c],rfl,rfl,⟨_,rfl,h⟩⟩⟩
theorem ZtO{G:Mem}{d:Bool}{g:(Ŀ Int)}{a:Value}{e:Bool}{h:(Ŀ Int)}{c:Value}{f:(Fin 8->Int)}(h2:Ζ (Rp.int .u32) G (a) g)(i:Ζ (Rp.int .u32) G (c) h):Zk.fe G (([.bool d,a,.bool e,c]:Ŀ Value)++(õ (Value.int .i64) 8 f)) ((Za.mk (Zf.mk (Zg.mk d g) (Zg.mk e h)) f)):=⟨[.bool d,a,.bool e,c],õ (Value.int .i64) 8 f,rfl,⟨[.bool d,a],[.bool e,c],rfl,⟨[.bool d],[a],rfl,rfl,⟨_,rfl,h2⟩⟩,⟨[.bool e],[c],rfl,rfl,⟨_,rfl,i⟩⟩⟩,rfl⟩
theorem ZtM{G:Mem}{d:Int}(e:(Ŀ (Ŀ Za))){a:Value}(f:(Ŀ (Ŀ Za))){c:Value}(h2:Ζ (Rp.sl Zk) G (a) e)(h3:Ζ (Rp.sl Zk) G (c) f):tM.fe G ([.int .i64 d,a,c]) ((Zb.mk d e f)):=⟨[.int .i64 d],[a,c],rfl,rfl,⟨[a],[c],rfl,⟨_,rfl,h2⟩,⟨_,rfl,h3⟩⟩⟩
theorem Zm8{G:Mem}{d:Int}{e:(Ŀ Za)}{a:Value}(f:(Ŀ (Fin 8->Int))){c:Value}(h2:Ζ Zk G (a) e)(h3:Ζ (Rp.vec .i64 8) G (c) f):wR.fe G ([.int .i64 d,a,c]) ((Zc.mk d e f)):=⟨[.int .i64 d],[a,c],rfl,rfl,⟨[a],[c],rfl,⟨_,rfl,h2⟩,⟨_,rfl,h3⟩⟩⟩
theorem ZtN{G:Mem}{l:Int}{k:Int}(m:(Ŀ (Ŀ Za))){g:Value}(n:(Ŀ (Ŀ Za))){h:Value}{i:Int}{p:(Ŀ Za)}{d:Value}(q:(Ŀ (Fin 8->Int))){e:Value}{j:Int}{f:Int}{a:Int}{c:Bool}(h3:Ζ (Rp.sl Zk) G (g) m)(r:Ζ (Rp.sl Zk) G (h) n)(s:Ζ Zk G (d) p)(h7:Ζ (Rp.vec .i64 8) G (e) q):ZF.fe G ([.int .i64 l,.int .i64 k,g,h,.int .i64 i,d,e,.int .i64 j,.int .i64 f,.int .i64 a,.bool c]) ((Ze.mk l (Zb.mk k m n) (Zc.mk i p q) j f a c)):=⟨[.int .i64 l],[.int .i64 k,g,h,.int .i64 i,d,e,.int .i64 j,.int .i64 f,.int .i64 a,.bool c],rfl,rfl,⟨[.int .i64 k,g,h],[.int .i64 i,d,e,.int .i64 j,.int .i64 f,.int .i64 a,.bool c],rfl,⟨[.int .i64 k],[g,h],rfl,rfl,⟨[g],[h],rfl,⟨_,rfl,h3⟩,⟨_,rfl,r⟩⟩⟩,⟨[.int .i64 i,d,e],[.int .i64 j,.int .i64 f,.int .i64 a,.bool c],rfl,⟨[.int .i64 i],[d,e],rfl,rfl,⟨[d],[e],rfl,⟨_,rfl,s⟩,⟨_,rfl,h7⟩⟩⟩,⟨[.int .i64 j],[.int .i64 f,.int .i64 a,.bool c],rfl,rfl,⟨[.int .i64 f],[.int .i64 a,.bool c],rfl,rfl,⟨[.int .i64 a],[.bool c],rfl,rfl,rfl⟩⟩⟩⟩⟩⟩
theorem Zr6{G:Mem}{d:(Ŀ Ze)}{a:Value}{c:Int}(e:Ζ ZF G (a) d):QK.fe G ([a,.int .i64 c]) ((Zd.mk d c)):=⟨[a],[.int .i64 c],rfl,⟨_,rfl,e⟩,rfl⟩
theorem Zr9{G:Mem}(c:(Ŀ (Fin 5->Int))){a:Value}(d:Ζ (Rp.vec .i8 5) G (a) c):ZP.fe G ([a]) ((Zu.mk c)):=⟨_,rfl,d⟩
theorem Zsb{G:Mem}{d:Int}{e:(Ŀ Zu)}{a:Value}{f:(Ŀ Int)}{c:Value}(h2:Ζ ZP G (a) e)(h3:Ζ (Rp.int .u8) G (c) f):Kc.fe G ([.int .u8 d,a,c]) ((ZA.mk d e f)):=⟨[.int .u8 d],[a,c],rfl,rfl,⟨[a],[c],rfl,⟨_,rfl,h2⟩,⟨_,rfl,h3⟩⟩⟩
theorem Zsa{G:Mem}{d:Int}{e:(Ŀ Zu)}{a:Value}{f:(Ŀ Int)}{c:Value}(h2:Ζ ZP G (a) e)(h3:Ζ (Rp.int .i8) G (c) f):tP.fe G ([.int .u8 d,a,c]) ((ZM.mk d e f)):=⟨[.int .u8 d],[a,c],rfl,rfl,⟨[a],[c],rfl,⟨_,rfl,h2⟩,⟨_,rfl,h3⟩⟩⟩
theorem ZpQ{G:Mem}{k:Int}{i:Int}{l:(Ŀ Zu)}{f:Value}{m:(Ŀ Int)}{g:Value}{j:Int}(n:(Ŀ (Fin 5->Int))){h:Value}{e:Int}{p:(Ŀ ZM)}{d:Value}{c:Int}{a:Int}(h3:Ζ ZP G (f) l)(q:Ζ (Rp.int .u8) G (g) m)(r:Ζ (Rp.vec .i8 5) G (h) n)(s:Ζ tP G (d) p):yz.fe G ([.int .u8 k,.int .u8 i,f,g,.int .u8 j,h,.int .u8 e,d,.int .i64 c,.int .i64 a]) ((Zt.mk k (ZA.mk i l m) j (Zu.mk n) e p c a)):=⟨[.int .u8 k],[.int .u8 i,f,g,.int .u8 j,h,.int .u8 e,d,.int .i64 c,.int .i64 a],rfl,rfl,⟨[.int .u8 i,f,g],[.int .u8 j,h,.int .u8 e,d,.int .i64 c,.int .i64 a],rfl,⟨[.int .u8 i],[f,g],rfl,rfl,⟨[f],[g],rfl,⟨_,rfl,h3⟩,⟨_,rfl,q⟩⟩⟩,⟨[.int .u8 j],[h,.int .u8 e,d,.int .i64 c,.int .i64 a],rfl,rfl,⟨[h],[.int .u8 e,d,.int .i64 c,.int .i64 a],rfl,⟨_,rfl,r⟩,⟨[.int .u8 e],[d,.int .i64 c,.int .i64 a],rfl,rfl,⟨[d],[.int .i64 c,.int .i64 a],rfl,⟨_,rfl,s⟩,⟨[.int .i64 c],[.int .i64 a],rfl,rfl,rfl⟩⟩⟩⟩⟩⟩⟩
theorem Zm7{G:Mem}{f:Bool}{j:(Ŀ Int)}{a:Value}{g:Bool}{k:(Ŀ Int)}{c:Value}{h:Bool}{l:(Ŀ Int)}{d:Value}{i:Bool}{m:(Ŀ Int)}{e:Value}(h2:Ζ (Rp.int .u32) G (a) j)(n:Ζ (Rp.int .u32) G (c) k)(p:Ζ (Rp.int .u32) G (d) l)(q:Ζ (Rp.int .u32) G (e) m):Z2.fe G ([.bool f,a,.bool g,c,.bool h,d,.bool i,e]) ((Zl.mk (Zf.mk (Zg.mk f j) (Zg.mk g k)) (Zf.mk (Zg.mk h l) (Zg.mk i m)))):=⟨[.bool f,a,.bool g,c],[.bool h,d,.bool i,e],rfl,⟨[.bool f,a],[.bool g,c],rfl,⟨[.bool f],[a],rfl,rfl,⟨_,rfl,h2⟩⟩,⟨[.bool g],[c],rfl,rfl,⟨_,rfl,n⟩⟩⟩,⟨[.bool h,d],[.bool i,e],rfl,⟨[.bool h],[d],rfl,rfl,⟨_,rfl,p⟩⟩,⟨[.bool i],[e],rfl,rfl,⟨_,rfl,q⟩⟩⟩⟩
theorem Zr7{G:Mem}{j:Int}{k:(Ŀ Za)}{i:Value}{h:Int}{g:Int}{f:Int}(l:(Ŀ (Fin 8->Int))){e:Value}(m:(Ŀ (Ŀ Za))){d:Value}{n:(Ŀ Int)}{a:Value}(p:(Ŀ (Ŀ Zl))){c:Value}(h2:Ζ Zk G (i) k)(q:Ζ (Rp.vec .i64 8) G (e) l)(h7:Ζ (Rp.sl Zk) G (d) m)(r:Ζ (Rp.int .i64) G (a) n)(s:Ζ (Rp.arr Z2 8) G (c) p):yD.fe G ([.int .i64 j,i,.int .i64 h,.int .i64 g,.int .i64 f,e,d,a,c]) ((Zj.mk j k h g f l m n p)):=⟨[.int .i64 j],[i,.int .i64 h,.int .i64 g,.int .i64 f,e,d,a,c],rfl,rfl,⟨[i],[.int .i64 h,.int .i64 g,.int .i64 f,e,d,a,c],rfl,⟨_,rfl,h2⟩,⟨[.int .i64 h],[.int .i64 g,.int .i64 f,e,d,a,c],rfl,rfl,⟨[.int .i64 g],[.int .i64 f,e,d,a,c],rfl,rfl,⟨[.int .i64 f],[e,d,a,c],rfl,rfl,⟨[e],[d,a,c],rfl,⟨_,rfl,q⟩,⟨[d],[a,c],rfl,⟨_,rfl,h7⟩,⟨[a],[c],rfl,⟨_,rfl,r⟩,⟨_,rfl,s⟩⟩⟩⟩⟩⟩⟩⟩⟩
theorem Zka{G:Mem}{g:Int}(i:(Ŀ (Ŀ Za))){d:Value}(j:(Ŀ (Ŀ Za))){e:Value}{f:Int}{k:(Ŀ Za)}{a:Value}(l:(Ŀ (Fin 8->Int))){c:Value}{h:Int}(h2:Ζ (Rp.sl Zk) G (d) i)(h3:Ζ (Rp.sl Zk) G (e) j)(m:Ζ Zk G (a) k)(n:Ζ (Rp.vec .i64 8) G (c) l):Zkr.fe G ([.int .i64 g,d,e,.int .i64 f,a,c,.int .i64 h]) ((ZE.mk (Zb.mk g i j) (Zc.mk f k l) h)):=⟨[.int .i64 g,d,e],[.int .i64 f,a,c,.int .i64 h],rfl,⟨[.int .i64 g],[d,e],rfl,rfl,⟨[d],[e],rfl,⟨_,rfl,h2⟩,⟨_,rfl,h3⟩⟩⟩,⟨[.int .i64 f,a,c],[.int .i64 h],rfl,⟨[.int .i64 f],[a,c],rfl,rfl,⟨[a],[c],rfl,⟨_,rfl,m⟩,⟨_,rfl,n⟩⟩⟩,rfl⟩⟩
theorem Zoi{G:Mem}{f:(Ŀ Ze)}{a:Value}{c:Int}{d:Int}{e:Int}(g:Ζ ZF G (a) f):Zoo.fe G ([a,.int .i64 c,.int .i64 d,.int .i64 e]) ((Zv.mk (Zd.mk f c) d e)):=⟨[a,.int .i64 c],[.int .i64 d,.int .i64 e],rfl,⟨[a],[.int .i64 c],rfl,⟨_,rfl,g⟩,rfl⟩,⟨[.int .i64 d],[.int .i64 e],rfl,rfl,rfl⟩⟩
theorem Zm6{G:Mem}{c:Int}{d:(Ŀ Za)}{a:Value}(h2:Ζ Zk G (a) d):ZL.fe G ([.int .i64 c,a]) ((Zo.mk c d)):=⟨[.int .i64 c],[a],rfl,rfl,⟨_,rfl,h2⟩⟩
theorem ZpP{G:Mem}{f:(Ŀ Ĳ)}{e:Value}{g:(Ŀ Zo)}{d:Value}{h:(Ŀ Zo)}{a:Value}{c:Int}(i:Ζ Rp.str G (e) f)(h2:Ζ ZL G (d) g)(h3:Ζ ZL G (a) h):Zp1.fe G ([e,d,a,.int .i64 c]) ((Zx.mk f g h c)):=⟨[e],[d,a,.int .i64 c],rfl,⟨_,rfl,i⟩,⟨[d],[a,.int .i64 c],rfl,⟨_,rfl,h2⟩,⟨[a],[.int .i64 c],rfl,⟨_,rfl,h3⟩,rfl⟩⟩⟩
theorem Zoh{G:Mem}{d:Int}(e:(Ŀ (Ŀ Za))){a:Value}(f:(Ŀ (Ŀ Za))){c:Value}(h2:Ζ (Rp.sl Zk) G (a) e)(h3:Ζ (Rp.sl Zk) G (c) f):Py.fe G ([.int .i64 d,a,c]) ((ZD.mk (Zb.mk d e f))):=⟨[.int .i64 d],[a,c],rfl,rfl,⟨[a],[c],rfl,⟨_,rfl,h2⟩,⟨_,rfl,h3⟩⟩⟩
theorem Zm9{G:Mem}{p:Int}(u:(Ŀ (Ŀ Za))){i:Value}(v:(Ŀ (Ŀ Za))){j:Value}{q:Int}{x:(Ŀ Za)}{k:Value}{h:Int}{g:Int}{f:Int}(y:(Ŀ (Fin 8->Int))){e:Value}(l:(Ŀ (Ŀ Za))){d:Value}{m:(Ŀ Int)}{a:Value}(n:(Ŀ (Ŀ Zl))){c:Value}(h2:Ζ (Rp.sl Zk) G (i) u)(h3:Ζ (Rp.sl Zk) G (j) v)(A:Ζ Zk G (k) x)(B:Ζ (Rp.vec .i64 8) G (e) y)(r:Ζ (Rp.sl Zk) G (d) l)(s:Ζ (Rp.int .i64) G (a) m)(t:Ζ (Rp.arr Z2 8) G (c) n):Znp.fe G ([.int .i64 p,i,j,.int .i64 q,k,.int .i64 h,.int .i64 g,.int .i64 f,e,d,a,c]) ((vd.mk (ZD.mk (Zb.mk p u v)) (Zj.mk q x h g f y l m n))):=⟨[.int .i64 p,i,j],[.int .i64 q,k,.int .i64 h,.int .i64 g,.int .i64 f,e,d,a,c],rfl,⟨[.int .i64 p],[i,j],rfl,rfl,⟨[i],[j],rfl,⟨_,rfl,h2⟩,⟨_,rfl,h3⟩⟩⟩,⟨[.int .i64 q],[k,.int .i64 h,.int .i64 g,.int .i64 f,e,d,a,c],rfl,rfl,⟨[k],[.int .i64 h,.int .i64 g,.int .i64 f,e,d,a,c],rfl,⟨_,rfl,A⟩,⟨[.int .i64 h],[.int .i64 g,.int .i64 f,e,d,a,c],rfl,rfl,⟨[.int .i64 g],[.int .i64 f,e,d,a,c],rfl,rfl,⟨[.int .i64 f],[e,d,a,c],rfl,rfl,⟨[e],[d,a,c],rfl,⟨_,rfl,B⟩,⟨[d],[a,c],rfl,⟨_,rfl,r⟩,⟨[a],[c],rfl,⟨_,rfl,s⟩,⟨_,rfl,t⟩⟩⟩⟩⟩⟩⟩⟩⟩⟩
theorem Zr8{G:Mem}{d:Int}{a:Int}{c:Int}:Zsy.fe G ([.int .i8 d,.int .i8 a,.int .u8 c]) ((va.mk d a c)):=⟨[.int .i8 d],[.int .i8 a,.int .u8 c],rfl,rfl,⟨[.int .i8 a],[.int .u8 c],rfl,rfl,rfl⟩⟩
theorem N0{α:Type}{r:Rp α}{G:Mem}{cs:Ŀ Value}{x:α}(h:r.fe G cs x:=by first|(apply ZvA<;>exact gK)|(apply ZvB<;>exact gK)|(apply ZtO<;>exact gK)|(apply ZtM<;>exact gK)|(apply Zm8<;>exact gK)|(apply ZtN<;>exact gK)|(apply Zr6<;>exact gK)|(apply Zr9<;>exact gK)|(apply Zsb<;>exact gK)|(apply Zsa<;>exact gK)|(apply ZpQ<;>exact gK)|(apply Zm7<;>exact gK)|(apply Zr7<;>exact gK)|(apply Zka<;>exact gK)|(apply Zoi<;>exact gK)|(apply Zm6<;>exact gK)|(apply ZpP<;>exact gK)|(apply Zoh<;>exact gK)|(apply Zm9<;>exact gK)|(apply Zr8<;>exact gK)):r.fe G cs x:=h
instance amx:ElC prog 5 (.int .u8 0) 1 1:=⟨GD⟩
instance WI:ElC prog 50 (.slice none 0 0) 1 24:=⟨js⟩
instance WJ:ElC prog 56 (.agg ([.int .i64 0,.int .i64 0,.slice none 0 0,.slice none 0 0,.int .i64 0,.slice none 0 0,.slice none 0 0,.int .i64 0,.int .i64 0,.int .i64 0,.bool false]).toArray) 11 152:=⟨qK⟩
instance WK:ElC prog 71 (.agg (õ (Value.int .i64) 8 (λ_=>0)).toArray) 8 64:=⟨nW⟩
instance Np:ElC prog 248 (.int .u32 0) 1 4:=⟨vO⟩
instance Hw:Off prog 26 1 1:=⟨trivial⟩
instance Hx:Off prog 54 0 0:=⟨trivial⟩
instance Hy:Off prog 54 1 1:=⟨trivial⟩
instance Hz:Off prog 94 0 0:=⟨trivial⟩
instance HA:Off prog 94 1 3:=⟨trivial⟩
instance HB:Off prog 94 2 6:=⟨trivial⟩
instance Cv:Off prog 100 0 0:=⟨trivial⟩
instance Cw:Off prog 100 1 2:=⟨trivial⟩
instance Cx:Off prog 100 2 3:=⟨trivial⟩
instance Cy:Off prog 129 0 0:=⟨trivial⟩
instance Cz:Off prog 129 3 3:=⟨trivial⟩
instance CA:Off prog 147 0 0:=⟨trivial⟩
instance amA:RpT prog 3 _ (Rp.int .i64):=⟨trivial⟩
instance amB:RpT prog 5 _ (Rp.int .u8):=⟨trivial⟩
instance amC:RpT prog 9 _ Rp.str:=⟨trivial⟩
instance WN:RpT prog 50 _ (Rp.sl Zk):=⟨trivial⟩
instance WO:RpT prog 54 _ wR:=⟨trivial⟩
instance WQ:RpT prog 56 _ ZF:=⟨trivial⟩
instance WR:RpT prog 71 _ (Rp.vec .i64 8):=⟨trivial⟩
instance WS:RpT prog 89 _ yD:=⟨trivial⟩
instance Nq:RpT prog 147 _ Zk:=⟨trivial⟩
instance Nr:RpT prog 194 _ ZL:=⟨trivial⟩
instance Ns:RpT prog 248 _ (Rp.int .u32):=⟨trivial⟩
instance amy:Mix prog:=⟨eL⟩
end Go.Proofs.YtepbagkffgddlaaGreat

namespace Go.Proofs
open Go.IntKind (i8 i16 i32 i64 u8 u16 u32 u64)
open Go.Shelf
def Tryz.Zxx:Go.Shelf.Ren:=⟨fun|14=>212|20=>270|21=>271|22=>272|23=>273|24=>274|25=>275|26=>276|27=>277|46=>314|47=>246|48=>247|49=>315|50=>316|15=>97|57=>332|28=>179|29=>180|n=>n,fun|24=>147|22=>49|3=>3|25=>206|4=>4|0=>0|46=>242|45=>241|50=>142|66=>295|39=>169|55=>250|70=>299|76=>329|77=>229|53=>248|5=>5|9=>9|n=>n,fun|n=>n⟩
theorem Tryz.Da:Go.Proofs.SlLaysF0.n14 Tryz.prog Tryz.Zxx:={
 mixed:=İ
 f14:=⟨Tryz.f212.name,ĳ,Tryz.func212.trans (đ some İ)⟩
 f15:=Tryz.func97.trans (đ some İ)
 f20:=⟨Tryz.f270.name,ĳ,Tryz.func270.trans (đ some İ)⟩
 f21:=⟨Tryz.f271.name,ĳ,Tryz.func271.trans (đ some İ)⟩
 f22:=⟨Tryz.f272.name,ĳ,Tryz.func272.trans (đ some İ)⟩
 f23:=⟨Tryz.f273.name,ĳ,Tryz.func273.trans (đ some İ)⟩
 f24:=⟨Tryz.f274.name,ĳ,Tryz.func274.trans (đ some İ)⟩
 f25:=⟨Tryz.f275.name,ĳ,Tryz.func275.trans (đ some İ)⟩
 f26:=⟨Tryz.f276.name,ĳ,Tryz.func276.trans (đ some İ)⟩
 f27:=⟨Tryz.f277.name,ĳ,Tryz.func277.trans (đ some İ)⟩
 f28:=Tryz.func179.trans (đ some İ)
 f29:=Tryz.func180.trans (đ some İ)
 f46:=⟨Tryz.f314.name,ĳ,Tryz.func314.trans (đ some İ)⟩
 f47:=Tryz.func246.trans (đ some İ)
 f48:=Tryz.func247.trans (đ some İ)
 f49:=⟨Tryz.f315.name,ĳ,Tryz.func315.trans (đ some İ)⟩
 f50:=⟨Tryz.f316.name,ĳ,Tryz.func316.trans (đ some İ)⟩
 f57:=⟨Tryz.f332.name,ĳ,Tryz.func332.trans (đ some İ)⟩
 t0:=Tryz.underlying0
 a0:=Tryz.isAgg0
 z0:=Tryz.sizeOf0
 v0:=Tryz.zeroValue0
 t3:=Tryz.underlying3
 a3:=Tryz.isAgg3
 z3:=Tryz.sizeOf3
 v3:=Tryz.zeroValue3
 t4:=Tryz.underlying4
 a4:=Tryz.isAgg4
 z4:=Tryz.sizeOf4
 v4:=Tryz.zeroValue4
 t5:=Tryz.underlying5
 a5:=Tryz.isAgg5
 z5:=Tryz.sizeOf5
 v5:=Tryz.zeroValue5
 t9:=Tryz.underlying9
 a9:=Tryz.isAgg9
 z9:=Tryz.sizeOf9
 v9:=Tryz.zeroValue9
 t22:=Tryz.underlying49
 a22:=Tryz.isAgg49
 z22:=Tryz.sizeOf49
 v22:=Tryz.zeroValue49
 t25:=Tryz.underlying206
 a25:=Tryz.isAgg206
 z25:=Tryz.sizeOf206
 v25:=Tryz.zeroValue206
 t39:=Tryz.underlying169
 a39:=Tryz.isAgg169
 z39:=Tryz.sizeOf169
 v39:=Tryz.zeroValue169
 t45:=Tryz.underlying241
 a45:=Tryz.isAgg241
 z45:=Tryz.sizeOf241
 v45:=Tryz.zeroValue241
 t46:=Tryz.underlying242
 a46:=Tryz.isAgg242
 z46:=Tryz.sizeOf242
 v46:=Tryz.zeroValue242
 t50:=Tryz.underlying142
 a50:=Tryz.isAgg142
 z50:=Tryz.sizeOf142
 v50:=Tryz.zeroValue142
 t53:=Tryz.underlying248
 a53:=Tryz.isAgg248
 z53:=Tryz.sizeOf248
 v53:=Tryz.zeroValue248
 t55:=Tryz.underlying250
 a55:=Tryz.isAgg250
 z55:=Tryz.sizeOf250
 v55:=Tryz.zeroValue250
 t66:=Tryz.underlying295
 a66:=Tryz.isAgg295
 z66:=Tryz.sizeOf295
 v66:=Tryz.zeroValue295
 t70:=Tryz.underlying299
 a70:=Tryz.isAgg299
 z70:=Tryz.sizeOf299
 v70:=Tryz.zeroValue299
 t76:=Tryz.underlying329
 a76:=Tryz.isAgg329
 z76:=Tryz.sizeOf329
 v76:=Tryz.zeroValue329
 t77:=Tryz.underlying229
 a77:=Tryz.isAgg229
 z77:=Tryz.sizeOf229
 v77:=Tryz.zeroValue229 }
def Tryz.Zxy:Go.Shelf.Ren:=⟨fun|14=>259|20=>296|21=>297|22=>298|23=>299|24=>300|25=>301|26=>302|27=>303|46=>325|47=>246|48=>247|49=>326|50=>327|15=>97|57=>339|28=>179|29=>180|n=>n,fun|24=>50|22=>46|3=>3|25=>189|4=>4|0=>0|46=>242|45=>241|50=>142|66=>295|39=>169|55=>250|70=>299|76=>329|77=>229|53=>248|5=>5|9=>9|n=>n,fun|n=>n⟩
theorem Tryz.Db:Go.Proofs.SlLaysF.n14 Tryz.prog Tryz.Zxy:={
 mixed:=İ
 f14:=⟨Tryz.f259.name,ĳ,Tryz.func259.trans (đ some İ)⟩
 f15:=Tryz.func97.trans (đ some İ)
 f20:=⟨Tryz.f296.name,ĳ,Tryz.func296.trans (đ some İ)⟩
 f21:=⟨Tryz.f297.name,ĳ,Tryz.func297.trans (đ some İ)⟩
 f22:=⟨Tryz.f298.name,ĳ,Tryz.func298.trans (đ some İ)⟩
 f23:=⟨Tryz.f299.name,ĳ,Tryz.func299.trans (đ some İ)⟩
 f24:=⟨Tryz.f300.name,ĳ,Tryz.func300.trans (đ some İ)⟩
 f25:=⟨Tryz.f301.name,ĳ,Tryz.func301.trans (đ some İ)⟩
 f26:=⟨Tryz.f302.name,ĳ,Tryz.func302.trans (đ some İ)⟩
 f27:=⟨Tryz.f303.name,ĳ,Tryz.func303.trans (đ some İ)⟩
 f28:=Tryz.func179.trans (đ some İ)
 f29:=Tryz.func180.trans (đ some İ)
 f46:=⟨Tryz.f325.name,ĳ,Tryz.func325.trans (đ some İ)⟩
 f47:=Tryz.func246.trans (đ some İ)
 f48:=Tryz.func247.trans (đ some İ)
 f49:=⟨Tryz.f326.name,ĳ,Tryz.func326.trans (đ some İ)⟩
 f50:=⟨Tryz.f327.name,ĳ,Tryz.func327.trans (đ some İ)⟩
 f57:=⟨Tryz.f339.name,ĳ,Tryz.func339.trans (đ some İ)⟩
 t0:=Tryz.underlying0
 a0:=Tryz.isAgg0
 z0:=Tryz.sizeOf0
 v0:=Tryz.zeroValue0
 t3:=Tryz.underlying3
 a3:=Tryz.isAgg3
 z3:=Tryz.sizeOf3
 v3:=Tryz.zeroValue3
 t4:=Tryz.underlying4
 a4:=Tryz.isAgg4
 z4:=Tryz.sizeOf4
 v4:=Tryz.zeroValue4
 t5:=Tryz.underlying5
 a5:=Tryz.isAgg5
 z5:=Tryz.sizeOf5
 v5:=Tryz.zeroValue5
 t9:=Tryz.underlying9
 a9:=Tryz.isAgg9
 z9:=Tryz.sizeOf9
 v9:=Tryz.zeroValue9
 t22:=Tryz.underlying46
 a22:=Tryz.isAgg46
 z22:=Tryz.sizeOf46
 v22:=Tryz.zeroValue46
 a24:=Tryz.isAgg50
 z24:=Tryz.sizeOf50
 t25:=Tryz.underlying189
 a25:=Tryz.isAgg189
 z25:=Tryz.sizeOf189
 v25:=Tryz.zeroValue189
 t39:=Tryz.underlying169
 a39:=Tryz.isAgg169
 z39:=Tryz.sizeOf169
 v39:=Tryz.zeroValue169
 t45:=Tryz.underlying241
 a45:=Tryz.isAgg241
 z45:=Tryz.sizeOf241
 v45:=Tryz.zeroValue241
 t46:=Tryz.underlying242
 a46:=Tryz.isAgg242
 z46:=Tryz.sizeOf242
 v46:=Tryz.zeroValue242
 t50:=Tryz.underlying142
 a50:=Tryz.isAgg142
 z50:=Tryz.sizeOf142
 v50:=Tryz.zeroValue142
 t53:=Tryz.underlying248
 a53:=Tryz.isAgg248
 z53:=Tryz.sizeOf248
 v53:=Tryz.zeroValue248
 t55:=Tryz.underlying250
 a55:=Tryz.isAgg250
 z55:=Tryz.sizeOf250
 v55:=Tryz.zeroValue250
 t66:=Tryz.underlying295
 a66:=Tryz.isAgg295
 z66:=Tryz.sizeOf295
 v66:=Tryz.zeroValue295
 t70:=Tryz.underlying299
 a70:=Tryz.isAgg299
 z70:=Tryz.sizeOf299
 v70:=Tryz.zeroValue299
 t76:=Tryz.underlying329
 a76:=Tryz.isAgg329
 z76:=Tryz.sizeOf329
 v76:=Tryz.zeroValue329
 t77:=Tryz.underlying229
 a77:=Tryz.isAgg229
 z77:=Tryz.sizeOf229
 v77:=Tryz.zeroValue229 }
def Tryz.Zxz:Go.Shelf.Ren:=⟨fun|14=>96|20=>171|21=>172|22=>173|23=>174|24=>175|25=>176|26=>177|27=>178|46=>245|47=>246|48=>247|49=>248|50=>249|15=>97|57=>295|28=>179|29=>180|n=>n,fun|24=>56|22=>24|3=>3|25=>110|4=>4|0=>0|46=>242|45=>241|50=>142|66=>295|39=>169|55=>250|70=>299|76=>329|77=>229|53=>248|5=>5|9=>9|n=>n,fun|n=>n⟩
theorem Tryz.Dc:Go.Proofs.SlLaysF0.n14 Tryz.prog Tryz.Zxz:={
 mixed:=İ
 f14:=⟨Tryz.f96.name,ĳ,Tryz.func96.trans (đ some İ)⟩
 f15:=Tryz.func97.trans (đ some İ)
 f20:=⟨Tryz.f171.name,ĳ,Tryz.func171.trans (đ some İ)⟩
 f21:=⟨Tryz.f172.name,ĳ,Tryz.func172.trans (đ some İ)⟩
 f22:=⟨Tryz.f173.name,ĳ,Tryz.func173.trans (đ some İ)⟩
 f23:=⟨Tryz.f174.name,ĳ,Tryz.func174.trans (đ some İ)⟩
 f24:=⟨Tryz.f175.name,ĳ,Tryz.func175.trans (đ some İ)⟩
 f25:=⟨Tryz.f176.name,ĳ,Tryz.func176.trans (đ some İ)⟩
 f26:=⟨Tryz.f177.name,ĳ,Tryz.func177.trans (đ some İ)⟩
 f27:=⟨Tryz.f178.name,ĳ,Tryz.func178.trans (đ some İ)⟩
 f28:=Tryz.func179.trans (đ some İ)
 f29:=Tryz.func180.trans (đ some İ)
 f46:=⟨Tryz.f245.name,ĳ,Tryz.func245.trans (đ some İ)⟩
 f47:=Tryz.func246.trans (đ some İ)
 f48:=Tryz.func247.trans (đ some İ)
 f49:=⟨Tryz.f248.name,ĳ,Tryz.func248.trans (đ some İ)⟩
 f50:=⟨Tryz.f249.name,ĳ,Tryz.func249.trans (đ some İ)⟩
 f57:=⟨Tryz.f295.name,ĳ,Tryz.func295.trans (đ some İ)⟩
 t0:=Tryz.underlying0
 a0:=Tryz.isAgg0
 z0:=Tryz.sizeOf0
 v0:=Tryz.zeroValue0
 t3:=Tryz.underlying3
 a3:=Tryz.isAgg3
 z3:=Tryz.sizeOf3
 v3:=Tryz.zeroValue3
 t4:=Tryz.underlying4
 a4:=Tryz.isAgg4
 z4:=Tryz.sizeOf4
 v4:=Tryz.zeroValue4
 t5:=Tryz.underlying5
 a5:=Tryz.isAgg5
 z5:=Tryz.sizeOf5
 v5:=Tryz.zeroValue5
 t9:=Tryz.underlying9
 a9:=Tryz.isAgg9
 z9:=Tryz.sizeOf9
 v9:=Tryz.zeroValue9
 t22:=Tryz.underlying24
 a22:=Tryz.isAgg24
 z22:=Tryz.sizeOf24
 v22:=Tryz.zeroValue24
 t25:=Tryz.underlying110
 a25:=Tryz.isAgg110
 z25:=Tryz.sizeOf110
 v25:=Tryz.zeroValue110
 t39:=Tryz.underlying169
 a39:=Tryz.isAgg169
 z39:=Tryz.sizeOf169
 v39:=Tryz.zeroValue169
 t45:=Tryz.underlying241
 a45:=Tryz.isAgg241
 z45:=Tryz.sizeOf241
 v45:=Tryz.zeroValue241
 t46:=Tryz.underlying242
 a46:=Tryz.isAgg242
 z46:=Tryz.sizeOf242
 v46:=Tryz.zeroValue242
 t50:=Tryz.underlying142
 a50:=Tryz.isAgg142
 z50:=Tryz.sizeOf142
 v50:=Tryz.zeroValue142
 t53:=Tryz.underlying248
 a53:=Tryz.isAgg248
 z53:=Tryz.sizeOf248
 v53:=Tryz.zeroValue248
 t55:=Tryz.underlying250
 a55:=Tryz.isAgg250
 z55:=Tryz.sizeOf250
 v55:=Tryz.zeroValue250
 t66:=Tryz.underlying295
 a66:=Tryz.isAgg295
 z66:=Tryz.sizeOf295
 v66:=Tryz.zeroValue295
 t70:=Tryz.underlying299
 a70:=Tryz.isAgg299
 z70:=Tryz.sizeOf299
 v70:=Tryz.zeroValue299
 t76:=Tryz.underlying329
 a76:=Tryz.isAgg329
 z76:=Tryz.sizeOf329
 v76:=Tryz.zeroValue329
 t77:=Tryz.underlying229
 a77:=Tryz.isAgg229
 z77:=Tryz.sizeOf229
 v77:=Tryz.zeroValue229 }
end Go.Proofs

namespace Go.EL
open Go.IntKind (i8 i16 i32 i64 u8 u16 u32 u64)
open Go Go.RowKit
theorem TL(a b:Int):(DV a b).Α (if a<b then -1 else if b<a then 1 else 0):=by
 refine⟨false,?_,false,?_,?_⟩
 .exact (ĉ (λh=>h rfl):decide (¬a=a)=false)
 .exact (ĉ (λh=>h rfl):decide (¬b=b)=false)
 rw[Cq.Zm,ā ĳ,Cq.Zm,ā ĳ,Cq.Zm];by_cases h:a<b
 .rw[ą h,ą h];rfl
 rw[ā h,ā h,Cq.Zm];by_cases h2:b<a
 .rw[ą h2,ą h2];rfl
 rw[ā h2,ā h2];rfl
theorem Zwj(x y:Int):(Ki [x,y]).Α (if x=0 then y else x):=by
 by_cases a:x=0
 .subst a;rw[ą rfl];refine Cq.Zr ⟨0,⟨ĳ,rfl⟩,Cq.wp.no (λh=>h rfl) (Cq.Zr ⟨y,⟨ĳ,rfl⟩,?_⟩)⟩;by_cases c:y=0
  .subst c;exact Cq.wp.no (λh=>h rfl) (Cq.Zr rfl)
  exact Cq.wp.yes c rfl
 rw[ā a];exact Cq.Zr ⟨x,⟨ĳ,rfl⟩,Cq.wp.yes a rfl⟩
theorem Zx5(s t:Ze):(JV s t).Α (lk s t):=by
 refine⟨_,TL _ _,_,TL _ _,_,Zwj _ _,?_⟩;show(if _=(0:Int)then _ else _)=lk s t;unfold lk;by_cases a:s.χ<t.χ
 .rw[ą a,ą a];rfl
 rw[ā a,ā a];by_cases h2:t.χ<s.χ
 .rw[ą h2,ą h2];rfl
 rw[ā h2,ā h2];rfl
end Go.EL

namespace Go.Proofs.YtepbagkffgddlaaGreat
open Go.IntKind (i8 i16 i32 i64 u8 u16 u32 u64)
open Go.Proofs.Tryz
open Go Go.EL Go.RowKit Go.Proofs
abbrev i'(x:Int):Value:=.int .i64 x
abbrev sl{α:Type}(r:Rp α)(G:Mem)(p:ŀ Addr)(c:Nat)(xs:Ŀ α):Prop:=Ζ r G (.slice p xs.length c) xs
abbrev η(x:Zg)(c:ŀ Addr)(a:Nat):Ŀ Value:=[.bool x.neg,.slice c x.υ.length a]
abbrev Î(x:Zg):Mem->Value->Prop:=λG v=>∃a c,v=.agg ((η x a c)).toArray/\sl (Rp.int .u32) G a c x.υ
abbrev Υ(x:Zf)(e:ŀ Addr)(d:Nat)(c:ŀ Addr)(a:Nat):Ŀ Value:=[.bool x.num.neg,.slice e x.num.υ.length d,.bool x.den.neg,.slice c x.den.υ.length a]
abbrev ep(x:Zf):Mem->Value->Prop:=λG v=>∃a c d e,v=.agg ((Υ x a c d e)).toArray/\sl (Rp.int .u32) G a c x.num.υ/\sl (Rp.int .u32) G d e x.den.υ
abbrev iy(x:Zf×Int):Mem->Value->Prop:=λG v=>∃a c d e,v=.tuple #[.agg ((Υ x.1 a c d e)).toArray,i' x.2]/\sl (Rp.int .u32) G a c x.1.num.υ/\sl (Rp.int .u32) G d e x.1.den.υ
abbrev Ä(x:Zb)(e:ŀ Addr)(d:Nat)(c:ŀ Addr)(a:Nat):Ŀ Value:=[.int .i64 x.n,.slice e x.eqs.length d,.slice c x.ε.length a]
abbrev uW(x:Zb):Mem->Value->Prop:=λG v=>∃a c d e,v=.agg ((Ä x a c d e)).toArray/\sl (Rp.sl Zk) G a c x.eqs/\sl (Rp.sl Zk) G d e x.ε
abbrev lY(x:Zb×Int):Mem->Value->Prop:=λG v=>∃a c d e,v=.tuple #[.agg ((Ä x.1 a c d e)).toArray,i' x.2]/\sl (Rp.sl Zk) G a c x.1.eqs/\sl (Rp.sl Zk) G d e x.1.ε
abbrev fq(x:Ze)(e:ŀ Addr)(d:Nat)(c:ŀ Addr)(a:Nat)(i:ŀ Addr)(h:Nat)(g:ŀ Addr)(f:Nat):Ŀ Value:=[.int .i64 x.id,.int .i64 x.k.n,.slice e x.k.eqs.length d,.slice c x.k.ε.length a,.int .i64 x.q.kind,.slice i x.q.p.length h,.slice g x.q.o.length f,.int .i64 x.χ,.int .i64 x.low,.int .i64 x.high,.bool x.done]
abbrev DG(x:Ze):Mem->Value->Prop:=λG v=>∃a c d e q4 q5 f g,v=.agg ((fq x a c d e q4 q5 f g)).toArray/\sl (Rp.sl Zk) G a c x.k.eqs/\sl (Rp.sl Zk) G d e x.k.ε/\sl Zk G q4 q5 x.q.p/\sl (Rp.vec .i64 8) G f g x.q.o
abbrev fB(x:Zd)(c:ŀ Addr)(a:Nat):Ŀ Value:=[.slice c x.t.length a,.int .i64 x.next]
abbrev kj(x:Zd):Mem->Value->Prop:=λG v=>∃a c,v=.agg ((fB x a c)).toArray/\sl ZF G a c x.t
abbrev jh(x:Zd×Int):Mem->Value->Prop:=λG v=>∃a c,v=.tuple #[.agg ((fB x.1 a c)).toArray,i' x.2]/\sl ZF G a c x.1.t
abbrev û(x:Zd×Int×Int):Mem->Value->Prop:=λG v=>∃a c,v=.tuple #[.agg ((fB x.1 a c)).toArray,i' x.2.1,i' x.2.2]/\sl ZF G a c x.1.t
abbrev Ou(x:ZA)(d:ŀ Addr)(lc:Nat)(c:ŀ Addr)(a:Nat):Ŀ Value:=[.int .u8 x.n,.slice d x.l.length lc,.slice c x.iR.length a]
abbrev DA(x:ZM)(a:ŀ Addr)(lc:Nat)(d:ŀ Addr)(c:Nat):Ŀ Value:=[.int .u8 x.kind,.slice a x.l.length lc,.slice d x.v.length c]
abbrev tm(x:Zt)(e:ŀ Addr)(d:Nat)(c:ŀ Addr)(a:Nat)(g:ŀ Addr)(f:Nat)(h:ŀ Addr)(lc:Nat):Ŀ Value:=[.int .u8 x.fX,.int .u8 x.c.n,.slice e x.c.l.length d,.slice c x.c.iR.length a,.int .u8 x.kind,.slice g x.p.t.length f,.int .u8 x.o,.slice h x.l.length lc,.int .i64 x.id,.int .i64 x.Μ]
abbrev wy(x:Zl)(i:ŀ Addr)(h:Nat)(g:ŀ Addr)(f:Nat)(e:ŀ Addr)(d:Nat)(c:ŀ Addr)(a:Nat):Ŀ Value:=[.bool x.lo.num.neg,.slice i x.lo.num.υ.length h,.bool x.lo.den.neg,.slice g x.lo.den.υ.length f,.bool x.hi.num.neg,.slice e x.hi.num.υ.length d,.bool x.hi.den.neg,.slice c x.hi.den.υ.length a]
abbrev jR(x:Zj)(g:ŀ Addr)(f:Nat)(op:ŀ Addr)(e:Nat)(d:ŀ Addr)(lc:Nat)(i:ŀ Addr)(h:Nat)(c:ŀ Addr)(a:Nat):Ŀ Value:=[.int .i64 x.kind,.slice g x.p.length f,.int .i64 x.n,.int .i64 x.d,.int .i64 x.r,.slice op x.o.length e,.slice d x.l.length lc,.slice i x.s.length h,.slice c x.b.length a]
abbrev Oz(x:Zj):Mem->Value->Prop:=λG v=>∃a c d e q4 q5 f g h i,v=.agg ((jR x a c d e q4 q5 f g h i)).toArray/\sl Zk G a c x.p/\sl (Rp.vec .i64 8) G d e x.o/\sl (Rp.sl Zk) G q4 q5 x.l/\sl (Rp.int .i64) G f g x.s/\sl (Rp.arr Z2 8) G h i x.b
abbrev Ov(x:ZE)(e:ŀ Addr)(d:Nat)(c:ŀ Addr)(a:Nat)(i:ŀ Addr)(h:Nat)(g:ŀ Addr)(f:Nat):Ŀ Value:=[.int .i64 x.k.n,.slice e x.k.eqs.length d,.slice c x.k.ε.length a,.int .i64 x.q.kind,.slice i x.q.p.length h,.slice g x.q.o.length f,.int .i64 x.e]
abbrev OA(x:ZE):Mem->Value->Prop:=λG v=>∃a c d e q4 q5 f g,v=.agg ((Ov x a c d e q4 q5 f g)).toArray/\sl (Rp.sl Zk) G a c x.k.eqs/\sl (Rp.sl Zk) G d e x.k.ε/\sl Zk G q4 q5 x.q.p/\sl (Rp.vec .i64 8) G f g x.q.o
abbrev oe(x:Zv)(c:ŀ Addr)(a:Nat):Ŀ Value:=[.slice c x.b.t.length a,.int .i64 x.b.next,.int .i64 x.id,.int .i64 x.e]
abbrev qv(x:Zv):Mem->Value->Prop:=λG v=>∃a c,v=.agg ((oe x a c)).toArray/\sl ZF G a c x.b.t
abbrev tl(x:Zx)(e:ŀ Addr)(d:Nat)(g:ŀ Addr)(f:Nat)(c:ŀ Addr)(a:Nat):Ŀ Value:=[.slice e x.vars.length d,.slice g x.eqs.length f,.slice c x.ε.length a,.int .i64 x.next]
abbrev DF(x:Zx):Mem->Value->Prop:=λG v=>∃a c d e q4 q5,v=.agg ((tl x a c d e q4 q5)).toArray/\sl Rp.str G a c x.vars/\sl ZL G d e x.eqs/\sl ZL G q4 q5 x.ε
abbrev DB(x:vd)(e:ŀ Addr)(d:Nat)(c:ŀ Addr)(a:Nat)(m:ŀ Addr)(l:Nat)(k:ŀ Addr)(j:Nat)(i:ŀ Addr)(h:Nat)(p:ŀ Addr)(n:Nat)(g:ŀ Addr)(f:Nat):Ŀ Value:=[.int .i64 x.rules.k.n,.slice e x.rules.k.eqs.length d,.slice c x.rules.k.ε.length a,.int .i64 x.c.kind,.slice m x.c.p.length l,.int .i64 x.c.n,.int .i64 x.c.d,.int .i64 x.c.r,.slice k x.c.o.length j,.slice i x.c.l.length h,.slice p x.c.s.length n,.slice g x.c.b.length f]
abbrev DC(x:va):Ŀ Value:=[.int .i8 x.n,.int .i8 x.d,.int .u8 x.k]
abbrev fO{α:Type}(R:Rp α)(x:Ŀ α):Mem->Value->Prop:=λG v=>∃a c,v=.slice a x.length c/\sl @R G a c x
abbrev iz{α:Type}(R:Rp α)(x:Ŀ α×Int):Mem->Value->Prop:=λG v=>∃a c,v=.tuple #[.slice a x.1.length c,i' x.2]/\sl @R G a c x.1
abbrev ff:=false
abbrev tt:=true
abbrev jr:Ŀ Value:=[Value.bool false,Value.slice none 0 0,Value.bool false,Value.slice none 0 0,Value.bool false,Value.slice none 0 0,Value.bool false,Value.slice none 0 0,Value.bool false,Value.slice none 0 0,Value.bool false,Value.slice none 0 0,Value.bool false,Value.slice none 0 0,Value.bool false,Value.slice none 0 0,Value.bool false,Value.slice none 0 0,Value.bool false,Value.slice none 0 0,Value.bool false,Value.slice none 0 0,Value.bool false,Value.slice none 0 0,Value.bool false,Value.slice none 0 0,Value.bool false,Value.slice none 0 0,Value.bool false,Value.slice none 0 0,Value.bool false,Value.slice none 0 0,Value.bool false,Value.slice none 0 0,Value.bool false,Value.slice none 0 0,Value.bool false,Value.slice none 0 0,Value.bool false,Value.slice none 0 0,Value.bool false,Value.slice none 0 0,Value.bool false,Value.slice none 0 0,Value.bool false,Value.slice none 0 0,Value.bool false,Value.slice none 0 0,Value.bool false,Value.slice none 0 0,Value.bool false,Value.slice none 0 0,Value.bool false,Value.slice none 0 0,Value.bool false,Value.slice none 0 0,Value.bool false,Value.slice none 0 0,Value.bool false,Value.slice none 0 0,Value.bool false,Value.slice none 0 0,Value.bool false,Value.slice none 0 0]
abbrev Ö(f:Fin 8->Int):Ŀ Value:=õ (Value.int .i64) 8 f
abbrev δ{α:Type}(p:ŀ Addr)(l:Ŀ α)(c:Nat):Value:=.slice p l.length c
theorem Ó{P:Program}{N:Nat}{fn:Func}{w0:Bs}{G0 G:Mem}{L:Lo}{fr:Fr}{a:ResultVar}{α:Type}{f:α->Value}{x r:α}(e:x=r)(hr:fn.results = #[a])(c:RV P fr L a (f x)):WE N (bodyPost P fn (jK w0 G0 λ_ _ v=>v=f r)) .ret fr (St w0 G0 G L):=e ▸ WE.jP hr c rfl
abbrev ú(b:Nat)(c:Ŀ Value)(t:TypeId):ŀ Ow:=some ⟨b,.cells c.toArray t (0,0),0⟩
abbrev iI(b:Nat):Value:=.pointer (some ⟨b,0,none⟩)
abbrev DJ(G:Mem)(p:ŀ Addr)(c:Nat)(q:ŀ Addr)(d:Nat)(r:ŀ Addr)(e:Nat)(x:Zx):Prop:=sl Rp.str G p c x.vars/\sl ZL G q d x.eqs/\sl ZL G r e x.ε
theorem f1{f:Fr}{a0:Nat}{a:Value}(c:f.get a0=some a):Fr.sub [(a0,a)] f:=Fr.Zi c (Fr.Zw f)
theorem f2{f:Fr}{a0:Nat}{a:Value}{a1:Nat}{c:Value}(d:f.get a0=some a)(e:f.get a1=some c):Fr.sub [(a0,a),(a1,c)] f:=Fr.Zi d (Fr.Zi e (Fr.Zw f))
theorem f3{f:Fr}{a0:Nat}{a:Value}{a1:Nat}{c:Value}{a2:Nat}{d:Value}(e:f.get a0=some a)(g:f.get a1=some c)(h2:f.get a2=some d):Fr.sub [(a0,a),(a1,c),(a2,d)] f:=Fr.Zi e (Fr.Zi g (Fr.Zi h2 (Fr.Zw f)))
theorem f4{f:Fr}{a0:Nat}{a:Value}{a1:Nat}{c:Value}{a2:Nat}{d:Value}{a3:Nat}{e:Value}(g:f.get a0=some a)(h:f.get a1=some c)(h2:f.get a2=some d)(h3:f.get a3=some e):Fr.sub [(a0,a),(a1,c),(a2,d),(a3,e)] f:=Fr.Zi g (Fr.Zi h (Fr.Zi h2 (Fr.Zi h3 (Fr.Zw f))))
theorem f5{f:Fr}{a0:Nat}{a:Value}{a1:Nat}{c:Value}{a2:Nat}{d:Value}{a3:Nat}{e:Value}{a4:Nat}{g:Value}(h:f.get a0=some a)(i:f.get a1=some c)(h2:f.get a2=some d)(h3:f.get a3=some e)(j:f.get a4=some g):Fr.sub [(a0,a),(a1,c),(a2,d),(a3,e),(a4,g)] f:=Fr.Zi h (Fr.Zi i (Fr.Zi h2 (Fr.Zi h3 (Fr.Zi j (Fr.Zw f)))))
theorem f6{f:Fr}{a0:Nat}{a:Value}{a1:Nat}{c:Value}{a2:Nat}{d:Value}{a3:Nat}{e:Value}{a4:Nat}{g:Value}{a5:Nat}{h:Value}(i:f.get a0=some a)(j:f.get a1=some c)(h2:f.get a2=some d)(h3:f.get a3=some e)(k:f.get a4=some g)(l:f.get a5=some h):Fr.sub [(a0,a),(a1,c),(a2,d),(a3,e),(a4,g),(a5,h)] f:=Fr.Zi i (Fr.Zi j (Fr.Zi h2 (Fr.Zi h3 (Fr.Zi k (Fr.Zi l (Fr.Zw f))))))
theorem f7{f:Fr}{a0:Nat}{a:Value}{a1:Nat}{c:Value}{a2:Nat}{d:Value}{a3:Nat}{e:Value}{a4:Nat}{g:Value}{a5:Nat}{h:Value}{a6:Nat}{i:Value}(j:f.get a0=some a)(k:f.get a1=some c)(h2:f.get a2=some d)(h3:f.get a3=some e)(l:f.get a4=some g)(m:f.get a5=some h)(n:f.get a6=some i):Fr.sub [(a0,a),(a1,c),(a2,d),(a3,e),(a4,g),(a5,h),(a6,i)] f:=Fr.Zi j (Fr.Zi k (Fr.Zi h2 (Fr.Zi h3 (Fr.Zi l (Fr.Zi m (Fr.Zi n (Fr.Zw f)))))))
theorem f8{f:Fr}{a0:Nat}{a:Value}{a1:Nat}{c:Value}{a2:Nat}{d:Value}{a3:Nat}{e:Value}{a4:Nat}{g:Value}{a5:Nat}{h:Value}{a6:Nat}{i:Value}{a7:Nat}{j:Value}(k:f.get a0=some a)(l:f.get a1=some c)(h2:f.get a2=some d)(h3:f.get a3=some e)(m:f.get a4=some g)(n:f.get a5=some h)(p:f.get a6=some i)(h7:f.get a7=some j):Fr.sub [(a0,a),(a1,c),(a2,d),(a3,e),(a4,g),(a5,h),(a6,i),(a7,j)] f:=Fr.Zi k (Fr.Zi l (Fr.Zi h2 (Fr.Zi h3 (Fr.Zi m (Fr.Zi n (Fr.Zi p (Fr.Zi h7 (Fr.Zw f))))))))
theorem f9{f:Fr}{a0:Nat}{a:Value}{a1:Nat}{c:Value}{a2:Nat}{d:Value}{a3:Nat}{e:Value}{a4:Nat}{g:Value}{a5:Nat}{h:Value}{a6:Nat}{i:Value}{a7:Nat}{j:Value}{a8:Nat}{k:Value}(l:f.get a0=some a)(m:f.get a1=some c)(h2:f.get a2=some d)(h3:f.get a3=some e)(n:f.get a4=some g)(p:f.get a5=some h)(q:f.get a6=some i)(h7:f.get a7=some j)(r:f.get a8=some k):Fr.sub [(a0,a),(a1,c),(a2,d),(a3,e),(a4,g),(a5,h),(a6,i),(a7,j),(a8,k)] f:=Fr.Zi l (Fr.Zi m (Fr.Zi h2 (Fr.Zi h3 (Fr.Zi n (Fr.Zi p (Fr.Zi q (Fr.Zi h7 (Fr.Zi r (Fr.Zw f)))))))))
theorem f10{f:Fr}{a0:Nat}{c:Value}{a1:Nat}{d:Value}{a2:Nat}{e:Value}{a3:Nat}{g:Value}{a4:Nat}{h:Value}{a5:Nat}{i:Value}{a6:Nat}{j:Value}{a7:Nat}{k:Value}{a8:Nat}{l:Value}{a:Nat}{m:Value}(n:f.get a0=some c)(p:f.get a1=some d)(h2:f.get a2=some e)(h3:f.get a3=some g)(q:f.get a4=some h)(r:f.get a5=some i)(s:f.get a6=some j)(h7:f.get a7=some k)(t:f.get a8=some l)(u:f.get a=some m):Fr.sub [(a0,c),(a1,d),(a2,e),(a3,g),(a4,h),(a5,i),(a6,j),(a7,k),(a8,l),(a,m)] f:=Fr.Zi n (Fr.Zi p (Fr.Zi h2 (Fr.Zi h3 (Fr.Zi q (Fr.Zi r (Fr.Zi s (Fr.Zi h7 (Fr.Zi t (Fr.Zi u (Fr.Zw f))))))))))
theorem f11{f:Fr}{a0:Nat}{g:Value}{a1:Nat}{h:Value}{a2:Nat}{i:Value}{a3:Nat}{j:Value}{a4:Nat}{k:Value}{a5:Nat}{l:Value}{a6:Nat}{m:Value}{a7:Nat}{n:Value}{a8:Nat}{p:Value}{e:Nat}{q:Value}{a:Nat}{c:Value}(r:f.get a0=some g)(s:f.get a1=some h)(h2:f.get a2=some i)(h3:f.get a3=some j)(t:f.get a4=some k)(u:f.get a5=some l)(v:f.get a6=some m)(h7:f.get a7=some n)(x:f.get a8=some p)(y:f.get e=some q)(d:f.get a=some c):Fr.sub [(a0,g),(a1,h),(a2,i),(a3,j),(a4,k),(a5,l),(a6,m),(a7,n),(a8,p),(e,q),(a,c)] f:=Fr.Zi r (Fr.Zi s (Fr.Zi h2 (Fr.Zi h3 (Fr.Zi t (Fr.Zi u (Fr.Zi v (Fr.Zi h7 (Fr.Zi x (Fr.Zi y (Fr.Zi d (Fr.Zw f)))))))))))
theorem f12{f:Fr}{a0:Nat}{j:Value}{a1:Nat}{k:Value}{a2:Nat}{l:Value}{a3:Nat}{m:Value}{a4:Nat}{n:Value}{a5:Nat}{p:Value}{a6:Nat}{q:Value}{a7:Nat}{r:Value}{a8:Nat}{s:Value}{i:Nat}{t:Value}{a:Nat}{d:Value}{c:Nat}{e:Value}(u:f.get a0=some j)(v:f.get a1=some k)(h2:f.get a2=some l)(h3:f.get a3=some m)(x:f.get a4=some n)(y:f.get a5=some p)(A:f.get a6=some q)(h7:f.get a7=some r)(B:f.get a8=some s)(C:f.get i=some t)(g:f.get a=some d)(h:f.get c=some e):Fr.sub [(a0,j),(a1,k),(a2,l),(a3,m),(a4,n),(a5,p),(a6,q),(a7,r),(a8,s),(i,t),(a,d),(c,e)] f:=Fr.Zi u (Fr.Zi v (Fr.Zi h2 (Fr.Zi h3 (Fr.Zi x (Fr.Zi y (Fr.Zi A (Fr.Zi h7 (Fr.Zi B (Fr.Zi C (Fr.Zi g (Fr.Zi h (Fr.Zw f))))))))))))
theorem f13{f:Fr}{a0:Nat}{m:Value}{a1:Nat}{n:Value}{a2:Nat}{p:Value}{a3:Nat}{q:Value}{a4:Nat}{r:Value}{a5:Nat}{s:Value}{a6:Nat}{t:Value}{a7:Nat}{u:Value}{a8:Nat}{v:Value}{l:Nat}{x:Value}{a:Nat}{e:Value}{c:Nat}{g:Value}{d:Nat}{h:Value}(y:f.get a0=some m)(A:f.get a1=some n)(h2:f.get a2=some p)(h3:f.get a3=some q)(B:f.get a4=some r)(C:f.get a5=some s)(D:f.get a6=some t)(h7:f.get a7=some u)(E:f.get a8=some v)(F:f.get l=some x)(i:f.get a=some e)(j:f.get c=some g)(k:f.get d=some h):Fr.sub [(a0,m),(a1,n),(a2,p),(a3,q),(a4,r),(a5,s),(a6,t),(a7,u),(a8,v),(l,x),(a,e),(c,g),(d,h)] f:=Fr.Zi y (Fr.Zi A (Fr.Zi h2 (Fr.Zi h3 (Fr.Zi B (Fr.Zi C (Fr.Zi D (Fr.Zi h7 (Fr.Zi E (Fr.Zi F (Fr.Zi i (Fr.Zi j (Fr.Zi k (Fr.Zw f)))))))))))))
theorem f14{f:Fr}{a0:Nat}{q:Value}{a1:Nat}{r:Value}{a2:Nat}{s:Value}{a3:Nat}{t:Value}{a4:Nat}{u:Value}{a5:Nat}{v:Value}{a6:Nat}{x:Value}{a7:Nat}{y:Value}{a8:Nat}{A:Value}{p:Nat}{B:Value}{a:Nat}{g:Value}{c:Nat}{h:Value}{d:Nat}{i:Value}{e:Nat}{j:Value}(C:f.get a0=some q)(D:f.get a1=some r)(h2:f.get a2=some s)(h3:f.get a3=some t)(E:f.get a4=some u)(F:f.get a5=some v)(G:f.get a6=some x)(h7:f.get a7=some y)(H:f.get a8=some A)(I:f.get p=some B)(k:f.get a=some g)(l:f.get c=some h)(m:f.get d=some i)(n:f.get e=some j):Fr.sub [(a0,q),(a1,r),(a2,s),(a3,t),(a4,u),(a5,v),(a6,x),(a7,y),(a8,A),(p,B),(a,g),(c,h),(d,i),(e,j)] f:=Fr.Zi C (Fr.Zi D (Fr.Zi h2 (Fr.Zi h3 (Fr.Zi E (Fr.Zi F (Fr.Zi G (Fr.Zi h7 (Fr.Zi H (Fr.Zi I (Fr.Zi k (Fr.Zi l (Fr.Zi m (Fr.Zi n (Fr.Zw f))))))))))))))
theorem f15{f:Fr}{a0:Nat}{t:Value}{a1:Nat}{u:Value}{a2:Nat}{v:Value}{a3:Nat}{x:Value}{a4:Nat}{y:Value}{a5:Nat}{A:Value}{a6:Nat}{B:Value}{a7:Nat}{C:Value}{a8:Nat}{D:Value}{s:Nat}{E:Value}{a:Nat}{h:Value}{c:Nat}{i:Value}{d:Nat}{j:Value}{e:Nat}{k:Value}{g:Nat}{l:Value}(F:f.get a0=some t)(G:f.get a1=some u)(h2:f.get a2=some v)(h3:f.get a3=some x)(H:f.get a4=some y)(I:f.get a5=some A)(J:f.get a6=some B)(h7:f.get a7=some C)(K:f.get a8=some D)(L:f.get s=some E)(m:f.get a=some h)(n:f.get c=some i)(p:f.get d=some j)(q:f.get e=some k)(r:f.get g=some l):Fr.sub [(a0,t),(a1,u),(a2,v),(a3,x),(a4,y),(a5,A),(a6,B),(a7,C),(a8,D),(s,E),(a,h),(c,i),(d,j),(e,k),(g,l)] f:=Fr.Zi F (Fr.Zi G (Fr.Zi h2 (Fr.Zi h3 (Fr.Zi H (Fr.Zi I (Fr.Zi J (Fr.Zi h7 (Fr.Zi K (Fr.Zi L (Fr.Zi m (Fr.Zi n (Fr.Zi p (Fr.Zi q (Fr.Zi r (Fr.Zw f)))))))))))))))
theorem f16{f:Fr}{a0:Nat}{v:Value}{a1:Nat}{x:Value}{a2:Nat}{y:Value}{a3:Nat}{A:Value}{a4:Nat}{B:Value}{a5:Nat}{C:Value}{a6:Nat}{D:Value}{a7:Nat}{E:Value}{a8:Nat}{F:Value}{u:Nat}{G:Value}{a:Nat}{i:Value}{c:Nat}{j:Value}{d:Nat}{k:Value}{e:Nat}{l:Value}{g:Nat}{m:Value}{h:Nat}{n:Value}(H:f.get a0=some v)(I:f.get a1=some x)(h2:f.get a2=some y)(h3:f.get a3=some A)(J:f.get a4=some B)(K:f.get a5=some C)(L:f.get a6=some D)(h7:f.get a7=some E)(N:f.get a8=some F)(O:f.get u=some G)(p:f.get a=some i)(q:f.get c=some j)(r:f.get d=some k)(s:f.get e=some l)(t:f.get g=some m)(oN:f.get h=some n):Fr.sub [(a0,v),(a1,x),(a2,y),(a3,A),(a4,B),(a5,C),(a6,D),(a7,E),(a8,F),(u,G),(a,i),(c,j),(d,k),(e,l),(g,m),(h,n)] f:=Fr.Zi H (Fr.Zi I (Fr.Zi h2 (Fr.Zi h3 (Fr.Zi J (Fr.Zi K (Fr.Zi L (Fr.Zi h7 (Fr.Zi N (Fr.Zi O (Fr.Zi p (Fr.Zi q (Fr.Zi r (Fr.Zi s (Fr.Zi t (Fr.Zi oN (Fr.Zw f))))))))))))))))
theorem w1{w0:Bs}{G0 G:Mem}{L:Lo}{a0:Nat}{a:ŀ Ow}(c:L.get a0=a):∀w,St w0 G0 G L w->St w0 G0 G [(a0,a)] w:=wk (Lo.Zi c (Lo.Zw L))
theorem w2{w0:Bs}{G0 G:Mem}{L:Lo}{a0:Nat}{a:ŀ Ow}{a1:Nat}{c:ŀ Ow}(d:L.get a0=a)(e:L.get a1=c):∀w,St w0 G0 G L w->St w0 G0 G [(a0,a),(a1,c)] w:=wk (Lo.Zi d (Lo.Zi e (Lo.Zw L)))
theorem w3{w0:Bs}{G0 G:Mem}{L:Lo}{a0:Nat}{a:ŀ Ow}{a1:Nat}{c:ŀ Ow}{a2:Nat}{d:ŀ Ow}(e:L.get a0=a)(f:L.get a1=c)(h2:L.get a2=d):∀w,St w0 G0 G L w->St w0 G0 G [(a0,a),(a1,c),(a2,d)] w:=wk (Lo.Zi e (Lo.Zi f (Lo.Zi h2 (Lo.Zw L))))
theorem w4{w0:Bs}{G0 G:Mem}{L:Lo}{a0:Nat}{a:ŀ Ow}{a1:Nat}{c:ŀ Ow}{a2:Nat}{d:ŀ Ow}{a3:Nat}{e:ŀ Ow}(f:L.get a0=a)(g:L.get a1=c)(h2:L.get a2=d)(h3:L.get a3=e):∀w,St w0 G0 G L w->St w0 G0 G [(a0,a),(a1,c),(a2,d),(a3,e)] w:=wk (Lo.Zi f (Lo.Zi g (Lo.Zi h2 (Lo.Zi h3 (Lo.Zw L)))))
theorem w5{w0:Bs}{G0 G:Mem}{L:Lo}{a0:Nat}{a:ŀ Ow}{a1:Nat}{c:ŀ Ow}{a2:Nat}{d:ŀ Ow}{a3:Nat}{e:ŀ Ow}{a4:Nat}{f:ŀ Ow}(g:L.get a0=a)(h:L.get a1=c)(h2:L.get a2=d)(h3:L.get a3=e)(i:L.get a4=f):∀w,St w0 G0 G L w->St w0 G0 G [(a0,a),(a1,c),(a2,d),(a3,e),(a4,f)] w:=wk (Lo.Zi g (Lo.Zi h (Lo.Zi h2 (Lo.Zi h3 (Lo.Zi i (Lo.Zw L))))))
theorem w6{w0:Bs}{G0 G:Mem}{L:Lo}{a0:Nat}{a:ŀ Ow}{a1:Nat}{c:ŀ Ow}{a2:Nat}{d:ŀ Ow}{a3:Nat}{e:ŀ Ow}{a4:Nat}{f:ŀ Ow}{a5:Nat}{g:ŀ Ow}(h:L.get a0=a)(i:L.get a1=c)(h2:L.get a2=d)(h3:L.get a3=e)(j:L.get a4=f)(k:L.get a5=g):∀w,St w0 G0 G L w->St w0 G0 G [(a0,a),(a1,c),(a2,d),(a3,e),(a4,f),(a5,g)] w:=wk (Lo.Zi h (Lo.Zi i (Lo.Zi h2 (Lo.Zi h3 (Lo.Zi j (Lo.Zi k (Lo.Zw L)))))))
abbrev a':=@WE.hJ
abbrev b':=@WE.then
abbrev c':=@Zk
abbrev f':=@Y0.eT
abbrev g':=@WE.gv
abbrev h':=@Y0.qc
abbrev j':=@WE.jP
abbrev k':=@Y0.move
abbrev m':=@WC.ret
abbrev n':=@Y0.Ò
abbrev o':=@WC.seq
abbrev p':=@WE.å
abbrev q':=@WC.skip
abbrev t':=@WL.nil
abbrev w':=@WC.region
abbrev x':=@YC.of
abbrev y':=@Y0.eQ
abbrev A':=@WL.fm
abbrev C':=@rL
abbrev E':=@WE.inBlock
abbrev F':=@underlying116
abbrev H':=@WL.gR
abbrev I':=@WC.cr
abbrev J':=@iL.enter
abbrev K':=@WE.Ì
abbrev M':=@Rm
abbrev N':=@WE.vE
abbrev O':=@Y0.extract
abbrev P':=@Y0.CE
abbrev Q':=@underlying50
abbrev R':=@Y0.nl
abbrev T':=@At.mono
abbrev U':=@Zy
abbrev V':=@Y0.add
abbrev W':=@WL.alloc
abbrev X':=@Ζ.nil
abbrev Y':=@WC.block
abbrev Z':=@Y0.lss
abbrev gJ:=@WL.call
abbrev jL:=@underlying46
abbrev jV:=@Y0.lL
abbrev eA:=@Y0.eql
abbrev nv:=@WC.wa
abbrev na:=@WC.exit
abbrev dQ:=@WL.cr
abbrev mM:=@Ux
abbrev nP:=@WE.BQ
abbrev mN:=@WE.se
abbrev gb:=@Rp.vec
abbrev iD:=@Ζ.at
abbrev oH:=@γ.mV
abbrev jM:=@WL.box
abbrev É:=@WL.skip
abbrev fC:=@WC.drawn
abbrev pD:=@WE.oT
abbrev kB:=@RV.pJ
abbrev oh:=@WC.pM
abbrev Θ:=@WE.nx
abbrev tC:=@underlying250
abbrev kG:=@Y0.not
abbrev fQ:=@ZF
abbrev uj:=@underlying24
abbrev nw:=@Y0.jv
abbrev rb:=@WL.fM
abbrev ug:=@underlying248
abbrev mH:=@Y0.hP
abbrev l1:=@Y0.build
abbrev tB:=@underlying52
abbrev pA:=@γ.pI
abbrev mI:=@pC
abbrev iB:=@Z2
abbrev kc:=@WC.VT
abbrev aI':=@Y0.F6
abbrev Bk:=@underlying3
abbrev pB:=@Y0.conv
abbrev aL':=@WC.sT
abbrev aM':=@underlying145
abbrev Gn:=@underlying71
abbrev uh:=@WE.uM
abbrev mW:=@WL.qP
abbrev ra:=@underlying44
abbrev l9:=@rO
abbrev ik:=@tp
abbrev vy:=@AtK.int
abbrev vz:=@Y0.gtr
abbrev jU:=@γ.ym
abbrev mX:=@lD
abbrev VN:=@Y0.jt
abbrev Mw:=@Y0.Bh
abbrev Gp:=@underlying5
abbrev nQ:=@AtK.via
abbrev zf:=@Y0.Vk
abbrev Bv:=@Y0.UO
abbrev nR:=@Y0.neq
abbrev lf:=@Bo
abbrev Bw:=@Y0.VF
abbrev Bx:=@Y0.UQ
abbrev By:=@γ.tc
abbrev tE:=@s8
abbrev tF:=@WC.pL
abbrev lg:=@γ.alloc
abbrev mf:=@γ.pS
abbrev oJ:=@underlying324
abbrev bo':=@qk
abbrev jH:=@WL.ui
abbrev pF:=@Y0.oQ
abbrev rY:=@γ.gR
abbrev MK:=@underlying82
abbrev Gt:=@Y0.sub
abbrev xE:=@Y0.UP
abbrev VP:=@tx
abbrev vF:=@Y0.geq
abbrev xF:=@AtK.snd
abbrev oj:=@Y0.L5
abbrev zg:=@Y0.Vm
abbrev vC:=@wi
abbrev bB':=@qt
abbrev uk:=@underlying87
abbrev xD:=@underlying9
abbrev oi:=@underlying325
abbrev vD:=@underlying127
abbrev jW:=@wj
abbrev rU:=@Dp
abbrev mP:=@WE.ö
abbrev tD:=@wR
abbrev Gr:=@Y0.VG
abbrev rV:=@oG
abbrev ny:=@γ.iw
abbrev Gs:=@rP
abbrev pE:=@Zvg
abbrev MI:=@underlying90
abbrev ma:=@γ.rZ
abbrev rW:=@yD
abbrev nz:=@Y0.eq
abbrev re:=@mu
abbrev VO:=@Y0.Vg
abbrev lF:=@Ç.size
abbrev rf:=@eM.enter
abbrev rX:=@Dk
abbrev mQ:=@WL.jX
abbrev me:=@γ.C8
abbrev Bz:=@Y0.VB
abbrev xJ:=@γ.cr
abbrev r6:=@AtK.fst
abbrev kH:=@Tok.full
abbrev BB:=@Y0.leq
abbrev rh:=@Y0.assign
abbrev ri:=@Y0.Gi
abbrev Gv:=@Y0.VC
abbrev VQ:=@sO
abbrev r7:=@Bq
abbrev vJ:=@ZL
abbrev Gw:=@Y0.VE
abbrev MO:=@underlying51
abbrev VR:=@AtK.vec
abbrev om:=@MJ
abbrev cr':=@underlying4
abbrev xL:=@Y0.rem
abbrev mj:=@WL.ö
abbrev ml:=@γ.OB
abbrev um:=@γ.float
abbrev xM:=@AtK.sl
abbrev VU:=@uN
abbrev zt:=@WL.storeT
abbrev nE:=@rN
abbrev xG:=@Y0.Vn
abbrev Gu:=@Y0.Vl
abbrev nS:=@Br
abbrev ML:=@Re
abbrev pG:=@kQ
abbrev zj:=@Y0.Vs
abbrev MM:=@Y0.Vj
abbrev cJ':=@Y0.Vi
abbrev zn:=@lE
abbrev xH:=@oc
abbrev vG:=@DL
abbrev zo:=@Y0.Vo
abbrev nT:=@fz.back
abbrev mi:=@WL.Dz
abbrev cY':=@vq
abbrev tG:=@qU
abbrev VY:=@underlying196
abbrev oo:=@Γ.at
abbrev pO:=@WL.jI
abbrev VZ:=@underlying32
abbrev pP:=@WL.mJ
abbrev nV:=@fz.one
abbrev vK:=@ZP
abbrev xN:=@γ.yh
abbrev rk:=@DM
abbrev dq':=@Jf
abbrev V1:=@Y0.VD
abbrev BL:=@Y0.Vq
abbrev dw':=@underlying2
abbrev GB:=@WL.iQ
abbrev uo:=@WE.jI
abbrev Gz:=@AtK.DD
abbrev zv:=@Ç.zero
abbrev zw:=@underlying225
abbrev BE:=@Y0.Vr
abbrev BF:=@Y0.Vh
abbrev BG:=@underlying126
abbrev tH:=@γ.NZ
abbrev VV:=@Y0.Mm
abbrev GA:=@γ.td
abbrev rj:=@Y0.vU
abbrev BH:=@tP
abbrev qJ:=@Ζ.eqv
abbrev MQ:=@WE.C3
abbrev VX:=@Y0.B3
abbrev BN:=@Γ.zero
abbrev MV:=@Y0.UY
abbrev vM:=@WL.mZ
abbrev oM:=@wv
abbrev BO:=@underlying102
abbrev V7:=@WL.vZ
abbrev rl:=@Ζ.XJ
abbrev V8:=@Y0.quo
abbrev rm:=@Ç.lt
abbrev xQ:=@γ.yj
abbrev BT:=@Y0.sy
abbrev uu:=@K2
abbrev uv:=@Y0.nj
abbrev uw:=@AtK.Bu
abbrev V9:=@Y0.Vp
abbrev V2:=@Y0.U1
abbrev MU:=@Y0.UX
abbrev V3:=@yz
abbrev xO:=@γ.jE
abbrev V4:=@Y0.shr
abbrev eJ':=@Y0.sx
abbrev V5:=@Y0.index
abbrev vL:=@Y0.xT
abbrev eV':=@Y0.UZ
abbrev eW':=@Y0.U0
abbrev BZ:=@Y0.UU
abbrev fd':=@underlying31
abbrev M3:=@Y0.Ml
abbrev vR:=@fz.nil
abbrev We:=@γ.tf
abbrev GI:=@γ.yi
abbrev Wf:=@Ql
abbrev GJ:=@Y0.UT
abbrev GK:=@Y0.US
abbrev Wa:=@Y0.max2
abbrev vQ:=@Ç.at
abbrev Wb:=@Y0.makeFunc
abbrev M1:=@underlying144
abbrev GF:=@Laid.drop
abbrev BY:=@WC.kK
abbrev M2:=@underlying158
abbrev fY':=@underlying35
abbrev GG:=@Kg
abbrev B0:=@WL.uT
abbrev GL:=@Y0.UR
abbrev Wi:=@Y0.UW
end Go.Proofs.YtepbagkffgddlaaGreat

