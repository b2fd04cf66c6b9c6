/- The law TaskReady holds for every input: a part of its proof (fY the code does, plain models, and fY they return). No condition. -/
import Derived.Test.YtepbagkffgddlaaGreatXR9e
import Derived.Test.YtepbagkffgddlaaGreatXR9c
import Derived.Test.YtepbagkffgddlaaGreatXR9d
import Derived.Test.YtepbagkffgddlaaGreatXR9b
set_option linter.unusedVariables false
set_option linter.unusedSimpArgs false
namespace Go.EL
open Go.IntKind (i8 i16 i32 i64 u8 u16 u32 u64)
set_option maxRecDepth 20000
open Go Go.RowKit Go.Proofs
class Sca (P:Program) (t:TypeId):Prop where
 h:ê P t
class Agg (P:Program) (t:TypeId) (n:outParam Nat):Prop where
 h:fq P t n
class Siz (P:Program) (t:TypeId) (n:outParam Nat):Prop where
 h:(P.info? t).map (·.size)=some n
class Udl (P:Program) (t:TypeId) (d:outParam TypeDesc):Prop where
 h:P.underlying t=some d
class Zer (P:Program) (t:TypeId) (z:outParam Value):Prop where
 h:(P.info? t).map (·.zero)=some (some z)
class Fad (P:Program) (t i:Nat) (k:outParam Nat):Prop where
 h:∀ {N:Nat}{dst:ŀ Nat}{ty:TypeId}{pos:String}{af:Array Edge}{g:ŀ (Nat×Bool)}{fr:Fr}{S:Ο}{x:Operand}{b off:Nat},fr.ev x=some (.pointer (some ⟨b,off,none⟩))->Y0 P N ⟨dst,.fieldAddr t x i,ty,pos,af,g⟩ fr S (.pointer (some ⟨b,off+k,none⟩))
class Off (P:Program) (t i:Nat) (k:outParam Nat):Prop where
 h:True
class RpT (P:Program) (e:TypeId) (α:outParam Type) (r:outParam (Rp α)):Prop where
 h:True
class ElC (P:Program) (e:TypeId) (z:outParam Value) (s b:outParam Nat):Prop where
 h:ji P e z s b
def BS(P:Program)(f:FuncId):Bool:=match P.funcs[f]? with
 | some fn=>!(fn.name == "runtime.NumGoroutine") && fn.body.isSome
 | none=>false
theorem uj{P:Program}{f:FuncId}(h:BS P f=true):Enters P f:=by
 unfold BS at h;split at h
 .rename_i fn g;simp only[ĉ,Ő,ew]at h;obtain⟨e,c,h2⟩:=h;exact enters_of g e h2
 cases h
class a {α:Type}(m:Cq α) (r:α) (S:outParam Prop):Prop where
 h:m.Α r->S
class d {α:Type}(r:Rp α) (x:α) (D:outParam (Mem->(Nat->Value->Prop)->Nat->Prop)):Prop where
 h:∀ {G K o},AtK r G K o x->D G K o
def oS:Ŀ Value->Nat->ŀ Value
 | [],_=>none
 | v::_,0=>some v
 | _::r,n+1=>oS r n
theorem Mi:∀ (c:Ŀ Value) (i:Nat),oS c i=c[i]?
 | [],_=>by simp[oS]
 | _::_,0=>by simp[oS]
 | _::r,n+1=>by simp[oS,Mi r n]
theorem vE{a b c:Prop}(h:a/\b)(k:a->b->c):c:=k h.1 h.2
theorem zD{α:Sort _}{p:α->Prop}{c:Prop}(h:∃ x,p x)(k:∀ x,p x->c):c:=let ⟨x,h⟩:=h;k x h
theorem HG{a b r:Prop}(k:a->b->r):a/\b->r:=λh=>k h.1 h.2
theorem pW{α:Type}{p q:α->Prop}{r:Prop}(k:∀ x,p x->q x->r):(∃ x,p x/\q x)->r:=λ⟨x,a,b⟩=>k x a b
theorem lh{i:Nat}{x:ŀ Ow}{L:Lo}:Lo.get ((i,x)::L) i=x:=by simp[Lo.get]
theorem lt{i j:Nat}{x y:ŀ Ow}{L:Lo}(h:L.get i=x)(a:Nat.beq j i=false):Lo.get ((j,y)::L) i=x:=by show(bif Nat.beq j i then y else L.get i)=x;rw[a];exact h
theorem uJ{A B:Mem}(h:Mem.le A B:=by((repeat (first|exact Mem.le_refl _|assumption|refine Mem.le_trans (by assumption) ?_));a refine ?_)):Mem.le A B:=h
section
variable {α:Type}{r:Rp α}{G G':Mem}{v:Value}{xs:Ŀ α}{b o j:Nat}{cells:Array Value}
theorem zJ(h:Η r G v xs:=by a assumption)(c:Mem.le G G':=by exact uJ):Η r G' v xs:=h.mono c
theorem zI{e:TypeId}{tk:ŀ Ow}(h:Γ r e G v xs tk:=by a assumption)(c:Mem.le G G':=by exact uJ):Γ r e G' v xs tk:=h.mono c
theorem Xy:Η r G (.slice none 0 0) ([]:Ŀ α):=Η.nil r G
theorem gz(h:∀ j u,cells[j]? = some u->(λk u=>G b k=some u) (o+j) u:=by a assumption)(d:oS cells.toList j=some v:=by exact rfl)(c:Mem.le G G':=by exact uJ):G' b (o+j)=some v:=c _ _ _ (h j v (by rw[Mi]at d;simpa using d))
theorem gz1(h:(λk u=>G b k=some u) o v:=by a assumption)(c:Mem.le G G':=by exact uJ):G' b o=some v:=c _ _ _ h
theorem gzA(h:∀ j u,cells[j]? = some u->(λk u=>G b k=some u) (o+j) u:=by a assumption)(c:Mem.le G G':=by exact uJ):∀ j v,cells[j]? = some v->G' b (o+j)=some v:=λj v d=>c _ _ _ (h j v d)
end
section
variable {P:Program}{N:Nat}{Q:î}{fr:Fr}{S:Ο}{ops:Array Oper}{l:Ŀ Oper}{dst:ŀ Nat}{op:Op}{ty:TypeId}{pos:String}{af:Array Edge}{g:ŀ (Nat×Bool)}{v:Value}{x y:Operand}{w0:Bs}{G0 G:Mem}{L:Lo}
section
variable {t t' e:TypeId}{b off m n k:Nat}{c:Array Value}
theorem Y9[h:d P t](e:fr.ev x=some (.pointer (some ⟨b,off,none⟩))){i:Nat}(hi:L.get i=some ⟨b,.cells c t' (0,0),m⟩)(a:oS c.toList off=some v):Y0 P N ⟨dst,.load t x,ty,pos,af,g⟩ fr (St w0 G0 G L) v:=Y0.Ò i h.h e hi (by rw[Mi]at a;simpa using a)
theorem Zy4[h:a P t n](e:fr.ev x=some (.pointer (some ⟨b,0,none⟩))){i:Nat}(hi:L.get i=some ⟨b,.cells c t' (0,0),m⟩)(d:c.size=n):Y0 P N ⟨dst,.load t x,ty,pos,af,g⟩ fr (St w0 G0 G L) (.agg c):=Y0.eT i h.h e hi d
theorem Y8[h:a P t](d:fr.ev x=some (.pointer (some ⟨b,off,none⟩)))(c:G b off=some v):Y0 P N ⟨dst,.load t x,ty,pos,af,g⟩ fr (St w0 G0 G L) v:=Y0.hP h.h d c
theorem Zy1[h:a P t n](f:fr.ev x=some (.pointer (some ⟨b,off,none⟩)))(e:∀ j v,c[j]? = some v->G b (off+j)=some v)(d:c.size=n):Y0 P N ⟨dst,.load t x,ty,pos,af,g⟩ fr (St w0 G0 G L) (.agg c):=Y0.jw c h.h f d e
theorem ZBE{i:Nat}[h:a P t i k](c:fr.ev x=some (.pointer (some ⟨b,off,none⟩))):Y0 P N ⟨dst,.fieldAddr t x i,ty,pos,af,g⟩ fr S (.pointer (some ⟨b,off+k,none⟩)):=h.h c
theorem ZBj{p:ŀ Addr}{cap:Nat}[h:a P t (.slice e)](c:fr.ev x=some (.slice p n cap)):Y0 P N ⟨dst,.call ⟨.builtin .len,#[x],#[t]⟩,ty,pos,af,g⟩ fr S (.int .i64 (n:Int)):=Y0.sw h.h c
theorem YL{d:TypeId}{c:TypeDesc}{k k':IntKind}{n:Int}[f:a P t c][e:a P d (.int k')](h:fr.ev x=some (.int k n)):Y0 P N ⟨dst,.convert t d x,ty,pos,af,g⟩ fr S (.int k' (k'.wrap n)):=Y0.conv f.h e.h h
end
theorem ZBe{α:Type}{t e:TypeId}{r:Rp α}{n m cap:Nat}{p:ŀ Addr}{k:IntKind}{i:Int}{xs:Ŀ α}{z:α}{D:Mem->(Nat->Value->Prop)->Nat->Prop}[f:d P t (.slice e)][h2:c P e m](s:fr.ev x=some (.slice p n cap))(v:fr.ev y=some (.int k i))(hi:0<=i/\xs[i.toNat]? = some z)(h:Η r G (.slice p n cap) xs)(g:a r z D)(q:r.size=m)(j:Ω N dst)
  (kk:D G (λk u=>G (pb p) k=some u) (po p+i.toNat*m)->WL P N ops Q l (θ dst (.pointer (some ⟨pb p,po p+i.toNat*m,none⟩)) fr) (St w0 G0 G L)):WL P N ops Q (⟨dst,.indexAddr t x y,ty,pos,af,none⟩::l) fr (St w0 G0 G L):=
 yy (Y0.lN f.h h2.h h s v hi) j (kk (q ▸ g.h (Η.at h hi)))
theorem YY{f:FuncId}{c:Value}{pre:Mem->Prop}{xs:Array Operand}{a:Array TypeId}{vs:Ŀ Value}(e:Enters P f)(g:fr.iv xs.toList=some vs)(h:iJ P f vs.toArray pre (λ_ u=>u=c))(d:Ω N dst)(hp:pre G)
  (k:WL P N ops Q l (θ dst c fr) (St w0 G0 G L)):WL P N ops Q (⟨dst,.call ⟨.value (.func f),xs,a⟩,ty,pos,af,none⟩::l) fr (St w0 G0 G L):=WL.gS Zh d (YC.of e g) h rfl hp k
theorem YH{f:FuncId}{pre:Mem->Prop}{post:Mem->Value->Prop}{xs:Array Operand}{a:Array TypeId}{vs:Ŀ Value}(d:Enters P f)(e:fr.iv xs.toList=some vs)(h:iJ P f vs.toArray pre post)(c:Ω N dst)(hp:pre G)
  (k:∀ v G',Mem.le G G'->post G' v->WL P N ops Q l (θ dst v fr) (St w0 G0 G' L)):WL P N ops Q (⟨dst,.call ⟨.value (.func f),xs,a⟩,ty,pos,af,none⟩::l) fr (St w0 G0 G L):=WL.call Zh c (YC.of d e) h rfl hp k
theorem Y1{f:FuncId}{pre:Mem->Prop}{post:Mem->Value->Prop}{xs:Array Operand}{a:Array TypeId}{vs:Ŀ Value}{j d:Nat}{b:Bool}(g:Enters P f)(c:(ops[j]?).bind (·.dst)=some d)(h2:fr.get d=some (.bool b))(i:fr.iv xs.toList=some vs)(h:iJ P f vs.toArray pre post)(e:Ω N dst)(hp:pre G)
  (k:∀ v G',Mem.le G G'->post G' v->WL P N ops Q l (θ dst v fr) (St w0 G0 G' L)):WL P N ops Q (⟨dst,.call ⟨.value (.func f),xs,a⟩,ty,pos,af,some (j,b)⟩::l) fr (St w0 G0 G L):=WL.call (rM c h2) e (YC.of g i) h rfl hp k
theorem ZyS{f:FuncId}{z:Operand}{c:Value}{pre:Mem->Prop}{xs:Array Operand}{a:Array TypeId}{vs:Ŀ Value}(i:fr.ev z=some (.func (.func f) #[] #[]))(e:Enters P f)(g:fr.iv xs.toList=some vs)(h:iJ P f vs.toArray pre (λ_ u=>u=c))(d:Ω N dst)(hp:pre G)
  (k:WL P N ops Q l (θ dst c fr) (St w0 G0 G L)):WL P N ops Q (⟨dst,.call ⟨.value z,xs,a⟩,ty,pos,af,none⟩::l) fr (St w0 G0 G L):=WL.gS Zh d (YC.xW e i g) h (by simp) hp k
theorem ZyR{f:FuncId}{c:Value}{pre:Mem->Prop}{xs:Array Operand}{a:Array TypeId}{vs:Ŀ Value}{j d:Nat}{b:Bool}(i:Enters P f)(e:(ops[j]?).bind (·.dst)=some d)(h2:fr.get d=some (.bool b))(m:fr.iv xs.toList=some vs)(h:iJ P f vs.toArray pre (λ_ u=>u=c))(g:Ω N dst)(hp:pre G)
  (k:WL P N ops Q l (θ dst c fr) (St w0 G0 G L)):WL P N ops Q (⟨dst,.call ⟨.value (.func f),xs,a⟩,ty,pos,af,some (j,b)⟩::l) fr (St w0 G0 G L):=WL.gS (rM e h2) g (YC.of i m) h rfl hp k
theorem YX{t:TypeId}{z:Value}{i:Nat}[h:a P t z](c:Ω N (some i))(k:∀ b,WL P N ops Q l (θ (some i) (.pointer (some ⟨b,0,none⟩)) fr) (St w0 G0 G ((i,some ⟨b,.cells z.cells t (0,0),0⟩)::L))):WL P N ops Q (⟨some i,.alloc t,ty,pos,af,none⟩::l) fr (St w0 G0 G L):=WL.alloc i Zh h.h c k
theorem Mv{β:Type}{p:Prop}{d:Decidable p}{A B:Cq β}{Φ:β->Prop}{a:Prop}(hr:(@ite _ p d A B).wp Φ)(e:@decide p d=true->p->A.wp Φ->a)(c:@decide p d=false->¬ p->B.wp Φ->a):a:=
 if h:p then e (ă h) h (by rwa [ą h]at hr)else c (Ċ h) h (by rwa [ā h]at hr)
theorem Mw{β:Type}{b:Bool}{A B:Cq β}{Φ:β->Prop}{a:Prop}(hr:(match b with|false=>A|true=>B).wp Φ)(c:b=false->A.wp Φ->a)(d:b=true->B.wp Φ->a):a:=by
 cases b with
 | false=>exact c rfl hr
 | true=>exact d rfl hr
theorem Gg{t e:TypeId}{len b:Nat}{k:IntKind}{i:Int}[h:c P t (.array len e)][h':a P e 1](d:fr.ev x=some (.pointer (some ⟨b,0,none⟩)))(f:fr.ev y=some (.int k i))(hi:0<=i/\i<(len:Int)):Y0 P N ⟨dst,.indexAddr t x y,ty,pos,af,g⟩ fr S (.pointer (some ⟨b,i.toNat,none⟩)):=Y0.ju h.h h'.h d f hi
theorem Gm{t e:TypeId}{len b off:Nat}{k:IntKind}{i:Int}[h:c P t (.array len e)][h':a P e 1](d:fr.ev x=some (.pointer (some ⟨b,off,none⟩)))(f:fr.ev y=some (.int k i))(hi:0<=i/\i<(len:Int)):Y0 P N ⟨dst,.indexAddr t x y,ty,pos,af,g⟩ fr S (.pointer (some ⟨b,off+i.toNat,none⟩)):=Y0.B3 h.h h'.h d f hi
theorem Zy8{a:IntKind}{n:Nat}{f:Fin n->Int}{i:Int}{t t':TypeId}{b m key:Nat}[h:c P t](e:fr.ev x=some (.pointer (some ⟨b,i.toNat,none⟩)))(hi:L.get key=some ⟨b,.cells (õ (Value.int a) n f).toArray t' (0,0),m⟩)(d:0<=i/\i<(n:Int)):Y0 P N ⟨dst,.load t x,ty,pos,af,g⟩ fr (St w0 G0 G L) (Value.int a (Ε f i)):=Y0.Ò key h.h e hi (tv _ _ _ d)
theorem Zy7{n:Nat}{f:Fin n->Bool}{i:Int}{t t':TypeId}{b m key:Nat}[h:a P t](d:fr.ev x=some (.pointer (some ⟨b,i.toNat,none⟩)))(hi:L.get key=some ⟨b,.cells (õ Value.bool n f).toArray t' (0,0),m⟩)(c:0<=i/\i<(n:Int)):Y0 P N ⟨dst,.load t x,ty,pos,af,g⟩ fr (St w0 G0 G L) (Value.bool (Ε f i)):=Y0.Ò key h.h d hi (tv _ _ _ c)
theorem Gq{t yt:TypeId}{k k':IntKind}{a b:Int}(d:fr.ev x=some (.int k a))(e:fr.ev y=some (.int k' b))(c:0<=b):Y0 P N ⟨dst,.binOp .shr t x y yt,ty,pos,af,g⟩ fr S (.int k (a.fdiv (2 ^ (min b.toNat k.bits)))):=Y0.shr d e c
def oI:Ŀ Value->Ŀ Value
 | []=>[]
 | v::r=>v.cells.toList++oI r
def rY:Ŀ Value->Ŀ Value
 | []=>[]
 | [v]=>v.cells.toList
 | v::w::r=>v.cells.toList++rY (w::r)
theorem Y7{t:TypeId}{n:Nat}{parts:Array (Nat×Operand)}{vs:Ŀ Value}[h':a P t n](c:fr.iv (parts.toList.map (·.2))=some vs)(_:(rY vs).length=n)(h:∀ w,(Instr.build t ((parts.toList.map (·.1)).zip vs).toArray).run P w=.ok (.agg (rY vs).toArray) w)(e:(parts.toList.map (·.1)).length=vs.length):Y0 P N ⟨dst,.build t parts,ty,pos,af,g⟩ fr S (.agg (rY vs).toArray):=by
 refine Y0.build (vs:=((parts.toList.map (·.1)).zip vs).toArray) ?_ ?_ h
 .rw[c,List.map_snd_zip (by omega)]
 rw[List.map_fst_zip (by omega)]
theorem ZyZ{t:TypeId}{v:Value}[h':a P t v](h:∀ w,(Instr.build t #[]).run P w=.ok v w):Y0 P N ⟨dst,.build t #[],ty,pos,af,g⟩ fr S v:=Y0.build (vs:=#[]) rfl rfl h
def kW:Nat->Ŀ Value->ŀ (Ŀ Value)
 | 0,l=>some l
 | _+1,[]=>none
 | n+1,_::r=>kW n r
theorem FE:∀ {n:Nat}{l r:Ŀ Value},kW n l=some r->∃ p,l=p++r/\p.length=n
 | 0,l,r,h=>⟨[],by simpa[kW]using h,rfl⟩
 | n+1,[],r,h=>by cases h
 | n+1,x::l,r,h=>by obtain⟨p,a,h2⟩:=FE (n:=n) (l:=l) (r:=r) h;exact⟨x::p,by rw[a];rfl,by simp[h2]⟩
def lY:Nat->Ŀ Value->ŀ (Ŀ Value)
 | 0,_=>some []
 | _+1,[]=>none
 | n+1,x::r=>match lY n r with
  | some s=>some (x::s)
  | none=>none
theorem L0:∀ {n:Nat}{l r:Ŀ Value},lY n l=some r->∃ q,l=r++q/\r.length=n
 | 0,l,r,h=>⟨l,by simp only[lY,ď]at h;rw[<- h];rfl,by simp only[lY,ď]at h;rw[<- h];rfl⟩
 | n+1,[],r,h=>by cases h
 | n+1,x::l,r,h=>by
  unfold lY at h;split at h
  .rename_i s c;simp only[ď]at h;obtain⟨q,a,h2⟩:=L0 c;subst h;exact⟨q,by rw[a];rfl,by simp[h2]⟩
  cases h
theorem Mn{c:Array Value}{off:Nat}{p rest vs q:Ŀ Value}(h:c.toList=p++rest)(hp:p.length=off)(h2:rest=vs++q):∀ j v,vs.toArray[j]? = some v->c[off+j]? = some v:=by
 intro j v a;have e:c=(p++(vs++q)).toArray:=by rw[<- h2,<- h]
 subst hp;rw[e];exact U3 p vs q j v a
theorem Zy5{t t':TypeId}{b off m n:Nat}{c:Array Value}{rest:Ŀ Value}[h:a P t n](j:fr.ev x=some (.pointer (some ⟨b,off,none⟩))){i:Nat}(hi:L.get i=some ⟨b,.cells c t' (0,0),m⟩)(e:kW off c.toList=some rest)(f:rest.length=n):Y0 P N ⟨dst,.load t x,ty,pos,af,g⟩ fr (St w0 G0 G L) (.agg rest.toArray):=by obtain⟨p,d,h2⟩:=FE e;exact Y0.nm rest.toArray i h.h j hi (by simpa using f) (Mn d h2 (ę rest).symm)
theorem Zy6{t t':TypeId}{b off m n:Nat}{c:Array Value}{rest vs:Ŀ Value}[h:a P t n](k:fr.ev x=some (.pointer (some ⟨b,off,none⟩))){i:Nat}(hi:L.get i=some ⟨b,.cells c t' (0,0),m⟩)(f:kW off c.toList=some rest)(j:lY n rest=some vs):Y0 P N ⟨dst,.load t x,ty,pos,af,g⟩ fr (St w0 G0 G L) (.agg vs.toArray):=by obtain⟨p,d,h2⟩:=FE f;obtain⟨q,h3,e⟩:=L0 j;exact Y0.nm vs.toArray i h.h k hi (by simpa using e) (Mn d h2 h3)
def sU:Ŀ Value->Nat->Value->ŀ (Ŀ Value)
 | [],_,_=>none
 | _::r,0,v=>some (v::r)
 | x::r,n+1,v=>match sU r n v with
  | some s=>some (x::s)
  | none=>none
theorem UC:∀ {l s:Ŀ Value}{n:Nat}{v:Value},sU l n v=some s->l.set n v=s/\n<l.length
 | [],_,_,_,h=>by cases h
 | _::r,s,0,v,h=>by simp only[sU,ď]at h;subst h;exact⟨rfl,by simp⟩
 | x::r,s,n+1,v,h=>by
  unfold sU at h;split at h
  .rename_i s' c;simp only[ď]at h;obtain⟨a,h2⟩:=UC c;subst h;exact⟨by simp[a],by simpa using h2⟩
  cases h
theorem ZyT{t t':TypeId}{b off:Nat}{c:Array Value}{s:Ŀ Value}[h:a P t 1](f:fr.ev x=some (.pointer (some ⟨b,off,none⟩)))(g:fr.ev y=some v){i:Nat}(hi:L.get i=some ⟨b,.cells c t' (0,0),0⟩)(e:sU c.toList off v=some s)(d:v.oneCell'=true)
  (k:WL P N ops Q l fr (St w0 G0 G ((i,some ⟨b,.cells s.toArray t' (0,0),0⟩)::L))):WL P N ops Q (⟨none,.store t x y,ty,pos,af,none⟩::l) fr (St w0 G0 G L):=by
 obtain⟨h2,h3⟩:=UC e
 refine WL.fL i s.toArray Zh h.h f g hi (by simpa using h3) d ?_ k
 rw[<- h2];apply ż;simp
theorem ZBC{t ty t' i b m n:Nat}{c:Array Value}[f:a P ty n](d:fr.get t=some (.pointer (some ⟨b,0,none⟩)))(h2:L.get i=some ⟨b,.cells c t' (0,0),m⟩)(e:c.size=n):RV P fr L (.cell t ty) (.agg c):=RV.pG f.h d h2 e
theorem ZBD{t:Nat}{v:Value}(a:fr.get t=some v):RV P fr L (.tmp t) v:=a
theorem x0{z:ResultVar}{v:Value} (h:RV P fr L z v:=by
 first
 | ((a apply ZBD);exact rfl)
 | ((a apply ZBC);exact rfl;(c ((repeat (first|exact lh|apply lt));all_goals exact rfl));first|exact rfl|exact Zy _ _ _)):RV P fr L z v:=h
theorem gJ{α:Type}{r:Rp α}{v:Value}{xs:Ŀ α}(h:Η r G v xs:=by first|exact zJ|exact Xy):Η r G v xs:=h
theorem HJ{α:Type}{r:Rp α}{v:Value}{xs:Ŀ α}(h:Η r G v xs:=by first|exact gJ|assumption):Η r G v xs:=h
theorem ZxA{t t':TypeId}{b n:Nat}{c c':Array Value}[h:a P t n][h':d P t n](g:fr.ev x=some (.pointer (some ⟨b,0,none⟩)))(j:fr.ev y=some (.agg c')){i:Nat}(hi:L.get i=some ⟨b,.cells c t' (0,0),0⟩)(f:c.size=n)(nI:c'.size=n)(e:c'.toList.all Value.oneCell'=true)
  (k:WL P N ops Q l fr (St w0 G0 G ((i,some ⟨b,.cells c' t' (0,0),0⟩)::L))):WL P N ops Q (⟨none,.store t x y,ty,pos,af,none⟩::l) fr (St w0 G0 G L):=WL.fp i Zh h'.h g j hi f nI (Ć.1 e) k
theorem ZBk(h:fr.ev x=some v)(a:Ω N dst)(k:WL P N ops Q l (θ dst v fr) S):WL P N ops Q (⟨dst,.move x,ty,pos,af,none⟩::l) fr S:=mv h a k
theorem ZBl(h:fr.ev x=some v)(a:Ω N dst)(k:WL P N ops Q l (θ dst v fr) S):WL P N ops Q (⟨dst,.assign x,ty,pos,af,none⟩::l) fr S:=sg h a k
theorem Yi{t:TypeId}{i:Nat}(c:fr.ev x=some v)(a:Ω N (some i))
  (k:∀ b,WL P N ops Q l (θ (some i) (.pointer (some ⟨b,0,none⟩)) fr) (St w0 G0 G ((i,some ⟨b,.cells v.cells t (0,0),0⟩)::L))):WL P N ops Q (⟨some i,.box t x,ty,pos,af,none⟩::l) fr (St w0 G0 G L):=WL.box i Zh c a k
theorem ZBm{β:Type}{p:Prop}{d:Decidable p}{A B:Cq β}{Φ:β->Prop}{c:Operand}{x y:Code}(hr:(@ite _ p d A B).wp Φ)(e:fr.ev c=some (.bool (@decide p d)))(g:p->A.wp Φ->WC P N x Q fr S)(f:¬ p->B.wp Φ->WC P N y Q fr S):WC P N (.cond c x y) Q fr S:=WC.cr hr e g f
class a (P:Program):Prop where
 h:P.follows .mixedOrders=true
structure Dr (fs:Ŀ Bool) (p:Prop):Prop where
 h:p
def vW:Ŀ Oper->Ŀ Bool
 | []=>[]
 | _::r=>false::vW r
def sj:Ŀ Bool->ŀ (Ŀ Bool)
 | []=>some []
 | b::r=>match sj r with
  | some s=>some (b::s)
  | none=>none
theorem ZBn{id:Nat}{fs:Ŀ Bool}[d:a P](c:jb N l fs=true)(h:Mem.le G0 G->γ P N Q fr w0 G0 G L l.toArray (λ_=>True) fs l [] []):Dr fs (WC P N (.region id l.toArray true) Q fr (St w0 G0 G L)):=⟨WC.drawn fs d.h c h⟩
theorem ZBo{id:Nat}{fs:Ŀ Bool}(_:jE .any l fs=true)(h:Dr fs (WC P N (.region id l.toArray true) Q fr S)):Dr (false::fs) (WC P N (.region id l.toArray true) Q fr S):=⟨h.h⟩
theorem Y2{id:Nat}{fs:Ŀ Bool}(_:sj (vW l)=some fs)(h:Dr fs (WC P N (.region id l.toArray true) Q fr (St w0 G0 G L))):WC P N (.region id l.toArray true) Q fr (St w0 G0 G L):=h.h
section
variable {Bt:Ο}{fs:Ŀ Bool}{Κ:Fr}
theorem Wh{v:Value}(h:∀ G',Mem.le G G'->Y0 P N ⟨dst,op,ty,pos,af,none⟩ (Κ++fr) (St w0 G0 G' L) v)(k:γ P N Q fr w0 G0 G L ops Bt fs l (θ dst v Κ) []):γ P N Q fr w0 G0 G L ops Bt (false::fs) (⟨dst,op,ty,pos,af,none⟩::l) Κ []:=cn h k
theorem ZzI{f:FuncId}{c:Value}{pre:Mem->Prop}{xs:Array Operand}{a:Array TypeId}{vs:Ŀ Value}(d:Enters P f)(e:(Κ++fr).iv xs.toList=some vs)(h:iJ P f vs.toArray pre (λ_ u=>u=c))(hp:∀ G',Mem.le G G'->pre G')
  (k:γ P N Q fr w0 G0 G L ops Bt fs l (θ dst c Κ) []):γ P N Q fr w0 G0 G L ops Bt (false::fs) (⟨dst,.call ⟨.value (.func f),xs,a⟩,ty,pos,af,none⟩::l) Κ []:=γ.gS Zh (λ_=>YC.of d e) h rfl hp k
theorem Zya{f:FuncId}{c:Value}{pre:Mem->Prop}{xs:Array Operand}{a:Array TypeId}{vs:Ŀ Value}{j d:Nat}{b:Bool}(g:Enters P f)(e:(ops[j]?).bind (·.dst)=some d)(h2:(Κ++fr).get d=some (.bool b))(i:(Κ++fr).iv xs.toList=some vs)(h:iJ P f vs.toArray pre (λ_ u=>u=c))(hp:∀ G',Mem.le G G'->pre G')
  (k:γ P N Q fr w0 G0 G L ops Bt fs l (θ dst c Κ) []):γ P N Q fr w0 G0 G L ops Bt (false::fs) (⟨dst,.call ⟨.value (.func f),xs,a⟩,ty,pos,af,some (j,b)⟩::l) Κ []:=γ.gS (rM e h2) (λ_=>YC.of g i) h rfl hp k
theorem Yn{α:Type}{t e:TypeId}{r:Rp α}{n m cap:Nat}{p:ŀ Addr}{k:IntKind}{i:Int}{xs:Ŀ α}{z:α}{D:Mem->(Nat->Value->Prop)->Nat->Prop}[g:f P t (.slice e)][h2:d P e m](s:(Κ++fr).ev x=some (.slice p n cap))(v:(Κ++fr).ev y=some (.int k i))(hi:0<=i/\xs[i.toNat]? = some z)(h:Η r G (.slice p n cap) xs)(j:c r z D)(q:r.size=m)
  (kk:D G (λk u=>G (pb p) k=some u) (po p+i.toNat*m)->γ P N Q fr w0 G0 G L ops Bt fs l (θ dst (.pointer (some ⟨pb p,po p+i.toNat*m,none⟩)) Κ) []):γ P N Q fr w0 G0 G L ops Bt (false::fs) (⟨dst,.indexAddr t x y,ty,pos,af,none⟩::l) Κ []:=
 cn (λ_ a=>Y0.lN g.h h2.h (h.mono a) s v hi) (kk (q ▸ j.h (Η.at h hi)))
end
section
variable {fs:Ŀ Bool}{Κ:Fr}{Bt:Ο}{Τ:jj}
theorem Yr{post:Mem->Value->Prop} (h:∀ v e f,Mem.le e f->post e v->post f v:=by
 first
 | exact λ_ _ _ _ h=>h
 | (rintro _ _ _ zh ⟨_,_,rfl,a⟩;exact⟨_,_,rfl,a.mono zh⟩)
 | (rintro _ _ _ zh ⟨_,_,_,_,rfl,a,b⟩;exact⟨_,_,_,_,rfl,a.mono zh,b.mono zh⟩)
 | (rintro _ _ _ zh ⟨_,_,_,_,_,_,rfl,a,b,c⟩;exact⟨_,_,_,_,_,_,rfl,a.mono zh,b.mono zh,c.mono zh⟩)
 | (rintro _ _ _ zh ⟨_,_,_,_,_,_,_,_,rfl,a,b,c,d⟩;exact⟨_,_,_,_,_,_,_,_,rfl,a.mono zh,b.mono zh,c.mono zh,d.mono zh⟩)):∀ v e f,Mem.le e f->post e v->post f v:=h
theorem ZzJ{f:FuncId}{d:Nat}{pre:Mem->Prop}{post:Mem->Value->Prop}{xs:Array Operand}{e:Array TypeId}{vs:Ŀ Value}(i:Enters P f)(m:∀ u,(ς Τ u++(Κ++fr)).iv xs.toList=some vs)(h:iJ P f vs.toArray pre post)(j:∀ v a c,Mem.le a c->post a v->post c v)(hp:∀ G',Mem.le G G'->pre G')
  (k:γ P N Q fr w0 G0 G L ops Bt fs l Κ ((d,λv g=>post g.m v)::Τ)):γ P N Q fr w0 G0 G L ops Bt (false::fs) (⟨some d,.call ⟨.value (.func f),xs,e⟩,ty,pos,af,none⟩::l) Κ Τ:=γ.pF (λ_=>Zh) (λu _=>YC.of i (m u)) h rfl hp j k
theorem ZBq{v:Value}(h:∀ u G',Mem.le G G'->Y0 P N ⟨dst,op,ty,pos,af,none⟩ (ς Τ u++(Κ++fr)) (St w0 G0 G' L) v)(k:γ P N Q fr w0 G0 G L ops Bt fs l (θ dst v Κ) Τ):γ P N Q fr w0 G0 G L ops Bt (false::fs) (⟨dst,op,ty,pos,af,none⟩::l) Κ Τ:=γ.OE (λ_=>Zh) h k
theorem h_f{v:Value}(h:Y0 P N ⟨dst,op,ty,pos,af,none⟩ (Κ++fr) (λ_=>True) v)(k:γ P N Q fr w0 G0 G L ops Bt fs l (θ dst v Κ) []):γ P N Q fr w0 G0 G L ops Bt (true::fs) (⟨dst,op,ty,pos,af,none⟩::l) Κ []:=γ.float Zh h k
theorem ZBp{v:Value}(h:∀ u,Y0 P N ⟨dst,op,ty,pos,af,none⟩ (ς Τ u++(Κ++fr)) (λ_=>True) v)(k:γ P N Q fr w0 G0 G L ops Bt fs l (θ dst v Κ) Τ):γ P N Q fr w0 G0 G L ops Bt (true::fs) (⟨dst,op,ty,pos,af,none⟩::l) Κ Τ:=γ.si (λ_=>Zh) h k
end
def sF:Ŀ Value->Nat->Ŀ Value->ŀ (Ŀ Value)
 | l,0,[]=>some l
 | _::l,0,c::cs=>match sF l 0 cs with
  | some s=>some (c::s)
  | none=>none
 | x::l,n+1,cs=>match sF l n cs with
  | some s=>some (x::s)
  | none=>none
 | [],_,_=>none
section
variable {t n i j k k':Nat}{z:Value}{u v:Value}{s s':Ŀ Value}
theorem YJ[f:c P t z][e:a P t i k](d:fr.ev x=some v)(_:sF z.cells.toList k v.cells.toList=some s)(h:∀ w,(Instr.build t #[(i,v)]).run P w=.ok (.agg s.toArray) w):Y0 P N ⟨dst,.build t #[(i,x)],ty,pos,af,g⟩ fr S (.agg s.toArray):=Y0.build (vs:=#[(i,v)]) (by simp[Fr.iv,d]) rfl h
theorem YK[m:c P t z][f:a P t i k][l:a P t j k'](d:fr.ev x=some v)(e:fr.ev y=some u)(_:sF z.cells.toList k v.cells.toList=some s)(_:sF s k' u.cells.toList=some s')(h:∀ w,(Instr.build t #[(i,v),(j,u)]).run P w=.ok (.agg s'.toArray) w):Y0 P N ⟨dst,.build t #[(i,x),(j,y)],ty,pos,af,g⟩ fr S (.agg s'.toArray):=Y0.build (vs:=#[(i,v),(j,u)]) (by simp[Fr.iv,d,e]) rfl h
end
theorem Zy0{α:Type}{r:Rp α}{t e d:TypeId}{m n cap:Nat}{p:ŀ Addr}{k:IntKind}{i:Int}{xs:Ŀ α}{z:α}{tk:ŀ Ow}[f:c P t (.slice e)][h2:a P e m](j:fr.ev x=some (.slice p n cap))(l:fr.ev y=some (.int k i))(h:Γ r d G (.slice p n cap) xs tk)(hi:0<=i/\xs[i.toNat]? = some z):Y0 P N ⟨dst,.indexAddr t x y,ty,pos,af,g⟩ fr S (.pointer (some ⟨pb p,i.toNat*m,none⟩)):=Y0.oN f.h h2.h h j l hi
theorem ZyU{α:Type}{r:Rp α}{t e key:Nat}{p:ŀ Addr}{n cap sz:Nat}{val:Value}{cs':Ŀ Value}{i:Int}{xs:Ŀ α}{z z':α}{tk:ŀ Ow}[m:j P t sz](q:fr.ev x=some (.pointer (some ⟨pb p,i.toNat*sz,none⟩)))(s:fr.ev y=some val)(h:Γ r e G (.slice p n cap) xs tk)(f:L.get key=tk)(g:sz=r.size)(c:val.cells=cs'.toArray)(a:r.fh G cs' z')(hi:0<=i/\xs[i.toNat]? = some z)
  (k:∀ d,Γ r e G (.slice p n cap) (xs.set i.toNat z') d->WL P N ops Q l fr (St w0 G0 G ((key,d)::L))):WL P N ops Q (⟨none,.store t x y,ty,pos,af,none⟩::l) fr (St w0 G0 G L):=WL.storeT key Zh m.h g h f q s c a hi k
theorem Y3{α:Type}{r:Rp α}{t e i sz:Nat}{z:Value}{bytes:Nat}{k k':IntKind}{n:Int}{zx:α}[u:h P t (.slice e)][m:f P e z sz bytes](_:g P e α r)(v:fr.ev x=some (.int k n))(A:fr.ev y=some (.int k' n))(s:0<=n/\n<=1000000)(q:Ω N (some i))(B:sz=r.size)(d:z.cells.size=r.size)(c:Nat.ble bytes 100000=true)(j:Nat.blt 0 r.size=true)(a:r.fh G z.cells.toList zx)
  (kk:∀ p tk,Γ r e G (.slice p n.toNat n.toNat) (List.replicate n.toNat zx) tk->WL P N ops Q l (θ (some i) (.slice p n.toNat n.toNat) fr) (St w0 G0 G ((4000+i,tk)::L))):WL P N ops Q (⟨some i,.makeSlice t x y,ty,pos,af,none⟩::l) fr (St w0 G0 G L):=WL.we (4000+i) Zh q u.h (B ▸ m.h) d (Š c) (Š j) a v A s kk
theorem en1{f:FuncId}{fn:Func}{c:Code}{args:Ŀ Value}{a:Lo}{pre:Mem->Prop}{post:Mem->Lo->Value->Prop}(i:P.funcs[f]? = some fn)(g:fn.body=some c)(d:fn.ntmps=N)(e:Nat.ble args.length N=true)
  (h:∀ w0 G0,w0.L=a->pre G0->WC P N c (bodyPost P fn (jJ w0 G0 post)) (ko args 0) (St w0 G0 G0 a)):eO P f args.toArray a pre post:=eO.enter i g d e h
theorem zr0(h:w0.L=[]):w0.L.zero:=by rw[h];exact λ_ h=>nomatch h
theorem zr1{α:Type}{r:Rp α}{e:TypeId}{v:Value}{xs:Ŀ α}{k:Nat}{tk:ŀ Ow}(h:w0.L=[(k,tk)])(h2:Γ r e G v xs tk):w0.L.zero:=by rw[h];intro p hp x a;simp only[Ď,ĝ,ţ]at hp;subst hp;exact Γ.zero h2 a
theorem tM (h:w0.L.zero:=by
 first
 | assumption
 | exact zr0 (by assumption)
 | (apply zr1;assumption;assumption)):w0.L.zero:=h
theorem ls1{k:Nat}{i:ŀ Ow}(h:L.get k=i):Lo.sub [(k,i)] L:=Lo.Zi h (Lo.Zw _)
theorem YZ{f:FuncId}{a:Lo}{pre:Mem->Prop}{post:Mem->Lo->Value->Prop}{xs:Array Operand}{c:Array TypeId}{vs:Ŀ Value}(g:Enters P f)(i:fr.iv xs.toList=some vs)(h:eO P f vs.toArray a pre post)(e:Ω N dst)(d:Lo.sub a L)(j:w0.L.zero)(hp:pre G)
  (k:∀ v G' L',Mem.le G G'->post G' L' v->WL P N ops Q l (θ dst v fr) (St w0 G0 G' (L'++L.gn (a.map (·.1))))):WL P N ops Q (⟨dst,.call ⟨.value (.func f),xs,c⟩,ty,pos,af,none⟩::l) fr (St w0 G0 G L):=WL.jX Zh e (YC.of g i) h rfl hp d j k
theorem wr_{fn:Func}{a:ResultVar}{c:Value}{post:Mem->Lo->Value->Prop}{R:ŀ Ow}{k:Nat}(hr:fn.results = #[a])(d:RV P fr [(k,R)] a c)(hp:post G [(k,R)] c)(e:L.get k=R):WE N (bodyPost P fn (jJ w0 G0 post)) .ret fr (St w0 G0 G L):=WE.ö (λ_ h=>h.weaken (Lo.Zi e (Lo.Zw _))) (WE.jQ hr d hp)
theorem iT{L L':Lo}(h:Lo.sub L' L:=by((repeat (first|exact Lo.Zw _|refine Lo.Zi rfl ?_|refine Lo.Gn ?_));a refine ?_)):Lo.sub L' L:=h
section
variable {X σ:Type}{F:X->Fr}{H:X->Prop}{I:X->Ο}{π:X->σ}{A:σ->Prop}
theorem qE{x':X}(a:A (π x'))(h:Fr.sub (F x') fr/\(∀ w,S w->I x' w)/\H x'):WE N (Exit.then (jm N F H I π A) Q) .normal fr S:=WE.vI x' a h.2.2 h.1 h.2.1
theorem qF{m:X->Prop}{x':X}(hr:m x')(h:Fr.sub (F x') fr/\(∀ w,S w->I x' w)/\H x'):WE N (Exit.then (ma N F (λx=>m x/\H x) I) Q) .normal fr S:=WE.oQ x' ⟨hr,h.2.2⟩ h.1 h.2.1
theorem qG{m:X->Prop}{x':X}(hr:m x')(h:Fr.sub (F x') fr/\(∀ w,S w->I x' w)/\H x'):WE N (k8 N F (λx=>m x/\H x) I Q) .normal fr S:=WE.BR x' ⟨hr,h.2.2⟩ h.1 h.2.1
theorem Nx(h:WE N (Exit.then (jm N F H I π A) Q) .normal fr S):WE N (Exit.then (jm N F H I π A) Q) .normal fr S:=h
theorem Ny(h:WE N (Exit.then (ma N F H I) Q) .normal fr S):WE N (Exit.then (ma N F H I) Q) .normal fr S:=h
theorem Nz(h:WE N (k8 N F H I Q) .normal fr S):WE N (k8 N F H I Q) .normal fr S:=h
end
theorem Yl{β:Type}{b:Bool}{g:Decidable (b=true)}{A B:Cq β}{Φ:β->Prop}{j d:Nat}{c:Bool}(hr:(@ite _ (b=true) g A B).wp Φ)(m:(ops[j]?).bind (·.dst)=some d)(h2:fr.get d=some (.bool b))
  (kt:A.wp Φ->WL P N ops Q (⟨dst,op,ty,pos,af,some (j,c)⟩::l) ((d,.bool true)::fr) S) (k:B.wp Φ->WL P N ops Q (⟨dst,op,ty,pos,af,some (j,c)⟩::l) ((d,.bool false)::fr) S):WL P N ops Q (⟨dst,op,ty,pos,af,some (j,c)⟩::l) fr S:=by
 intro a w i f
 have key:∀ b',b=b'->Rel N ((d,.bool b')::fr) a:=λb' e=>i.weaken (Fr.Zi (by rw[h2,e]) λ_ _ h=>h)
 cases b with
 | true=>exact kt (by simpa using hr) a w (key _ rfl) f
 | false=>exact k (by simpa using hr) a w (key _ rfl) f
theorem Yp{β:Type}{o':BinOp}{t yt:TypeId}{p:Prop}{d:Decidable p}{A B:Cq β}{Φ:β->Prop}(hr:(@ite _ p d A B).wp Φ)(h:Y0 P N ⟨dst,.binOp o' t x y yt,ty,pos,af,none⟩ fr S (.bool (@decide p d)))(a:Ω N dst)
  (kt:p->A.wp Φ->WL P N ops Q l (θ dst (.bool true) fr) S) (c:¬ p->B.wp Φ->WL P N ops Q l (θ dst (.bool false) fr) S):WL P N ops Q (⟨dst,.binOp o' t x y yt,ty,pos,af,none⟩::l) fr S:=WL.cr hr Zh h a kt c
theorem YE{β:Type}{o':BinOp}{t yt:TypeId}{p:Prop}{d:Decidable p}{A B:Cq β}{Φ:β->Prop}{j e:Nat}{c:Bool}(hr:(@ite _ p d A B).wp Φ)(a:(ops[j]?).bind (·.dst)=some e)(h2:fr.get e=some (.bool c))(h:Y0 P N ⟨dst,.binOp o' t x y yt,ty,pos,af,some (j,c)⟩ fr S (.bool (@decide p d)))(f:Ω N dst)
  (kt:p->A.wp Φ->WL P N ops Q l (θ dst (.bool true) fr) S) (g:¬ p->B.wp Φ->WL P N ops Q l (θ dst (.bool false) fr) S):WL P N ops Q (⟨dst,.binOp o' t x y yt,ty,pos,af,some (j,c)⟩::l) fr S:=WL.cr hr (rM a h2) h f kt g
theorem Ym{Bt:Ο}{fs:Ŀ Bool}{Κ:Fr}{β:Type}{o':BinOp}{t yt:TypeId}{p:Prop}{d:Decidable p}{A B:Cq β}{Φ:β->Prop}(hr:(@ite _ p d A B).wp Φ)(h:∀ G',Mem.le G G'->Y0 P N ⟨dst,.binOp o' t x y yt,ty,pos,af,none⟩ (Κ++fr) (St w0 G0 G' L) (.bool (@decide p d)))
  (kt:p->A.wp Φ->γ P N Q fr w0 G0 G L ops Bt fs l (θ dst (.bool true) Κ) []) (a:¬ p->B.wp Φ->γ P N Q fr w0 G0 G L ops Bt fs l (θ dst (.bool false) Κ) []):γ P N Q fr w0 G0 G L ops Bt (false::fs) (⟨dst,.binOp o' t x y yt,ty,pos,af,none⟩::l) Κ []:=γ.cr hr Zh h kt a
theorem Yz{Bt:Ο}{fs:Ŀ Bool}{Κ:Fr}{β:Type}{o':BinOp}{t yt:TypeId}{p:Prop}{d:Decidable p}{A B:Cq β}{Φ:β->Prop}{j e:Nat}{c:Bool}(hr:(@ite _ p d A B).wp Φ)(a:(ops[j]?).bind (·.dst)=some e)(h2:(Κ++fr).get e=some (.bool c))(h:∀ G',Mem.le G G'->Y0 P N ⟨dst,.binOp o' t x y yt,ty,pos,af,some (j,c)⟩ (Κ++fr) (St w0 G0 G' L) (.bool (@decide p d)))
  (kt:p->A.wp Φ->γ P N Q fr w0 G0 G L ops Bt fs l (θ dst (.bool true) Κ) []) (f:¬ p->B.wp Φ->γ P N Q fr w0 G0 G L ops Bt fs l (θ dst (.bool false) Κ) []):γ P N Q fr w0 G0 G L ops Bt (false::fs) (⟨dst,.binOp o' t x y yt,ty,pos,af,some (j,c)⟩::l) Κ []:=γ.cr hr (rM a h2) h kt f
theorem YI{α:Type}{t e:TypeId}{r:Rp α}{n m cap j d:Nat}{c:Bool}{p:ŀ Addr}{k:IntKind}{i:Int}{xs:Ŀ α}{z:α}{D:Mem->(Nat->Value->Prop)->Nat->Prop}[v:g P t (.slice e)][h2:f P e m](q:(ops[j]?).bind (·.dst)=some d)(s:fr.get d=some (.bool c))(E:fr.ev x=some (.slice p n cap))(F:fr.ev y=some (.int k i))(hi:0<=i/\xs[i.toNat]? = some z)(h:Η r G (.slice p n cap) xs)(A:a r z D)(C:r.size=m)(B:Ω N dst)
  (kk:D G (λk u=>G (pb p) k=some u) (po p+i.toNat*m)->WL P N ops Q l (θ dst (.pointer (some ⟨pb p,po p+i.toNat*m,none⟩)) fr) (St w0 G0 G L)):WL P N ops Q (⟨dst,.indexAddr t x y,ty,pos,af,some (j,c)⟩::l) fr (St w0 G0 G L):=
 gy q s (Y0.lN v.h h2.h h E F hi) B (kk (C ▸ A.h (Η.at h hi)))
theorem YA{Bt:Ο}{fs:Ŀ Bool}{Κ:Fr}{α:Type}{t e:TypeId}{r:Rp α}{n m cap j d:Nat}{c:Bool}{p:ŀ Addr}{k:IntKind}{i:Int}{xs:Ŀ α}{z:α}{D:Mem->(Nat->Value->Prop)->Nat->Prop}[A:q P t (.slice e)][h2:g P e m](s:(ops[j]?).bind (·.dst)=some d)(v:(Κ++fr).get d=some (.bool c))(E:(Κ++fr).ev x=some (.slice p n cap))(F:(Κ++fr).ev y=some (.int k i))(hi:0<=i/\xs[i.toNat]? = some z)(h:Η r G (.slice p n cap) xs)(B:f r z D)(C:r.size=m)
  (kk:D G (λk u=>G (pb p) k=some u) (po p+i.toNat*m)->γ P N Q fr w0 G0 G L ops Bt fs l (θ dst (.pointer (some ⟨pb p,po p+i.toNat*m,none⟩)) Κ) []):γ P N Q fr w0 G0 G L ops Bt (false::fs) (⟨dst,.indexAddr t x y,ty,pos,af,some (j,c)⟩::l) Κ []:=
 cy s v (λ_ a=>Y0.lN A.h h2.h (h.mono a) E F hi) (kk (C ▸ B.h (Η.at h hi)))
section
variable {t e yt:TypeId}
theorem YM{a b:Bool}[h:c P t .bool](d:fr.ev x=some (.bool a))(e:fr.ev y=some (.bool b)):Y0 P N ⟨dst,.binOp .eql t x y yt,ty,pos,af,g⟩ fr S (.bool (decide (a=b))):=Y0.M3 h.h d e
theorem YQ{a b:Bool}[h:c P t .bool](d:fr.ev x=some (.bool a))(e:fr.ev y=some (.bool b)):Y0 P N ⟨dst,.binOp .neq t x y yt,ty,pos,af,g⟩ fr S (.bool (decide (¬ a=b))):=Y0.N9 h.h d e
theorem YN{a b:Ĳ}[h:c P t .string](d:fr.ev x=some (.string a))(e:fr.ev y=some (.string b)):Y0 P N ⟨dst,.binOp .eql t x y yt,ty,pos,af,g⟩ fr S (.bool (decide (a=b))):=Y0.uz h.h d e
theorem YO{k:IntKind}{n:Nat}{a b:Fin n->Int}[l:c P t (.array n e)][i:c P e (.int k)][j:f P e][q:h P e 1](d:P.eqGuardType P.depth t=false)(m:fr.ev x=some (.agg (jU k n a).toArray))(p:fr.ev y=some (.agg (jU k n b).toArray)):Y0 P N ⟨dst,.binOp .eql t x y yt,ty,pos,af,g⟩ fr S (.bool (decide (a=b))):=Y0.M4 l.h i.h j.h q.h d m p
theorem YT{k:IntKind}{n:Nat}{a b:Fin n->Int}[l:c P t (.array n e)][i:c P e (.int k)][j:f P e][q:h P e 1](d:P.eqGuardType P.depth t=false)(m:fr.ev x=some (.agg (jU k n a).toArray))(p:fr.ev y=some (.agg (jU k n b).toArray)):Y0 P N ⟨dst,.binOp .neq t x y yt,ty,pos,af,g⟩ fr S (.bool (decide (¬ a=b))):=Y0.Ob l.h i.h j.h q.h d m p
theorem ZBi{p:ŀ Addr}{n c:Nat}[h:a P t (.slice e)](d:fr.ev x=some (.slice p n c)):Y0 P N ⟨dst,.call ⟨.builtin .cap,#[x],#[t]⟩,ty,pos,af,g⟩ fr S (.int .i64 (c:Int)):=Y0.BA h.h d
theorem YP{s:Ĳ}[h:a P t .string](c:fr.ev x=some (.string s)):Y0 P N ⟨dst,.call ⟨.builtin .len,#[x],#[t]⟩,ty,pos,af,g⟩ fr S (.int .i64 (s.size:Int)):=Y0.CF h.h c
theorem Fq{a:IntKind}{k:IntKind}{i:Int}{n:Nat}{f:Fin n->Int}[h:j P t (.array n e)][l:c P e][q:d P e 1](m:fr.ev x=some (.agg (õ (Value.int a) n f).toArray))(p:fr.ev y=some (.int k i))(hi:0<=i/\i<n):Y0 P N ⟨dst,.index t x y,ty,pos,af,g⟩ fr S (Value.int a (Ε f i)):=Y0.index h.h l.h q.h m p hi (tv _ _ _ hi)
theorem Fp{k:IntKind}{i:Int}{n:Nat}{f:Fin n->Bool}[h:d P t (.array n e)][j:a P e][p:c P e 1](l:fr.ev x=some (.agg (õ Value.bool n f).toArray))(m:fr.ev y=some (.int k i))(hi:0<=i/\i<n):Y0 P N ⟨dst,.index t x y,ty,pos,af,g⟩ fr S (Value.bool (Ε f i)):=Y0.index h.h j.h p.h l m hi (tv _ _ _ hi)
theorem FO{s:Ĳ}{k:IntKind}{i:Int}[h:a P t .string](c:fr.ev x=some (.string s))(d:fr.ev y=some (.int k i))(hi:0<=i/\i<(s.size:Int)):Y0 P N ⟨dst,.index t x y,ty,pos,af,g⟩ fr S (.int .u8 (eQ s i)):=Y0.sn h.h c d hi
theorem Gh{len b m:Nat}{k:IntKind}{i:Int}[d:c P t (.array len e)][j:a P e m](f:fr.ev x=some (.pointer (some ⟨b,0,none⟩)))(h:fr.ev y=some (.int k i))(hi:0<=i/\i<len):Y0 P N ⟨dst,.indexAddr t x y,ty,pos,af,g⟩ fr S (.pointer (some ⟨b,i.toNat*m,none⟩)):=Y0.vY d.h j.h f h hi
theorem ZvR{fn:Fn}{first a:Array Operand}{c d:Ŀ Value}(e:fr.iv first.toList=some c)(h2:fr.iv a.toList=some d):Y0 P N ⟨dst,.makeFunc fn first a,ty,pos,af,g⟩ fr S (.func fn c.toArray d.toArray):=Y0.makeFunc e h2
end
theorem en0{f:FuncId}{fn:Func}{c:Code}{args:Ŀ Value}{pre:Mem->Prop}{post:Mem->Value->Prop}(g:P.funcs[f]? = some fn)(e:fn.body=some c)(a:fn.ntmps=N)(d:Nat.ble args.length N=true)
  (h:∀ w0 G0,w0.L=[]->pre G0->WC P N c (bodyPost P fn (vc w0 G0 post)) (ko args 0) (St w0 G0 G0 [])):iJ P f args.toArray pre post:=iJ.enter g e a d h
section
variable {α:Type}{r:Rp α}
theorem ZyD:ý r G (oI []) []:=rfl
theorem Zxk{v:Value}{vs:Ŀ Value}{x:α}{xs:Ŀ α}(h:r.fh G v.cells.toList x)(h2:ý r G (oI vs) xs):ý r G (oI (v::vs)) (x::xs):=⟨_,_,rfl,h,h2⟩
theorem Mt{r:Rp α}{v:Value}{xs:Ŀ α}(h:Η r G v xs)(e:v.cells.toList=[v]):(Rp.sl r).fh G v.cells.toList xs:=⟨v,e,h⟩
theorem ZBf{t e:TypeId}{len:Nat}{parts:Array (Nat×Operand)}{vs:Ŀ Value}{xs:Ŀ α}{f:Lo}[A:i P t (.slice e)](_:g P e α r)(y:fr.iv (parts.toList.map (·.2))=some vs)(c:ý r G (oI vs) xs)(v:(parts.toList.map (·.1)).length=vs.length)(a:xs.length=len)(d:len<=small)
  (h:∀ w,(Instr.buildSlice t len ((parts.toList.map (·.1)).zip vs).toArray).run P w=.ok (.slice (some ⟨w.heap.size,0,none⟩) len len) (w.alloc (.cells (oI vs).toArray e))) (s:w0.L=f) (q:f.get 999=none) (x:L.get 999=none) (u:Ω N dst)
  (k:∀ p G',Mem.le G G'->Η r G' (.slice p len len) xs->WL P N ops Q l (θ dst (.slice p len len) fr) (St w0 G0 G' L)):WL P N ops Q (⟨dst,.buildSlice t len parts,ty,pos,af,none⟩::l) fr (St w0 G0 G L):=by
 have j:fr.iv (parts.toList.map (·.2))=some ((((parts.toList.map (·.1)).zip vs).toArray).toList.map (·.2)):=by rw[y,List.map_snd_zip (by omega)]
 have m:parts.toList.map (·.1)=(((parts.toList.map (·.1)).zip vs).toArray).toList.map (·.1):=by rw[List.map_fst_zip (by omega)]
 have n:w0.L.get 999=none:=by rw[s];exact q
 exact WL.qP (key:=999) (e:=e) (r:=r) (cs:=oI vs) xs Zh u j m a d h c x n k
theorem YG{t e:TypeId}{z:Value}{s:Operand}{sz bytes m c id:Nat}{v:Value}{xs ys:Ŀ α}{p:ŀ Addr}{tk:ŀ Ow}[A:n P t (.slice e)][q:j P e z sz bytes](y:fr.ev s=some v)(C:fr.ev x=some (.slice p m c))(B:Γ r e G v xs tk)(g:L.get id=tk)(D:Η r G (.slice p m c) ys)(h:(xs++ys).length<=small)(E:sz=r.size)(i:z.cells.size=r.size)(f:bytes<=100000)(u:Ω N dst)
  (k:∀ p' a d,Γ r e G (.slice p' (xs++ys).length a) (xs++ys) d->WL P N ops Q l (θ dst (.slice p' (xs++ys).length a) fr) (St w0 G0 G ((id,d)::L))) :
  WL P N ops Q (⟨dst,.call ⟨.builtin .append,#[s,x],#[t,t]⟩,ty,pos,af,none⟩::l) fr (St w0 G0 G L):=WL.iP id Zh u A.h (E ▸ q.h) i f y C B g D h k
end
theorem ZxC{t t':TypeId}{b n:Nat}{a:IntKind}{f:Fin n->Int}{i u:Int}{key:Nat}[h:c P t 1](d:fr.ev x=some (.pointer (some ⟨b,i.toNat,none⟩)))(e:fr.ev y=some (.int a u))(hi:L.get key=some ⟨b,.cells (õ (Value.int a) n f).toArray t' (0,0),0⟩)(g:0<=i/\i<(n:Int))
  (k:WL P N ops Q l fr (St w0 G0 G ((key,some ⟨b,.cells (õ (Value.int a) n (ζ f i.toNat u)).toArray t' (0,0),0⟩)::L))):WL P N ops Q (⟨none,.store t x y,ty,pos,af,none⟩::l) fr (St w0 G0 G L):=
 WL.fL key _ Zh h.h d e hi (by rw[Zy];omega) rfl (vx _ _ _ _ _) k
theorem ZxB{t t':TypeId}{b n:Nat}{f:Fin n->Bool}{i:Int}{u:Bool}{key:Nat}[h:a P t 1](c:fr.ev x=some (.pointer (some ⟨b,i.toNat,none⟩)))(d:fr.ev y=some (.bool u))(hi:L.get key=some ⟨b,.cells (õ Value.bool n f).toArray t' (0,0),0⟩)(e:0<=i/\i<(n:Int))
  (k:WL P N ops Q l fr (St w0 G0 G ((key,some ⟨b,.cells (õ Value.bool n (ζ f i.toNat u)).toArray t' (0,0),0⟩)::L))):WL P N ops Q (⟨none,.store t x y,ty,pos,af,none⟩::l) fr (St w0 G0 G L):=
 WL.fL key _ Zh h.h c d hi (by rw[Zy];omega) rfl (vx _ _ _ _ _) k
theorem sI{b o d n:Nat}{cells:Array Value}{rest vs q:Ŀ Value}(h:∀ j u,cells[j]? = some u->(λk u=>G b k=some u) (o+j) u)(c:kW d cells.toList=some rest)(h2:rest=vs++q):∀ j v,vs.toArray[j]? = some v->G b (o+d+j)=some v:=by obtain⟨p,h3,a⟩:=FE c;intro j v e;have:=h _ _ (Mn h3 a h2 j v e);rwa [<- š]at this
theorem Zy2{t:TypeId}{b o d n:Nat}{c:Mem}{cells:Array Value}{rest:Ŀ Value}[h:e P t n](p:fr.ev x=some (.pointer (some ⟨b,o+d,none⟩)))(f:∀ j u,cells[j]? = some u->(λk u=>c b k=some u) (o+j) u)(a:Mem.le c G)(i:kW d cells.toList=some rest)(l:rest.length=n):Y0 P N ⟨dst,.load t x,ty,pos,af,g⟩ fr (St w0 G0 G L) (.agg rest.toArray):=
 Y0.jw rest.toArray h.h p (by simpa using l) (λj v m=>a _ _ _ (sI (n:=n) f i (ę rest).symm j v m))
theorem Zy3{t:TypeId}{b o d n:Nat}{c:Mem}{cells:Array Value}{rest vs:Ŀ Value}[h:e P t n](r:fr.ev x=some (.pointer (some ⟨b,o+d,none⟩)))(i:∀ j u,cells[j]? = some u->(λk u=>c b k=some u) (o+j) u)(a:Mem.le c G)(l:kW d cells.toList=some rest)(m:lY n rest=some vs):Y0 P N ⟨dst,.load t x,ty,pos,af,g⟩ fr (St w0 G0 G L) (.agg vs.toArray):=by obtain⟨q,h3,f⟩:=L0 m;exact Y0.jw vs.toArray h.h r (by simpa using f) (λj v p=>a _ _ _ (sI (n:=n) i l h3 j v p))
theorem ZxJ{t:TypeId}{b o n:Nat}{c:Mem}{d:IntKind}{f:Fin n->Int}{i:Int}[h:e P t](p:fr.ev x=some (.pointer (some ⟨b,o+i.toNat,none⟩)))(m:∀ j u,(õ (Value.int d) n f).toArray[j]? = some u->(λk u=>c b k=some u) (o+j) u)(a:Mem.le c G)(l:0<=i/\i<(n:Int)):Y0 P N ⟨dst,.load t x,ty,pos,af,g⟩ fr (St w0 G0 G L) (Value.int d (Ε f i)):=Y0.hP h.h p (a _ _ _ (m i.toNat _ (tv _ _ _ l)))
theorem Yk{id:Nat}{a b:Code}(h:WC P N (.seq a b) (Exit.inBlock id Q) fr S):WC P N (.block id (.seq a b)) Q fr S:=WC.block h
theorem Yj{id i:Nat}{a:Array Oper}{b:Bool}(h:WC P N (.region i a b) (Exit.inBlock id Q) fr S):WC P N (.block id (.region i a b)) Q fr S:=WC.block h
theorem ZBw{t:TypeId}(h:Y0 P N ⟨dst,.load t x,ty,pos,af,g⟩ fr S v):Y0 P N ⟨dst,.load t x,ty,pos,af,g⟩ fr S v:=h
theorem Yo{o:BinOp}{t yt:TypeId}(h:Y0 P N ⟨dst,.binOp o t x y yt,ty,pos,af,g⟩ fr S v):Y0 P N ⟨dst,.binOp o t x y yt,ty,pos,af,g⟩ fr S v:=h
theorem ZBv{b:Builtin}{xs:Array Operand}{a:Array TypeId}(h:Y0 P N ⟨dst,.call ⟨.builtin b,xs,a⟩,ty,pos,af,g⟩ fr S v):Y0 P N ⟨dst,.call ⟨.builtin b,xs,a⟩,ty,pos,af,g⟩ fr S v:=h
theorem ZBu(h:WL P N ops Q l fr S):WL P N ops Q l fr S:=h
theorem jn1{a b c d:Code}{o:Operand}(h:WC P N (.seq (.seq a (.cond o b c)) d) Q fr S):WC P N (.seq (.seq a (.cond o b c)) d) Q fr S:=h
theorem jn2{b c d:Code}{o:Operand}(h:WC P N (.seq (.cond o b c) d) Q fr S):WC P N (.seq (.cond o b c) d) Q fr S:=h
theorem ZBs{c:Code}(h:WC P N c Q fr S):WC P N c Q fr S:=h
theorem ZBt{e:Exit}(h:WE N Q e fr S):WE N Q e fr S:=h
theorem ZBr{Bt:Ο}{fs:Ŀ Bool}{Κ:Fr}{Τ:jj}(h:γ P N Q fr w0 G0 G L ops Bt fs l Κ Τ):γ P N Q fr w0 G0 G L ops Bt fs l Κ Τ:=h
theorem tn{o:Oper} (h:Y0 P N o fr S v:=by
 first
 | ((a apply Y0.move);exact rfl)
 | ((a apply Y0.eW);exact rfl;exact rfl)
 | ((a apply Y0.pY);exact rfl;exact rfl)
 | ((a apply ZBE);exact rfl)
 | ((a apply ZBw);first
  | ((a apply Y9);exact rfl;(c ((repeat (first|exact lh|apply lt));all_goals exact rfl));exact rfl)
  | ((a apply Zy4);exact rfl;(c ((repeat (first|exact lh|apply lt));all_goals exact rfl));first|exact rfl|exact Zy _ _ _)
  | ((a apply Zy8);exact rfl;(c ((repeat (first|exact lh|apply lt));all_goals exact rfl));assumption)
  | ((a apply Zy7);exact rfl;(c ((repeat (first|exact lh|apply lt));all_goals exact rfl));assumption)
  | ((a apply Zy5);exact rfl;(c ((repeat (first|exact lh|apply lt));all_goals exact rfl));exact rfl;first|exact rfl|exact xg _ _ _)
  | ((a apply Zy6);exact rfl;(c ((repeat (first|exact lh|apply lt));all_goals exact rfl));exact rfl;exact rfl)
  | ((a apply Y8);exact rfl;first|exact gz|exact gz1)
  | ((a apply Zy2);exact rfl;(a assumption);exact uJ;exact rfl;first|exact rfl|exact xg _ _ _)
  | ((a apply Zy3);exact rfl;(a assumption);exact uJ;exact rfl;exact rfl)
  | ((a apply ZxJ);exact rfl;(a assumption);exact uJ;assumption)
  | ((a apply Zy1);exact rfl;exact gzA;(first|exact rfl|exact Zy _ _ _))
  )
 | ((a apply Yo);first
  | ((a apply Y0.add);exact rfl;exact rfl)
  | ((a apply Y0.lss);exact rfl;exact rfl)
  | ((a apply Y0.eql);exact rfl;exact rfl)
  | ((a apply Y0.gtr);exact rfl;exact rfl)
  | ((a apply Y0.neq);exact rfl;exact rfl)
  | ((a apply Y0.sub);exact rfl;exact rfl)
  | ((a apply Y0.geq);exact rfl;exact rfl)
  | ((a apply Y0.leq);exact rfl;exact rfl)
  | ((a apply Y0.mul);exact rfl;exact rfl)
  | ((a apply YM);exact rfl;exact rfl)
  | ((a apply YQ);exact rfl;exact rfl)
  | ((a apply YN);exact rfl;exact rfl)
  | ((a apply YO);kernel_rfl;exact rfl;exact rfl)
  | ((a apply YT);kernel_rfl;exact rfl;exact rfl)
  | ((a apply Y0.shl);exact rfl;exact rfl;decide)
  | ((a apply Y0.shr);exact rfl;exact rfl;decide)
  | ((a apply Y0.and);exact rfl;exact rfl)
  | ((a apply Y0.or);exact rfl;exact rfl)
  | ((a apply Y0.rem);exact rfl;exact rfl;decide)
  | ((a apply Y0.quo);exact rfl;exact rfl;decide)
  )
 | ((a apply ZBv);first
  | ((a apply ZBj);exact rfl)
  | ((a apply ZBi);exact rfl)
  | ((a apply YP);exact rfl)
  | ((a apply Y0.max2);exact rfl;exact rfl)
  | ((a apply Y0.min2);exact rfl;exact rfl)
  )
 | ((a apply ZyZ);(intro _;kernel_rfl))
 | ((a apply Y7);exact rfl;(first|exact rfl|simp[rY,Value.cells]);(intro _;kernel_rfl);exact rfl)
 | ((a apply YJ);exact rfl;exact rfl;(intro _;kernel_rfl))
 | ((a apply YK);exact rfl;exact rfl;exact rfl;exact rfl;(intro _;kernel_rfl))
 | ((a apply Y0.extract);exact rfl;exact rfl)
 | ((a apply Y0.CN);exact rfl)
 | ((a apply Y0.not);exact rfl)
 | ((a apply YL);exact rfl)
 | ((a apply Y0.assign);exact rfl)
 | ((a apply Y0.neg);exact rfl)
 | ((a apply Y0.nilCheck);exact rfl)
 | ((a apply ZvR);exact rfl;exact rfl)):Y0 P N o fr S v:=h
structure I1 (q:Prop):Prop where
 h:q
theorem XC{p:Prop} (h:p:=by
  (try dsimp only at *);repeat' (first
    | ((a apply ZBu);first
      | ((a apply ZBk);exact rfl;exact rfl)
      | ((a apply ZBl);exact rfl;exact rfl)
      | (a apply nx)
      | (a apply nr)
      | ((a apply sk);exact rfl;exact rfl;exact rfl)
      | ((a apply sf);exact rfl;exact rfl;exact rfl)
      | (c zs;(a apply Yp);exact hr;exact tn;exact rfl;((try clear hr);intro _ hr);rotate_left;((try clear hr);intro _ hr))
      | (c zs;(a apply YE);exact hr;exact rfl;exact rfl;exact tn;exact rfl;((try clear hr);intro _ hr);rotate_left;((try clear hr);intro _ hr))
      | ((a apply yy);exact tn;exact rfl)
      | ((a apply gy);exact rfl;exact rfl;exact tn;exact rfl)
      | (a apply WL.nil)
      | ((a apply ZyT);exact rfl;exact rfl;(e ((repeat (first|exact lh|apply lt));all_goals exact rfl));exact rfl;exact rfl)
      | ((a apply Yi);exact rfl;exact rfl;intro _)
      | ((a apply ZxA);exact rfl;exact rfl;(e ((repeat (first|exact lh|apply lt));all_goals exact rfl));(first|exact rfl|exact Zy _ _ _);(first|exact rfl|exact Zy _ _ _);(first|exact rfl|exact j|exact i))
      | (revert hr;refine pW λ_ zh hr=>?_;(a apply YY);exact uj (by kernel_rfl);exact rfl;apply(f.h zh);exact rfl)
      | (revert hr;refine pW λ_ zh hr=>?_;(a apply ZyR);exact uj (by kernel_rfl);exact rfl;exact rfl;exact rfl;apply(f.h zh);exact rfl)
      | (revert hr;refine pW λ_ zh hr=>?_;(a apply YH);exact uj (by kernel_rfl);exact rfl;apply(f.h zh);exact rfl;rotate_left 1;intro _ _ _ zp
         first
           | (obtain⟨_,_,rfl,_⟩:=zp)
           | (obtain⟨_,_,_,_,rfl,_,_⟩:=zp)
           | (obtain⟨_,_,_,_,_,_,rfl,_,_,_⟩:=zp)
           | (obtain⟨_,_,_,_,_,_,_,_,rfl,_,_,_,_⟩:=zp))
      | (revert hr;refine pW λ_ zh hr=>?_;(a apply ZBe);exact rfl;exact rfl;exact zh;exact zJ;infer_instance;exact rfl;exact rfl;intro zh
         (repeat (first|a refine vE zh λ_ zh=>?_|a refine zD zh λ_ zh=>?_)))
      | ((a apply YX);exact rfl;intro _)
      | (revert hr;refine HG λzh hr=>?_;first|((a apply yy);(first|((a apply Gg);exact rfl;exact rfl;exact zh)|((a apply Gm);exact rfl;exact rfl;exact zh)|((a apply Gh);exact rfl;exact rfl;exact zh)|((a apply Gq);exact rfl;exact rfl;exact zh)|((a apply Y0.shl);exact rfl;exact rfl;exact zh)|((a apply Y0.rem);exact rfl;exact rfl;exact zh)|((a apply Y0.quo);exact rfl;exact rfl;exact zh)|((a apply Fq);exact rfl;exact rfl;exact zh)|((a apply Fp);exact rfl;exact rfl;exact zh)|((a apply FO);exact rfl;exact rfl;exact zh));exact rfl)|((a apply gy);exact rfl;exact rfl;(first|((a apply Gg);exact rfl;exact rfl;exact zh)|((a apply Gm);exact rfl;exact rfl;exact zh)|((a apply Gh);exact rfl;exact rfl;exact zh)|((a apply Gq);exact rfl;exact rfl;exact zh)|((a apply Y0.shl);exact rfl;exact rfl;exact zh)|((a apply Y0.rem);exact rfl;exact rfl;exact zh)|((a apply Y0.quo);exact rfl;exact rfl;exact zh)|((a apply Fq);exact rfl;exact rfl;exact zh)|((a apply Fp);exact rfl;exact rfl;exact zh)|((a apply FO);exact rfl;exact rfl;exact zh));exact rfl))
      | (revert hr;refine pW λ_ zh hr=>?_;(a apply YI);exact rfl;exact rfl;exact rfl;exact rfl;exact zh;exact zJ;infer_instance;exact rfl;exact rfl;intro zh
         (repeat (first|a refine vE zh λ_ zh=>?_|a refine zD zh λ_ zh=>?_)))
      | (c zs;(a apply Yl);exact hr;exact rfl;exact rfl;((try clear hr);intro hr);rotate_left;((try clear hr);intro hr))
      | ((a apply ZxC);exact rfl;exact rfl;(e ((repeat (first|exact lh|apply lt));all_goals exact rfl));assumption)
      | ((a apply ZxB);exact rfl;exact rfl;(e ((repeat (first|exact lh|apply lt));all_goals exact rfl));assumption)
      | ((a apply ZBf);infer_instance;exact rfl;(e ((repeat (first|exact ZyD|(apply Zxk;(first|exact rfl|(apply Mt;exact gJ;exact rfl)|exact N7))));d refine ?_));exact rfl;exact rfl;decide;(intro _;kernel_rfl);assumption;exact rfl;exact rfl;exact rfl;intro _ _ _ _)
      | (revert hr;refine HG λzh hr=>?_;(a apply YG);exact rfl;exact rfl;(first|exact zI|exact Γ.nil);(e ((repeat (first|exact lh|apply lt));all_goals exact rfl));exact gJ;exact zh;exact rfl;exact rfl;decide;exact rfl;intro _ _ _ _)
      | (revert hr;refine pW λ_ zh hr=>?_;(a apply Y1);exact uj (by kernel_rfl);exact rfl;exact rfl;exact rfl;apply(f.h zh);exact rfl;rotate_left 1;intro _ _ _ zp
         (first
           | (obtain⟨_,_,rfl,_⟩:=zp)
           | (obtain⟨_,_,_,_,rfl,_,_⟩:=zp)
           | (obtain⟨_,_,_,_,_,_,rfl,_,_,_⟩:=zp)
           | (obtain⟨_,_,_,_,_,_,_,_,rfl,_,_,_,_⟩:=zp)))
      | (revert hr;refine pW λ_ zh hr=>?_;(a apply ZyS);exact rfl;exact uj (by kernel_rfl);exact rfl;apply(f.h zh);exact rfl)
      | (revert hr;refine pW λ_ zh hr=>?_;(a apply yy);((a apply Zy0);exact rfl;exact rfl;exact zI;exact zh);exact rfl)
      | ((a apply ZyU);exact rfl;exact rfl;exact zI;(e ((repeat (first|exact lh|apply lt));all_goals exact rfl));exact rfl;exact rfl;(first|exact rfl|(apply Mt;exact gJ;exact rfl)|exact N7);assumption;intro _ _)
      | (revert hr;refine HG λzh hr=>?_;(a apply Y3);infer_instance;exact rfl;exact rfl;exact zh;exact rfl;exact rfl;exact rfl;exact rfl;exact rfl;(first|exact rfl|(apply Mt;exact gJ;exact rfl)|exact N7);intro _ _ _)
      | (revert hr;refine pW λ_ zh hr=>?_;(a apply YZ);exact uj (by kernel_rfl);exact rfl;apply(f.h zh);rotate_left 1;exact rfl;((a apply ls1);(e ((repeat (first|exact lh|apply lt));all_goals exact rfl)));exact tM;rotate_left 1;intro _ _ _ _ zp
         (obtain⟨_,_,_,rfl,rfl,_⟩:=zp))
      | exact(show False from hr).elim
      | (c zs;refine Mw hr ?_ ?_ <;> ((try clear hr);intro zh hr;subst zh))
      | (c zs;refine Mv hr ?_ ?_ <;> ((try clear hr);intro zh _ hr;rw[zh]))
      )
    | ((a apply ZBt);first
      | (a apply WE.then)
      | (a apply WE.hJ)
      | (a apply WE.å)
      | (a apply WE.inBlock)
      | (a apply WE.gv)
      | (a apply WE.Í)
      | (a apply WE.nx)
      | (a apply WE.r9)
      | ((a apply Õ);exact hr;exact rfl;exact rfl)
      | ((a apply WE.jQ);exact rfl;exact x0;(g [<- (show _=r from hr)]);first|exact rfl|exact⟨_,_,rfl,gJ⟩|exact⟨_,_,rfl,HJ⟩|exact⟨_,_,_,_,rfl,gJ,gJ⟩|exact⟨_,_,_,_,_,_,rfl,gJ,gJ,gJ⟩|exact⟨_,_,_,_,_,_,_,_,rfl,gJ,gJ,gJ,gJ⟩)
      | ((a apply WE.uS);exact rfl;exact x0;exact x0;(g [<- (show _=r from hr)]);first|exact rfl|exact⟨_,_,rfl,gJ⟩|exact⟨_,_,rfl,HJ⟩|exact⟨_,_,_,_,rfl,gJ,gJ⟩|exact⟨_,_,_,_,_,_,rfl,gJ,gJ,gJ⟩|exact⟨_,_,_,_,_,_,_,_,rfl,gJ,gJ,gJ,gJ⟩)
      | ((a apply WE.C3);exact rfl;exact x0;exact x0;exact x0;(g [<- (show _=r from hr)]);first|exact rfl|exact⟨_,_,rfl,gJ⟩|exact⟨_,_,rfl,HJ⟩|exact⟨_,_,_,_,rfl,gJ,gJ⟩|exact⟨_,_,_,_,_,_,rfl,gJ,gJ,gJ⟩)
      | ((a apply wr_);exact rfl;exact x0;((g [<- (show _=r from hr)]);exact⟨_,_,_,rfl,rfl,zI⟩);(e ((repeat (first|exact lh|apply lt));all_goals exact rfl)))
      | (a apply WE.iX)
      | ((a apply Nx);(first|refine qE (x':=⟨_,_,_,_,_,_,_,_,_,_,_,_⟩) hr ⟨Æ rfl,wk iT,?_⟩|refine qE (x':=⟨_,_,_,_,_,_,_,_,_,_,_⟩) hr ⟨Æ rfl,wk iT,?_⟩|refine qE (x':=⟨_,_,_,_,_,_,_,_,_,_⟩) hr ⟨Æ rfl,wk iT,?_⟩|refine qE (x':=⟨_,_,_,_,_,_,_,_,_⟩) hr ⟨Æ rfl,wk iT,?_⟩|refine qE (x':=⟨_,_,_,_,_,_,_,_⟩) hr ⟨Æ rfl,wk iT,?_⟩|refine qE (x':=⟨_,_,_,_,_,_,_⟩) hr ⟨Æ rfl,wk iT,?_⟩|refine qE (x':=⟨_,_,_,_,_,_⟩) hr ⟨Æ rfl,wk iT,?_⟩|refine qE (x':=⟨_,_,_,_,_⟩) hr ⟨Æ rfl,wk iT,?_⟩|refine qE (x':=⟨_,_,_,_⟩) hr ⟨Æ rfl,wk iT,?_⟩|refine qE (x':=⟨_,_,_⟩) hr ⟨Æ rfl,wk iT,?_⟩|refine qE (x':=⟨_,()⟩) hr ⟨Æ rfl,wk iT,?_⟩|refine qE (x':=⟨_,_⟩) hr ⟨Æ rfl,wk iT,?_⟩|refine qE (x':=_) hr ⟨Æ rfl,wk iT,?_⟩);(try dsimp only))
      | ((a apply Ny);(first|refine qF (x':=⟨_,_,_,_,_,_,_,_,_,_,_,_⟩) hr ⟨Æ rfl,wk iT,?_⟩|refine qF (x':=⟨_,_,_,_,_,_,_,_,_,_,_⟩) hr ⟨Æ rfl,wk iT,?_⟩|refine qF (x':=⟨_,_,_,_,_,_,_,_,_,_⟩) hr ⟨Æ rfl,wk iT,?_⟩|refine qF (x':=⟨_,_,_,_,_,_,_,_,_⟩) hr ⟨Æ rfl,wk iT,?_⟩|refine qF (x':=⟨_,_,_,_,_,_,_,_⟩) hr ⟨Æ rfl,wk iT,?_⟩|refine qF (x':=⟨_,_,_,_,_,_,_⟩) hr ⟨Æ rfl,wk iT,?_⟩|refine qF (x':=⟨_,_,_,_,_,_⟩) hr ⟨Æ rfl,wk iT,?_⟩|refine qF (x':=⟨_,_,_,_,_⟩) hr ⟨Æ rfl,wk iT,?_⟩|refine qF (x':=⟨_,_,_,_⟩) hr ⟨Æ rfl,wk iT,?_⟩|refine qF (x':=⟨_,_,_⟩) hr ⟨Æ rfl,wk iT,?_⟩|refine qF (x':=⟨_,()⟩) hr ⟨Æ rfl,wk iT,?_⟩|refine qF (x':=⟨_,_⟩) hr ⟨Æ rfl,wk iT,?_⟩|refine qF (x':=_) hr ⟨Æ rfl,wk iT,?_⟩);(try dsimp only))
      | ((a apply Nz);(first|refine qG (x':=⟨_,_,_,_,_,_,_,_,_,_,_,_⟩) hr ⟨Æ rfl,wk iT,?_⟩|refine qG (x':=⟨_,_,_,_,_,_,_,_,_,_,_⟩) hr ⟨Æ rfl,wk iT,?_⟩|refine qG (x':=⟨_,_,_,_,_,_,_,_,_,_⟩) hr ⟨Æ rfl,wk iT,?_⟩|refine qG (x':=⟨_,_,_,_,_,_,_,_,_⟩) hr ⟨Æ rfl,wk iT,?_⟩|refine qG (x':=⟨_,_,_,_,_,_,_,_⟩) hr ⟨Æ rfl,wk iT,?_⟩|refine qG (x':=⟨_,_,_,_,_,_,_⟩) hr ⟨Æ rfl,wk iT,?_⟩|refine qG (x':=⟨_,_,_,_,_,_⟩) hr ⟨Æ rfl,wk iT,?_⟩|refine qG (x':=⟨_,_,_,_,_⟩) hr ⟨Æ rfl,wk iT,?_⟩|refine qG (x':=⟨_,_,_,_⟩) hr ⟨Æ rfl,wk iT,?_⟩|refine qG (x':=⟨_,_,_⟩) hr ⟨Æ rfl,wk iT,?_⟩|refine qG (x':=⟨_,()⟩) hr ⟨Æ rfl,wk iT,?_⟩|refine qG (x':=⟨_,_⟩) hr ⟨Æ rfl,wk iT,?_⟩|refine qG (x':=_) hr ⟨Æ rfl,wk iT,?_⟩);(try dsimp only))
      | exact(show False from hr).elim
      )
    | ((a apply ZBs);first
      | (a apply WC.skip)
      | (a apply WC.ret)
      | (c zs;(a apply ZBm);exact hr;exact rfl;((try clear hr);intro _ hr);rotate_left;((try clear hr);intro _ hr))
      | (c zs;(a apply WC.VQ);exact hr;exact rfl;((try clear hr);intro _ hr);rotate_left;((try clear hr);intro _ hr))
      | (a apply WC.region)
      | (a apply Yk)
      | (a apply Yj)
      | (a apply WC.exit)
      | ((a apply WC.pJ);exact rfl)
      | ((a apply WC.pI);exact rfl)
      | ((a apply Y2);exact rfl;(repeat ((a apply ZBo);decide +kernel));(a apply ZBn);decide +kernel;intro _)
      | exact(show False from hr).elim
      | (c zs;refine Mw hr ?_ ?_ <;> ((try clear hr);intro zh hr;subst zh))
      | (c zs;refine Mv hr ?_ ?_ <;> ((try clear hr);intro zh _ hr;rw[zh]))
      )
    | ((a apply ZBr);first
      | (c zs;(a apply Ym);exact hr;(intro _ _;exact tn);((try clear hr);intro _ hr);rotate_left;((try clear hr);intro _ hr))
      | (c zs;(a apply Yz);exact hr;exact rfl;exact rfl;(intro _ _;exact tn);((try clear hr);intro _ hr);rotate_left;((try clear hr);intro _ hr))
      | ((a apply Wh);(intro _ _;exact tn))
      | ((a apply cy);exact rfl;exact rfl;(intro _ _;exact tn))
      | ((a apply ct);exact rfl;exact rfl)
      | ((a apply cf);exact rfl;exact rfl)
      | ((a apply cs);exact rfl;exact rfl)
      | ((a apply γ.mW);assumption)
      | (revert hr;refine pW λ_ zh hr=>?_;(a apply ZzI);exact uj (by kernel_rfl);exact rfl;apply(f.h zh);(intro _ _))
      | (revert hr;refine pW λ_ zh hr=>?_;(a apply Zya);exact uj (by kernel_rfl);exact rfl;exact rfl;exact rfl;apply(f.h zh);(intro _ _))
      | (revert hr;refine pW λ_ zh hr=>?_;(a apply Yn);exact rfl;exact rfl;exact zh;exact zJ;infer_instance;exact rfl;intro zh
         (repeat (first|a refine vE zh λ_ zh=>?_|a refine zD zh λ_ zh=>?_)))
      | (revert hr;refine HG λzh hr=>?_;first|((a apply Wh);(intro _ _;first|((a apply Gg);exact rfl;exact rfl;exact zh)|((a apply Gm);exact rfl;exact rfl;exact zh)|((a apply Gh);exact rfl;exact rfl;exact zh)|((a apply Gq);exact rfl;exact rfl;exact zh)|((a apply Y0.shl);exact rfl;exact rfl;exact zh)|((a apply Y0.rem);exact rfl;exact rfl;exact zh)|((a apply Y0.quo);exact rfl;exact rfl;exact zh)|((a apply Fq);exact rfl;exact rfl;exact zh)|((a apply Fp);exact rfl;exact rfl;exact zh)|((a apply FO);exact rfl;exact rfl;exact zh)))|((a apply cy);exact rfl;exact rfl;(intro _ _;first|((a apply Gg);exact rfl;exact rfl;exact zh)|((a apply Gm);exact rfl;exact rfl;exact zh)|((a apply Gh);exact rfl;exact rfl;exact zh)|((a apply Gq);exact rfl;exact rfl;exact zh)|((a apply Y0.shl);exact rfl;exact rfl;exact zh)|((a apply Y0.rem);exact rfl;exact rfl;exact zh)|((a apply Y0.quo);exact rfl;exact rfl;exact zh)|((a apply Fq);exact rfl;exact rfl;exact zh)|((a apply Fp);exact rfl;exact rfl;exact zh)|((a apply FO);exact rfl;exact rfl;exact zh))))
      | (revert hr;refine pW λ_ zh hr=>?_;(a apply YA);exact rfl;exact rfl;exact rfl;exact rfl;exact zh;exact zJ;infer_instance;exact rfl;intro zh
         (repeat (first|a refine vE zh λ_ zh=>?_|a refine zD zh λ_ zh=>?_)))
      | (revert hr;refine pW λ_ zh hr=>?_;(a apply ZzJ);exact uj (by kernel_rfl);(intro _;exact rfl);apply(f.h zh);exact Yr;(intro _ _))
      | ((a apply ZBq);(intro _ _ _;exact tn))
      | ((a apply h_f);exact tn)
      | ((a apply ZBp);(intro _;exact tn))
      | ((a apply γ.tb);intro _ _ _ zp;(first
           | (obtain⟨_,_,rfl,_⟩:=zp)
           | (obtain⟨_,_,_,_,rfl,_,_⟩:=zp)
           | (obtain⟨_,_,_,_,_,_,rfl,_,_,_⟩:=zp)
           | (obtain⟨_,_,_,_,_,_,_,_,rfl,_,_,_,_⟩:=zp)))
      | ((a apply γ.tc);intro _ _ _ _ zp zq;(first
           | (obtain⟨_,_,rfl,_⟩:=zp)
           | (obtain⟨_,_,_,_,rfl,_,_⟩:=zp)
           | (obtain⟨_,_,_,_,_,_,rfl,_,_,_⟩:=zp)
           | (obtain⟨_,_,_,_,_,_,_,_,rfl,_,_,_,_⟩:=zp));(first
           | (obtain⟨_,_,rfl,_⟩:=zq)
           | (obtain⟨_,_,_,_,rfl,_,_⟩:=zq)
           | (obtain⟨_,_,_,_,_,_,rfl,_,_,_⟩:=zq)
           | (obtain⟨_,_,_,_,_,_,_,_,rfl,_,_,_,_⟩:=zq)))
      | exact(show False from hr).elim
      | (c zs;refine Mw hr ?_ ?_ <;> ((try clear hr);intro zh hr;subst zh))
      | (c zs;refine Mv hr ?_ ?_ <;> ((try clear hr);intro zh _ hr;rw[zh]))
      )
    | ((a apply en0);exact rfl;exact rfl;exact rfl;exact rfl;intro _ _ _ zh;(repeat (first|a refine vE zh λ_ zh=>?_|a refine zD zh λ_ zh=>?_)))
    | ((a apply en1);exact rfl;exact rfl;exact rfl;exact rfl;intro _ _ _ zh;(repeat (first|a refine vE zh λ_ zh=>?_|a refine zD zh λ_ zh=>?_)))
    | exact uJ
    | exact trivial
    | exact zJ
    | exact Xy
    | exact zI
    | ((a apply Tok.full))
    | (a assumption)
    | exact Γ.nil
    | (a apply And.intro)
    )
  first
  | d refine ?_
  | ((try (revert zh;have zc:=zk;clear zc))
     (try (revert zp;have zc:=zk;clear zc))
     (try (revert hr;have zc:=zk;clear zc))
     (repeat (rename_i zx;revert zx;have zc:=zk;clear zc))
     exact zk.h
     d refine ?_)):p:=h
theorem Ξ{p q:Prop}(k:q) (h:I1 q->I1 True->p:=by
 intro zk zs;(try have hr:=hr);exact XC):p:=h ⟨k⟩ ⟨trivial⟩
theorem è{p q:Prop}(k:q) (h:I1 q->p:=by
 intro zk;(try have hr:=hr);exact XC):p:=h ⟨k⟩
theorem Ζ{p:Prop}(h:p:=by exact Ξ trivial):p:=h
end
abbrev tr:Mem->Prop:=λ_=>True
def Fr.pick(fr:Fr):Ŀ Nat->ŀ Fr
 | []=>some []
 | t::a=>match fr.get t with
  | some v=>match Fr.pick fr a with
   | some r=>some ((t,v)::r)
   | none=>none
  | none=>none
theorem Fr.Bb{fr:Fr}:∀ {a:Ŀ Nat}{A:Fr},fr.pick a=some A->Fr.sub A fr
 | [],A,h=>by simp only[Fr.pick,ď]at h;subst h;exact Fr.Zw _
 | t::a,A,h=>by
  unfold Fr.pick at h;split at h
  .rename_i v c;split at h
   .rename_i r hr;simp only[ď]at h;subst h;exact Fr.Zi c (Fr.Bb hr)
   cases h
  cases h
def Lo.find:Lo->Nat->ŀ (ŀ Ow)
 | [],_=>none
 | p::r,i=>bif Nat.beq p.1 i then some p.2 else Lo.find r i
theorem Lo.Td:∀ {L:Lo}{i:Nat}{x:ŀ Ow},L.find i=some x->L.get i=x
 | [],i,x,h=>by cases h
 | p::r,i,x,h=>by
  unfold Lo.find at h;show(bif Nat.beq p.1 i then p.2 else Lo.get r i)=x;cases a:Nat.beq p.1 i with
  | true=>rw[a]at h;simpa using h
  | false=>rw[a]at h;exact Lo.Td h
def Lo.pick(L:Lo):Ŀ Nat->ŀ Lo
 | []=>some []
 | i::a=>match L.find i with
  | some x=>match Lo.pick L a with
   | some r=>some ((i,x)::r)
   | none=>none
  | none=>none
theorem Lo.Bb{L:Lo}:∀ {a:Ŀ Nat}{A:Lo},L.pick a=some A->Lo.sub A L
 | [],A,h=>by simp only[Lo.pick,ď]at h;subst h;exact Lo.Zw _
 | t::a,A,h=>by
  unfold Lo.pick at h;split at h
  .rename_i v c;split at h
   .rename_i r hr;simp only[ď]at h;subst h;exact Lo.Zi (Lo.Td c) (Lo.Bb hr)
   cases h
  cases h
theorem Fr.YW{A B fr:Fr}(c:Fr.sub A fr)(h2:Fr.sub B fr):Fr.sub (A++B) fr:=by
 intro t v h;rw[Fr.get_append]at h;cases a:A.get t with
 | some x=>rw[a]at h;exact c t v (by rw[a];simpa using h)
 | none=>rw[a]at h;exact h2 t v (by simpa using h)
theorem Lo.UE:∀ {A B L:Lo},(∀ p∈A,L.get p.1=p.2)->Lo.sub B L->Lo.sub (A++B) L
 | [],_,_,_,h2=>h2
 | p::A,B,L,a,h2=>Lo.Zi (a p (by simp)) (Lo.UE (λq c=>a q (by simp[c])) h2)
theorem YU{A L:Lo}(h:A.map (λp=>L.get p.1)=A.map (λp=>p.2)):∀ p∈A,L.get p.1=p.2:=by
 induction A with
 | nil=>intro p hp;cases hp
 | cons q A a=>
  simp only[Ġ,ŏ]at h;intro p hp;rcases Ď.1 hp with rfl|hp
  .exact h.1
  exact a h.2 p hp
section
variable {P:Program}{N:Nat}{Q:î}{fr:Fr}{w0:Bs}{G0 G:Mem}{L:Lo}
theorem WC.mL{X Y σ ρ β:Type}{id:Nat}{c:Code}{step:σ->Cq (σ⊕ρ)}{f:σ}{k:ρ->Cq β}{Ψ:β->Prop}{f1 f2:Fr}{i j:Lo}(t:((Cq.loop step f).next k).wp Ψ)(a b a' b':Ŀ Nat)
  (g:X->σ×Fr×(Mem->Prop)×Lo) (e:Y->ρ×Fr×(Mem->Prop)×Lo) (d:X) (l:(fr.pick a,L.pick b,fr.pick a',L.pick b')=(some f1,some i,some f2,some j)) (q:(g d).1=f)
  (r:(g d).2.1.map (λp=>fr.get p.1)=(g d).2.1.map (λp=>some p.2)) (s:(g d).2.2.2.map (λp=>L.get p.1)=(g d).2.2.2.map (λp=>p.2)) (hH:(g d).2.2.1 G)
  (round:∀ (A:σ->Prop) G' x,Mem.le G G'->(g x).2.2.1 G'->(step (g x).1).wp (Out A λo=>(k o).wp Ψ)->
   WC P N c (Exit.then (jm N (λy:Mem×X=>(g y.2).2.1++f1) (λy=>Mem.le G y.1/\(g y.2).2.2.1 y.1) (λy=>St w0 G0 y.1 ((g y.2).2.2.2++i)) (λy=>(g y.2).1) A)
    (Exit.inBlock id (k8 N (λy:Mem×Y=>(e y.2).2.1++f2) (λy=>(k (e y.2).1).wp Ψ/\Mem.le G y.1/\(e y.2).2.2.1 y.1) (λy=>St w0 G0 y.1 ((e y.2).2.2.2++j)) Q))) ((g x).2.1++f1) (St w0 G0 G' ((g x).2.2.2++i)))
  (h2:∀ G' z,(k (e z).1).wp Ψ->Mem.le G G'->(e z).2.2.1 G'->WE N Q .normal ((e z).2.1++f2) (St w0 G0 G' ((e z).2.2.2++j))):WC P N (.block id (.loop c)) Q fr (St w0 G0 G L):=by
 have m:=Fr.Bb (đ (·.1) l)
 have n:=Lo.Bb (đ (·.2.1) l)
 exact WC.wg (X:=Mem×X) (Y:=Mem×Y) t (λy=>⟨(g y.2).1,(g y.2).2.1++f1,Mem.le G y.1/\(g y.2).2.2.1 y.1,St w0 G0 y.1 ((g y.2).2.2.2++i)⟩) (λy=>⟨(e y.2).1,(e y.2).2.1++f2,Mem.le G y.1/\(e y.2).2.2.1 y.1,St w0 G0 y.1 ((e y.2).2.2.2++j)⟩) (G,d) q
  (Fr.YW (Æ r) m) ⟨Mem.le_refl _,hH⟩ (λw h=>h.weaken (Lo.UE (YU s) n))
  (λA x h hr=>round A x.1 x.2 h.1 h.2 hr) (λz h=>h2 z.1 z.2 h.1 h.2.1 h.2.2)
theorem GK{p:Prop} (h:p:=by
 (try dsimp only);(repeat' (first
  | a exact trivial
  | exact gJ
  | exact zI
  | (a apply Tok.full)
  | exact Γ.nil
  | (a assumption)
  | a apply And.intro
  | exact HJ
  | assumption))
 c refine ?_):p:=h
theorem px{α β:Type}{p:α×β->Prop}(h:∀ a b,p (a,b)):∀ x,p x:=λx=>h x.1 x.2
theorem rd{p:Prop} (h:p:=by
 intro _ _;(repeat (refine px ?_;intro _));intro _ zl zi hr;(try dsimp only at zi);(repeat (a refine vE zi λ_ zi=>?_));exact Ζ):p:=h
theorem rs{p:Prop} (h:p:=by
 intro _;(repeat (refine px ?_;intro _));intro _ hr zl zi;(try dsimp only at zi);(repeat (a refine vE zi λ_ zi=>?_));exact Ζ):p:=h
theorem WC.mA{X Y σ ρ β:Type}{id:Nat}{c:Code}{step:σ->Cq (σ⊕ρ)}{f:σ}{k:ρ->Cq β}{Ψ:β->Prop}{f1 f2:Fr}{h i:Lo}(q:((Cq.loop step f).next k).wp Ψ)(a b a' b':Ŀ Nat)
  (g:X->σ×Fr×(Mem->Prop)×Lo) (e:Y->ρ×Fr×(Mem->Prop)×Lo) (d:X) (n:(fr.pick a,L.pick b,fr.pick a',L.pick b')=(some f1,some h,some f2,some i):=by exact rfl) (j:(g d).1=f:=by exact rfl) (l:(g d).2.1.map (λp=>fr.get p.1)=(g d).2.1.map (λp=>some p.2):=by exact rfl) (m:(g d).2.2.2.map (λp=>L.get p.1)=(g d).2.2.2.map (λp=>p.2):=by exact rfl) (hH:(g d).2.2.1 G:=by exact GK)
  (round:∀ (A:σ->Prop) G' x,Mem.le G G'->(g x).2.2.1 G'->(step (g x).1).wp (Out A λo=>(k o).wp Ψ)->
   WC P N c (Exit.then (jm N (λy:Mem×X=>(g y.2).2.1++f1) (λy=>Mem.le G y.1/\(g y.2).2.2.1 y.1) (λy=>St w0 G0 y.1 ((g y.2).2.2.2++h)) (λy=>(g y.2).1) A)
    (Exit.inBlock id (k8 N (λy:Mem×Y=>(e y.2).2.1++f2) (λy=>(k (e y.2).1).wp Ψ/\Mem.le G y.1/\(e y.2).2.2.1 y.1) (λy=>St w0 G0 y.1 ((e y.2).2.2.2++i)) Q))) ((g x).2.1++f1) (St w0 G0 G' ((g x).2.2.2++h)):=by exact rd)
  (h2:∀ G' z,(k (e z).1).wp Ψ->Mem.le G G'->(e z).2.2.1 G'->WE N Q .normal ((e z).2.1++f2) (St w0 G0 G' ((e z).2.2.2++i)):=by exact rs):WC P N (.block id (.loop c)) Q fr (St w0 G0 G L):=WC.mL q a b a' b' g e d n j l m hH round h2
theorem WC.mB{X Y σ ρ β:Type}{id:Nat}{c:Code}{step:σ->Cq (σ⊕ρ)}{f:σ}{k:ρ->Cq β}{Ψ:β->Prop}{f1 f2:Fr}{h i:Lo}(q:((Cq.loop step f).next k).wp Ψ)(a b a' b':Ŀ Nat)
  (g:X->σ×Fr×(Mem->Prop)×Lo) (e:Y->ρ×Fr×(Mem->Prop)×Lo) (d:X) (h2:∀ G' z,(k (e z).1).wp Ψ->Mem.le G G'->(e z).2.2.1 G'->WE N Q .normal ((e z).2.1++f2) (St w0 G0 G' ((e z).2.2.2++i)))
  (n:(fr.pick a,L.pick b,fr.pick a',L.pick b')=(some f1,some h,some f2,some i):=by exact rfl) (j:(g d).1=f:=by exact rfl) (l:(g d).2.1.map (λp=>fr.get p.1)=(g d).2.1.map (λp=>some p.2):=by exact rfl) (m:(g d).2.2.2.map (λp=>L.get p.1)=(g d).2.2.2.map (λp=>p.2):=by exact rfl) (hH:(g d).2.2.1 G:=by exact GK)
  (round:∀ (A:σ->Prop) G' x,Mem.le G G'->(g x).2.2.1 G'->(step (g x).1).wp (Out A λo=>(k o).wp Ψ)->
   WC P N c (Exit.then (jm N (λy:Mem×X=>(g y.2).2.1++f1) (λy=>Mem.le G y.1/\(g y.2).2.2.1 y.1) (λy=>St w0 G0 y.1 ((g y.2).2.2.2++h)) (λy=>(g y.2).1) A)
    (Exit.inBlock id (k8 N (λy:Mem×Y=>(e y.2).2.1++f2) (λy=>(k (e y.2).1).wp Ψ/\Mem.le G y.1/\(e y.2).2.2.1 y.1) (λy=>St w0 G0 y.1 ((e y.2).2.2.2++i)) Q))) ((g x).2.1++f1) (St w0 G0 G' ((g x).2.2.2++h)):=by exact rd):WC P N (.block id (.loop c)) Q fr (St w0 G0 G L):=WC.mL q a b a' b' g e d n j l m hH round h2
theorem WC.mC{X Y σ ρ β:Type}{id:Nat}{c:Code}{step:σ->Cq (σ⊕ρ)}{f:σ}{k:ρ->Cq β}{Ψ:β->Prop}{f1 f2:Fr}{h i:Lo}(q:((Cq.loop step f).next k).wp Ψ)(a b a' b':Ŀ Nat)
  (g:X->σ×Fr×(Mem->Prop)×Lo) (e:Y->ρ×Fr×(Mem->Prop)×Lo) (d:X) (round:∀ (A:σ->Prop) G' x,Mem.le G G'->(g x).2.2.1 G'->(step (g x).1).wp (Out A λo=>(k o).wp Ψ)->
   WC P N c (Exit.then (jm N (λy:Mem×X=>(g y.2).2.1++f1) (λy=>Mem.le G y.1/\(g y.2).2.2.1 y.1) (λy=>St w0 G0 y.1 ((g y.2).2.2.2++h)) (λy=>(g y.2).1) A)
    (Exit.inBlock id (k8 N (λy:Mem×Y=>(e y.2).2.1++f2) (λy=>(k (e y.2).1).wp Ψ/\Mem.le G y.1/\(e y.2).2.2.1 y.1) (λy=>St w0 G0 y.1 ((e y.2).2.2.2++i)) Q))) ((g x).2.1++f1) (St w0 G0 G' ((g x).2.2.2++h)))
  (n:(fr.pick a,L.pick b,fr.pick a',L.pick b')=(some f1,some h,some f2,some i):=by exact rfl) (j:(g d).1=f:=by exact rfl) (l:(g d).2.1.map (λp=>fr.get p.1)=(g d).2.1.map (λp=>some p.2):=by exact rfl) (m:(g d).2.2.2.map (λp=>L.get p.1)=(g d).2.2.2.map (λp=>p.2):=by exact rfl) (hH:(g d).2.2.1 G:=by exact GK)
  (h2:∀ G' z,(k (e z).1).wp Ψ->Mem.le G G'->(e z).2.2.1 G'->WE N Q .normal ((e z).2.1++f2) (St w0 G0 G' ((e z).2.2.2++i)):=by exact rs):WC P N (.block id (.loop c)) Q fr (St w0 G0 G L):=WC.mL q a b a' b' g e d n j l m hH round h2
theorem WC.mD{X Y σ ρ β:Type}{id:Nat}{c:Code}{step:σ->Cq (σ⊕ρ)}{f:σ}{k:ρ->Cq β}{Ψ:β->Prop}{f1 f2:Fr}{h i:Lo}(q:((Cq.loop step f).next k).wp Ψ)(a b a' b':Ŀ Nat)
  (g:X->σ×Fr×(Mem->Prop)×Lo) (e:Y->ρ×Fr×(Mem->Prop)×Lo) (d:X) (round:∀ (A:σ->Prop) G' x,Mem.le G G'->(g x).2.2.1 G'->(step (g x).1).wp (Out A λo=>(k o).wp Ψ)->
   WC P N c (Exit.then (jm N (λy:Mem×X=>(g y.2).2.1++f1) (λy=>Mem.le G y.1/\(g y.2).2.2.1 y.1) (λy=>St w0 G0 y.1 ((g y.2).2.2.2++h)) (λy=>(g y.2).1) A)
    (Exit.inBlock id (k8 N (λy:Mem×Y=>(e y.2).2.1++f2) (λy=>(k (e y.2).1).wp Ψ/\Mem.le G y.1/\(e y.2).2.2.1 y.1) (λy=>St w0 G0 y.1 ((e y.2).2.2.2++i)) Q))) ((g x).2.1++f1) (St w0 G0 G' ((g x).2.2.2++h)))
  (h2:∀ G' z,(k (e z).1).wp Ψ->Mem.le G G'->(e z).2.2.1 G'->WE N Q .normal ((e z).2.1++f2) (St w0 G0 G' ((e z).2.2.2++i)))
  (n:(fr.pick a,L.pick b,fr.pick a',L.pick b')=(some f1,some h,some f2,some i):=by exact rfl) (j:(g d).1=f:=by exact rfl) (l:(g d).2.1.map (λp=>fr.get p.1)=(g d).2.1.map (λp=>some p.2):=by exact rfl) (m:(g d).2.2.2.map (λp=>L.get p.1)=(g d).2.2.2.map (λp=>p.2):=by exact rfl) (hH:(g d).2.2.1 G:=by exact GK):WC P N (.block id (.loop c)) Q fr (St w0 G0 G L):=WC.mL q a b a' b' g e d n j l m hH round h2
theorem WC.nA{Y β:Type}{x y:Code}{m:Cq β}{Ψ:β->Prop}{f1:Fr}{c:Lo}(f:m.wp Ψ)(a b:Ŀ Nat)(e:Y->Fr×Cq β×(Mem->Prop)×Lo)(g:(fr.pick a,L.pick b)=(some f1,some c):=by exact rfl)
  (d:WC P N x (Exit.then (ma N (λy:Mem×Y=>(e y.2).1++f1) (λy=>(e y.2).2.1.wp Ψ/\Mem.le G y.1/\(e y.2).2.2.1 y.1) (λy=>St w0 G0 y.1 ((e y.2).2.2.2++c))) Q) fr (St w0 G0 G L):=by exact Ζ)
  (h2:∀ G' z,(e z).2.1.wp Ψ->Mem.le G G'->(e z).2.2.1 G'->WC P N y Q ((e z).1++f1) (St w0 G0 G' ((e z).2.2.2++c)):=by exact rs):WC P N (.seq x y) Q fr (St w0 G0 G L):=WC.sS (Y:=Mem×Y) f (λy=>⟨(e y.2).1++f1,(e y.2).2.1,Mem.le G y.1/\(e y.2).2.2.1 y.1,St w0 G0 y.1 ((e y.2).2.2.2++c)⟩) d (λz h=>h2 z.1 z.2 h.1 h.2.1 h.2.2)
theorem WC.nB{Y β:Type}{x y:Code}{m:Cq β}{Ψ:β->Prop}{f1:Fr}{c:Lo}(f:m.wp Ψ)(a b:Ŀ Nat)(e:Y->Fr×Cq β×(Mem->Prop)×Lo)(h2:∀ G' z,(e z).2.1.wp Ψ->Mem.le G G'->(e z).2.2.1 G'->WC P N y Q ((e z).1++f1) (St w0 G0 G' ((e z).2.2.2++c)))
  (g:(fr.pick a,L.pick b)=(some f1,some c):=by exact rfl)
  (d:WC P N x (Exit.then (ma N (λy:Mem×Y=>(e y.2).1++f1) (λy=>(e y.2).2.1.wp Ψ/\Mem.le G y.1/\(e y.2).2.2.1 y.1) (λy=>St w0 G0 y.1 ((e y.2).2.2.2++c))) Q) fr (St w0 G0 G L):=by exact Ζ):WC P N (.seq x y) Q fr (St w0 G0 G L):=WC.sS (Y:=Mem×Y) f (λy=>⟨(e y.2).1++f1,(e y.2).2.1,Mem.le G y.1/\(e y.2).2.2.1 y.1,St w0 G0 y.1 ((e y.2).2.2.2++c)⟩) d (λz h=>h2 z.1 z.2 h.1 h.2.1 h.2.2)
theorem WC.nC{Y β:Type}{x y:Code}{m:Cq β}{Ψ:β->Prop}{f1:Fr}{c:Lo}(f:m.wp Ψ)(a b:Ŀ Nat)(e:Y->Fr×Cq β×(Mem->Prop)×Lo)(d:WC P N x (Exit.then (ma N (λy:Mem×Y=>(e y.2).1++f1) (λy=>(e y.2).2.1.wp Ψ/\Mem.le G y.1/\(e y.2).2.2.1 y.1) (λy=>St w0 G0 y.1 ((e y.2).2.2.2++c))) Q) fr (St w0 G0 G L))
  (g:(fr.pick a,L.pick b)=(some f1,some c):=by exact rfl)
  (h2:∀ G' z,(e z).2.1.wp Ψ->Mem.le G G'->(e z).2.2.1 G'->WC P N y Q ((e z).1++f1) (St w0 G0 G' ((e z).2.2.2++c)):=by exact rs):WC P N (.seq x y) Q fr (St w0 G0 G L):=WC.sS (Y:=Mem×Y) f (λy=>⟨(e y.2).1++f1,(e y.2).2.1,Mem.le G y.1/\(e y.2).2.2.1 y.1,St w0 G0 y.1 ((e y.2).2.2.2++c)⟩) d (λz h=>h2 z.1 z.2 h.1 h.2.1 h.2.2)
theorem WC.nD{Y β:Type}{x y:Code}{m:Cq β}{Ψ:β->Prop}{f1:Fr}{c:Lo}(f:m.wp Ψ)(a b:Ŀ Nat)(e:Y->Fr×Cq β×(Mem->Prop)×Lo)(d:WC P N x (Exit.then (ma N (λy:Mem×Y=>(e y.2).1++f1) (λy=>(e y.2).2.1.wp Ψ/\Mem.le G y.1/\(e y.2).2.2.1 y.1) (λy=>St w0 G0 y.1 ((e y.2).2.2.2++c))) Q) fr (St w0 G0 G L))
  (h2:∀ G' z,(e z).2.1.wp Ψ->Mem.le G G'->(e z).2.2.1 G'->WC P N y Q ((e z).1++f1) (St w0 G0 G' ((e z).2.2.2++c)))
  (g:(fr.pick a,L.pick b)=(some f1,some c):=by exact rfl):WC P N (.seq x y) Q fr (St w0 G0 G L):=WC.sS (Y:=Mem×Y) f (λy=>⟨(e y.2).1++f1,(e y.2).2.1,Mem.le G y.1/\(e y.2).2.2.1 y.1,St w0 G0 y.1 ((e y.2).2.2.2++c)⟩) d (λz h=>h2 z.1 z.2 h.1 h.2.1 h.2.2)
end
end Go.EL

namespace Go.Proofs.YtepbagkffgddlaaGreat
open Go.IntKind (i8 i16 i32 i64 u8 u16 u32 u64)
open Go.Proofs.Tryz
open Go Go.EL Go.RowKit Go.Proofs
instance Wl:a prog 26 2:=⟨Bo⟩
instance Wm:a prog 34 3:=⟨MH⟩
instance Wn:a prog 37 1:=⟨Bp⟩
instance Wo:a prog 40 10:=⟨xF⟩
instance Wp:a prog 48 3:=⟨lC⟩
instance Wq:a prog 54 3:=⟨oF⟩
instance Wr:a prog 56 11:=⟨Bq⟩
instance Ws:a prog 71 8:=⟨lD⟩
instance Wt:a prog 89 9:=⟨Br⟩
instance Wu:a prog 94 7:=⟨MI⟩
instance Nd:a prog 100 4:=⟨vF⟩
instance Ng:a prog 118 2:=⟨py⟩
instance Nh:a prog 120 4:=⟨rP⟩
instance Ni:a prog 129 4:=⟨Bl⟩
instance Nj:a prog 145 8:=⟨rQ⟩
instance Nk:a prog 147 12:=⟨rR⟩
instance Nl:a prog 160 3:=⟨Bm⟩
instance Nn:a prog 194 2:=⟨Bn⟩
instance Np:a prog 202 3:=⟨rS⟩
instance Nq:a prog 225 64:=⟨mJ⟩
instance Nr:a prog 325 32:=⟨kn⟩
instance amA:a prog 3:=⟨eN⟩
instance amB:a prog 4:=⟨sO⟩
instance amC:a prog 5:=⟨HI⟩
instance WI:a prog 24:=⟨uT⟩
instance WJ:a prog 28:=⟨C5⟩
instance WK:a prog 31:=⟨ya⟩
instance WM:a prog 32:=⟨sN⟩
instance WN:a prog 35:=⟨C6⟩
instance WO:a prog 38:=⟨Oh⟩
instance WQ:a prog 44:=⟨sP⟩
instance WR:a prog 46:=⟨jR⟩
instance WS:a prog 50:=⟨mw⟩
instance WT:a prog 52:=⟨sQ⟩
instance WU:a prog 87:=⟨qR⟩
instance NA:a prog 102:=⟨wj⟩
instance NB:a prog 116:=⟨qh⟩
instance NC:a prog 126:=⟨n5⟩
instance ND:a prog 127:=⟨lU⟩
instance NF:a prog 138:=⟨qi⟩
instance NG:a prog 140:=⟨wm⟩
instance NH:a prog 158:=⟨sK⟩
instance NI:a prog 196:=⟨sL⟩
instance NJ:a prog 248:=⟨sM⟩
instance amD:a prog 3 1:=⟨jS⟩
instance amE:a prog 4 1:=⟨sz4⟩
instance amF:a prog 5 1:=⟨sz5⟩
instance WV:a prog 26 2:=⟨Dk⟩
instance WW:a prog 28 1:=⟨On⟩
instance WX:a prog 32 1:=⟨Dl⟩
instance WY:a prog 37 1:=⟨Oo⟩
instance WZ:a prog 40 10:=⟨Oq⟩
instance W0:a prog 44 1:=⟨Dm⟩
instance W1:a prog 46 1:=⟨Ot⟩
instance W2:a prog 48 3:=⟨qU⟩
instance W3:a prog 50 1:=⟨kP⟩
instance W4:a prog 52 1:=⟨Dn⟩
instance W5:a prog 54 3:=⟨oa⟩
instance W6:a prog 56 11:=⟨Dp⟩
instance W7:a prog 71 8:=⟨oc⟩
instance W8:a prog 87 1:=⟨Dq⟩
instance W9:a prog 89 9:=⟨s8⟩
instance Xa:a prog 94 7:=⟨Ou⟩
instance NK:a prog 100 4:=⟨sZ⟩
instance NL:a prog 102 1:=⟨De⟩
instance NM:a prog 118 2:=⟨wq⟩
instance NN:a prog 120 4:=⟨wu⟩
instance NO:a prog 129 4:=⟨Df⟩
instance NP:a prog 138 1:=⟨Dg⟩
instance NQ:a prog 140 1:=⟨Dh⟩
instance NR:a prog 145 8:=⟨wy⟩
instance NS:a prog 147 12:=⟨qp⟩
instance NT:a prog 160 3:=⟨Di⟩
instance NU:a prog 194 2:=⟨n9⟩
instance NV:a prog 196 1:=⟨s6⟩
instance NW:a prog 197 5:=⟨wz⟩
instance NY:a prog 223 8:=⟨jY⟩
instance NZ:a prog 225 64:=⟨lW⟩
instance N0:a prog 248 1:=⟨s7⟩
instance N4:a prog 325 32:=⟨wA⟩
instance amX:a prog 26 (.agg ([.slice none 0 0,.int .i64 0]).toArray):=⟨z26⟩
instance amY:a prog 48 (.agg ([.int .i64 0,.slice none 0 0,.slice none 0 0]).toArray):=⟨rB⟩
instance amZ:a prog 54 (.agg ([.int .i64 0,.slice none 0 0,.slice none 0 0]).toArray):=⟨z54⟩
instance am0:a prog 56 (.agg ([.int .i64 0,.int .i64 0,.slice none 0 0,.slice none 0 0,.int .i64 0,.slice none 0 0,.slice none 0 0,.int .i64 0,.int .i64 0,.int .i64 0,.bool false]).toArray):=⟨yo⟩
instance am1:a prog 71 (.agg (õ (Value.int .i64) 8 (λ_=>0)).toArray):=⟨u5⟩
instance am2:a prog 89 (.agg ([.int .i64 0,.slice none 0 0,.int .i64 0,.int .i64 0,.int .i64 0,.slice none 0 0,.slice none 0 0,.slice none 0 0,.slice none 0 0]).toArray):=⟨HO⟩
instance am3:a prog 94 (.agg ([.int .i64 0,.slice none 0 0,.slice none 0 0,.int .i64 0,.slice none 0 0,.slice none 0 0,.int .i64 0]).toArray):=⟨z94⟩
instance Xp:a prog 100 (.agg ([.slice none 0 0,.int .i64 0,.int .i64 0,.int .i64 0]).toArray):=⟨yn⟩
instance Xq:a prog 118 (.agg ([.bool false,.slice none 0 0]).toArray):=⟨DL⟩
instance Xr:a prog 120 (.agg ([.bool false,.slice none 0 0,.bool false,.slice none 0 0]).toArray):=⟨DM⟩
instance Xs:a prog 129 (.agg ([.slice none 0 0,.slice none 0 0,.slice none 0 0,.int .i64 0]).toArray):=⟨OG⟩
instance Xt:a prog 143 (.agg (õ Value.bool 8 (λ_=>false)).toArray):=⟨z143⟩
instance Xu:a prog 145 (.agg (õ (Value.int .i64) 8 (λ_=>0)).toArray):=⟨z145⟩
instance Xv:a prog 147 (.agg (([.bool false,.slice none 0 0,.bool false,.slice none 0 0]:Ŀ Value)++(õ (Value.int .i64) 8 (λ_=>0))).toArray):=⟨OI⟩
instance Xw:a prog 225 (.agg (([.bool false,.slice none 0 0,.bool false,.slice none 0 0,.bool false,.slice none 0 0,.bool false,.slice none 0 0,.bool false,.slice none 0 0,.bool false,.slice none 0 0,.bool false,.slice none 0 0,.bool false,.slice none 0 0,.bool false,.slice none 0 0,.bool false,.slice none 0 0,.bool false,.slice none 0 0,.bool false,.slice none 0 0,.bool false,.slice none 0 0,.bool false,.slice none 0 0,.bool false,.slice none 0 0,.bool false,.slice none 0 0,.bool false,.slice none 0 0,.bool false,.slice none 0 0,.bool false,.slice none 0 0,.bool false,.slice none 0 0,.bool false,.slice none 0 0,.bool false,.slice none 0 0,.bool false,.slice none 0 0,.bool false,.slice none 0 0,.bool false,.slice none 0 0,.bool false,.slice none 0 0,.bool false,.slice none 0 0,.bool false,.slice none 0 0,.bool false,.slice none 0 0,.bool false,.slice none 0 0,.bool false,.slice none 0 0,.bool false,.slice none 0 0]:Ŀ Value)).toArray):=⟨DN⟩
instance Xx:a prog 325 (.agg (([.bool false,.slice none 0 0,.bool false,.slice none 0 0,.bool false,.slice none 0 0,.bool false,.slice none 0 0,.bool false,.slice none 0 0,.bool false,.slice none 0 0,.bool false,.slice none 0 0,.bool false,.slice none 0 0,.bool false,.slice none 0 0,.bool false,.slice none 0 0,.bool false,.slice none 0 0,.bool false,.slice none 0 0,.bool false,.slice none 0 0,.bool false,.slice none 0 0,.bool false,.slice none 0 0,.bool false,.slice none 0 0]:Ŀ Value)).toArray):=⟨OK⟩
instance GU:a prog 26 0 0:=⟨λh=>Y0.Bh h⟩
instance GV:a prog 26 1 1:=⟨λh=>Y0.zd h⟩
instance GW:a prog 34 0 0:=⟨λh=>Y0.ZAv h⟩
instance GY:a prog 34 1 1:=⟨λh=>Y0.Vs h⟩
instance GZ:a prog 34 2 2:=⟨λh=>Y0.ZAw h⟩
instance G4:a prog 37 0 0:=⟨λh=>Y0.Vt h⟩
instance G5:a prog 40 0 0:=⟨λh=>Y0.ZAx h⟩
instance G6:a prog 40 1 1:=⟨λh=>Y0.ZAy h⟩
instance G7:a prog 40 5 7:=⟨λh=>Y0.Yu h⟩
instance G8:a prog 40 6 8:=⟨λh=>Y0.Yv h⟩
instance G9:a prog 40 7 9:=⟨λh=>Y0.Yw h⟩
instance Ha:a prog 48 0 0:=⟨λh=>Y0.Gl h⟩
instance Hb:a prog 48 1 1:=⟨λh=>Y0.Mp h⟩
instance Hc:a prog 48 2 2:=⟨λh=>Y0.Ml h⟩
instance Hd:a prog 54 0 0:=⟨λh=>Y0.Vu h⟩
instance He:a prog 54 1 1:=⟨λh=>Y0.Vv h⟩
instance Hf:a prog 54 2 2:=⟨λh=>Y0.Vw h⟩
instance Hg:a prog 56 0 0:=⟨λh=>Y0.Vx h⟩
instance Hh:a prog 56 1 1:=⟨λh=>Y0.Vy h⟩
instance Hi:a prog 56 2 4:=⟨λh=>Y0.Vz h⟩
instance Hj:a prog 56 3 7:=⟨λh=>Y0.VA h⟩
instance Hk:a prog 56 4 8:=⟨λh=>Y0.VB h⟩
instance Hl:a prog 56 5 9:=⟨λh=>Y0.VC h⟩
instance Hm:a prog 56 6 10:=⟨λh=>Y0.VD h⟩
instance Hn:a prog 89 0 0:=⟨λh=>Y0.VE h⟩
instance Ho:a prog 89 1 1:=⟨λh=>Y0.VF h⟩
instance Hq:a prog 89 2 2:=⟨λh=>Y0.VG h⟩
instance Hr:a prog 89 3 3:=⟨λh=>Y0.Ve h⟩
instance Hs:a prog 89 4 4:=⟨λh=>Y0.Vf h⟩
instance Ht:a prog 89 5 5:=⟨λh=>Y0.Vg h⟩
instance Hu:a prog 89 6 6:=⟨λh=>Y0.Vh h⟩
instance Hv:a prog 89 7 7:=⟨λh=>Y0.Vi h⟩
instance Hw:a prog 89 8 8:=⟨λh=>Y0.Vj h⟩
instance Hx:a prog 94 0 0:=⟨λh=>Y0.Vk h⟩
instance Hy:a prog 94 1 3:=⟨λh=>Y0.Yx h⟩
instance Hz:a prog 94 2 6:=⟨λh=>Y0.Yy h⟩
instance B4:a prog 100 0 0:=⟨λh=>Y0.Zzy h⟩
instance B5:a prog 100 1 2:=⟨λh=>Y0.Zzz h⟩
instance B6:a prog 100 2 3:=⟨λh=>Y0.Uc h⟩
instance B7:a prog 118 0 0:=⟨λh=>Y0.Ud h⟩
instance B8:a prog 118 1 1:=⟨λh=>Y0.F8 h⟩
instance B9:a prog 120 0 0:=⟨λh=>Y0.Ue h⟩
instance Ca:a prog 120 1 2:=⟨λh=>Y0.Uf h⟩
instance Cb:a prog 129 0 0:=⟨λh=>Y0.Ug h⟩
instance Cc:a prog 129 1 1:=⟨λh=>Y0.Uh h⟩
instance Cd:a prog 129 2 2:=⟨λh=>Y0.Ui h⟩
instance Ce:a prog 129 3 3:=⟨λh=>Y0.Uj h⟩
instance Cf:a prog 147 0 0:=⟨λh=>Y0.L8 h⟩
instance Cg:a prog 147 1 4:=⟨λh=>Y0.ZzA h⟩
instance Ch:a prog 160 2 2:=⟨λh=>Y0.Uk h⟩
instance Ci:a prog 194 0 0:=⟨λh=>Y0.Ul h⟩
instance Cj:a prog 194 1 1:=⟨λh=>Y0.ZzD h⟩
instance Ck:a prog 202 0 0:=⟨λh=>Y0.UJ h⟩
instance Cm:a prog 212 0 0:=⟨λh=>Y0.y6 h⟩
instance Cn:a prog 223 0 0:=⟨λh=>Y0.UK h⟩
instance Co:a prog 223 1 4:=⟨λh=>Y0.UL h⟩
instance Cp:a prog 228 0 0:=⟨λh=>Y0.UM h⟩
instance Cs:a prog 228 1 3:=⟨λh=>Y0.ZzE h⟩
instance Ct:a prog 281 1 1:=⟨λh=>Y0.ZzG h⟩
instance Cu:a prog 281 2 2:=⟨λh=>Y0.ZzH h⟩
instance xR {x:Zg}:d rO x (λG K o=>∃ c a,(∀ (j:Nat) (u:Value),([.bool x.neg,.slice c x.χ.length a]).toArray[j]? = some u->K (o+j) u)/\Η (Rp.int .u32) G (.slice c x.χ.length a) x.χ):=⟨Kj⟩
instance wa {x:Za}:f Zk x (λG K o=>∃ e d c a,(∀ (j:Nat) (u:Value),(([.bool x.c.num.neg,.slice e x.c.num.χ.length d,.bool x.c.den.neg,.slice c x.c.den.χ.length a]:Ŀ Value)++(õ (Value.int .i64) 8 x.m)).toArray[j]? = some u->K (o+j) u)/\Η (Rp.int .u32) G (.slice e x.c.num.χ.length d) x.c.num.χ/\Η (Rp.int .u32) G (.slice c x.c.den.χ.length a) x.c.den.χ):=⟨Zts⟩
instance ry {x:Zc}:f wT x (λG K o=>∃ e d c a,(∀ (j:Nat) (u:Value),([.int .i64 x.kind,.slice e x.p.length d,.slice c x.o.length a]).toArray[j]? = some u->K (o+j) u)/\Η Zk G (.slice e x.p.length d) x.p/\Η (Rp.vec .i64 8) G (.slice c x.o.length a) x.o):=⟨Jk⟩
instance vZ {x:Ze}:k ZF x (λG K o=>∃ e d c a i h g f,(∀ (j:Nat) (u:Value),([.int .i64 x.id,.int .i64 x.k.n,.slice e x.k.eqs.length d,.slice c x.k.δ.length a,.int .i64 x.q.kind,.slice i x.q.p.length h,.slice g x.q.o.length f,.int .i64 x.υ,.int .i64 x.low,.int .i64 x.high,.bool x.done]).toArray[j]? = some u->K (o+j) u)/\Η (Rp.sl Zk) G (.slice e x.k.eqs.length d) x.k.eqs/\Η (Rp.sl Zk) G (.slice c x.k.δ.length a) x.k.δ/\Η Zk G (.slice i x.q.p.length h) x.q.p/\Η (Rp.vec .i64 8) G (.slice g x.q.o.length f) x.q.o):=⟨Q6⟩
instance uG {x:Zu}:d ZP x (λG K o=>∃ c a,(∀ (j:Nat) (u:Value),([.slice c x.t.length a]).toArray[j]? = some u->K (o+j) u)/\Η (Rp.vec .i8 5) G (.slice c x.t.length a) x.t):=⟨Zrm⟩
instance uH {x:ZM}:f tS x (λG K o=>∃ c a e d,(∀ (j:Nat) (u:Value),([.int .u8 x.kind,.slice c x.l.length a,.slice e x.v.length d]).toArray[j]? = some u->K (o+j) u)/\Η ZP G (.slice c x.l.length a) x.l/\Η (Rp.int .i8) G (.slice e x.v.length d) x.v):=⟨Zrn⟩
instance tL {x:Zt}:k yu x (λG K o=>∃ e d c a g f i h,(∀ (j:Nat) (u:Value),([.int .u8 x.fY,.int .u8 x.c.n,.slice e x.c.l.length d,.slice c x.c.iQ.length a,.int .u8 x.kind,.slice g x.p.t.length f,.int .u8 x.o,.slice i x.l.length h,.int .i64 x.id,.int .i64 x.Λ]).toArray[j]? = some u->K (o+j) u)/\Η ZP G (.slice e x.c.l.length d) x.c.l/\Η (Rp.int .u8) G (.slice c x.c.iQ.length a) x.c.iQ/\Η (Rp.vec .i8 5) G (.slice g x.p.t.length f) x.p.t/\Η tS G (.slice i x.l.length h) x.l):=⟨ZpD⟩
instance uF {x:Zj}:m yC x (λG K o=>∃ i h g f e d l k c a,(∀ (j:Nat) (u:Value),([.int .i64 x.kind,.slice i x.p.length h,.int .i64 x.n,.int .i64 x.d,.int .i64 x.r,.slice g x.o.length f,.slice e x.l.length d,.slice l x.s.length k,.slice c x.b.length a]).toArray[j]? = some u->K (o+j) u)/\Η Zk G (.slice i x.p.length h) x.p/\Η (Rp.vec .i64 8) G (.slice g x.o.length f) x.o/\Η (Rp.sl Zk) G (.slice e x.l.length d) x.l/\Η (Rp.int .i64) G (.slice l x.s.length k) x.s/\Η (Rp.arr Z2 8) G (.slice c x.b.length a) x.b):=⟨Qh⟩
instance rq {x:Zo}:d ZL x (λG K o=>∃ c a,(∀ (j:Nat) (u:Value),([.int .i64 x.id,.slice c x.p.length a]).toArray[j]? = some u->K (o+j) u)/\Η Zk G (.slice c x.p.length a) x.p):=⟨ZmP⟩
instance iu2:a prog 2 (.int .i64):=⟨underlying2⟩
instance iu3:a prog 3 (.int .i64):=⟨underlying3⟩
instance iu4:a prog 4 (.bool):=⟨underlying4⟩
instance iu5:a prog 5 (.int .u8):=⟨underlying5⟩
instance iu9:a prog 9 (.string):=⟨underlying9⟩
instance amG:a prog 22 (.slice 40):=⟨underlying22⟩
instance amH:a prog 24 (.slice 56):=⟨underlying24⟩
instance amI:a prog 31 (.slice 37):=⟨underlying31⟩
instance amJ:a prog 32 (.slice 5):=⟨underlying32⟩
instance amK:a prog 35 (.slice 197):=⟨underlying35⟩
instance amL:a prog 38 (.slice 160):=⟨underlying38⟩
instance amM:a prog 44 (.slice 3):=⟨underlying44⟩
instance amN:a prog 46 (.slice 50):=⟨underlying46⟩
instance amO:a prog 50 (.slice 147):=⟨underlying50⟩
instance amP:a prog 51 (.slice 71):=⟨underlying51⟩
instance amQ:a prog 52 (.slice 71):=⟨underlying52⟩
instance amR:a prog 71 (.array 8 3):=⟨underlying71⟩
instance amS:a prog 82 (.slice 89):=⟨underlying82⟩
instance amT:a prog 87 (.slice 225):=⟨underlying87⟩
instance amU:a prog 90 (.slice 54):=⟨underlying90⟩
instance Xb:a prog 116 (.slice 248):=⟨underlying116⟩
instance Xc:a prog 126 (.slice 9):=⟨underlying126⟩
instance Xd:a prog 127 (.slice 194):=⟨underlying127⟩
instance Xe:a prog 143 (.array 8 4):=⟨underlying143⟩
instance Xf:a prog 145 (.array 8 3):=⟨underlying145⟩
instance Xg:a prog 169 (.int .u64):=⟨underlying169⟩
instance Xh:a prog 170 (.slice 46):=⟨underlying170⟩
instance Xi:a prog 196 (.int .i8):=⟨underlying196⟩
instance Xj:a prog 197 (.array 5 196):=⟨underlying197⟩
instance Xk:a prog 248 (.int .u32):=⟨underlying248⟩
instance Xl:a prog 250 (.int .u64):=⟨underlying250⟩
instance Xn:a prog 322 (.slice 118):=⟨underlying322⟩
instance Xo:a prog 324 (.slice 325):=⟨underlying324⟩
instance ix0 {k:IntKind}{x:Int}:a (Rp.int k) x (λ_ K o=>K o (.int k x)):=⟨AtK.int⟩
instance ix3 {α:Type}{r:Rp α}{x:Ŀ α}:a (Rp.sl r) x (λG K o=>∃ p cap,K o (.slice p x.length cap)/\Η r G (.slice p x.length cap) x):=⟨AtK.sl⟩
instance ix5 {k:IntKind}{n:Nat}{x:Fin n->Int}:a (Rp.vec k n) x (λ_ K o=>∀ j u,(EL.õ (Value.int k) n x).toArray[j]? = some u->K (o+j) u):=⟨AtK.vec⟩
theorem Zvr{G:Mem}{c:Bool}{d:(Ŀ Int)}{a:Value}(h2:Η (Rp.int .u32) G (a) d):rO.fh G ([.bool c,a]) ((Zg.mk c d)):=⟨[.bool c],[a],rfl,rfl,⟨_,rfl,h2⟩⟩
theorem Zvs{G:Mem}{d:Bool}{f:(Ŀ Int)}{a:Value}{e:Bool}{g:(Ŀ Int)}{c:Value}(h2:Η (Rp.int .u32) G (a) f)(h:Η (Rp.int .u32) G (c) g):tp.fh G ([.bool d,a,.bool e,c]) ((Zf.mk (Zg.mk d f) (Zg.mk e g))):=⟨[.bool d,a],[.bool e,c],rfl,⟨[.bool d],[a],rfl,rfl,⟨_,rfl,h2⟩⟩,⟨[.bool e],[c],rfl,rfl,⟨_,rfl,h⟩⟩⟩
theorem ZtD{G:Mem}{d:Bool}{g:(Ŀ Int)}{a:Value}{e:Bool}{h:(Ŀ Int)}{c:Value}{f:(Fin 8->Int)}(h2:Η (Rp.int .u32) G (a) g)(i:Η (Rp.int .u32) G (c) h):Zk.fh G (([.bool d,a,.bool e,c]:Ŀ Value)++(õ (Value.int .i64) 8 f)) ((Za.mk (Zf.mk (Zg.mk d g) (Zg.mk e h)) f)):=⟨[.bool d,a,.bool e,c],õ (Value.int .i64) 8 f,rfl,⟨[.bool d,a],[.bool e,c],rfl,⟨[.bool d],[a],rfl,rfl,⟨_,rfl,h2⟩⟩,⟨[.bool e],[c],rfl,rfl,⟨_,rfl,i⟩⟩⟩,rfl⟩
theorem ZtB{G:Mem}{d:Int}(e:(Ŀ (Ŀ Za))){a:Value}(f:(Ŀ (Ŀ Za))){c:Value}(h2:Η (Rp.sl Zk) G (a) e)(h3:Η (Rp.sl Zk) G (c) f):tP.fh G ([.int .i64 d,a,c]) ((Zb.mk d e f)):=⟨[.int .i64 d],[a,c],rfl,rfl,⟨[a],[c],rfl,⟨_,rfl,h2⟩,⟨_,rfl,h3⟩⟩⟩
theorem Zm8{G:Mem}{d:Int}{e:(Ŀ Za)}{a:Value}(f:(Ŀ (Fin 8->Int))){c:Value}(h2:Η Zk G (a) e)(h3:Η (Rp.vec .i64 8) G (c) f):wT.fh G ([.int .i64 d,a,c]) ((Zc.mk d e f)):=⟨[.int .i64 d],[a,c],rfl,rfl,⟨[a],[c],rfl,⟨_,rfl,h2⟩,⟨_,rfl,h3⟩⟩⟩
theorem ZtC{G:Mem}{l:Int}{k:Int}(m:(Ŀ (Ŀ Za))){g:Value}(n:(Ŀ (Ŀ Za))){h:Value}{i:Int}{p:(Ŀ Za)}{d:Value}(q:(Ŀ (Fin 8->Int))){e:Value}{j:Int}{f:Int}{a:Int}{c:Bool}(h3:Η (Rp.sl Zk) G (g) m)(r:Η (Rp.sl Zk) G (h) n)(s:Η Zk G (d) p)(h7:Η (Rp.vec .i64 8) G (e) q):ZF.fh G ([.int .i64 l,.int .i64 k,g,h,.int .i64 i,d,e,.int .i64 j,.int .i64 f,.int .i64 a,.bool c]) ((Ze.mk l (Zb.mk k m n) (Zc.mk i p q) j f a c)):=⟨[.int .i64 l],[.int .i64 k,g,h,.int .i64 i,d,e,.int .i64 j,.int .i64 f,.int .i64 a,.bool c],rfl,rfl,⟨[.int .i64 k,g,h],[.int .i64 i,d,e,.int .i64 j,.int .i64 f,.int .i64 a,.bool c],rfl,⟨[.int .i64 k],[g,h],rfl,rfl,⟨[g],[h],rfl,⟨_,rfl,h3⟩,⟨_,rfl,r⟩⟩⟩,⟨[.int .i64 i,d,e],[.int .i64 j,.int .i64 f,.int .i64 a,.bool c],rfl,⟨[.int .i64 i],[d,e],rfl,rfl,⟨[d],[e],rfl,⟨_,rfl,s⟩,⟨_,rfl,h7⟩⟩⟩,⟨[.int .i64 j],[.int .i64 f,.int .i64 a,.bool c],rfl,rfl,⟨[.int .i64 f],[.int .i64 a,.bool c],rfl,rfl,⟨[.int .i64 a],[.bool c],rfl,rfl,rfl⟩⟩⟩⟩⟩⟩
theorem ZrY{G:Mem}{d:(Ŀ Ze)}{a:Value}{c:Int}(e:Η ZF G (a) d):QK.fh G ([a,.int .i64 c]) ((Zd.mk d c)):=⟨[a],[.int .i64 c],rfl,⟨_,rfl,e⟩,rfl⟩
theorem Zr1{G:Mem}(c:(Ŀ (Fin 5->Int))){a:Value}(d:Η (Rp.vec .i8 5) G (a) c):ZP.fh G ([a]) ((Zu.mk c)):=⟨_,rfl,d⟩
theorem Zr3{G:Mem}{d:Int}{e:(Ŀ Zu)}{a:Value}{f:(Ŀ Int)}{c:Value}(h2:Η ZP G (a) e)(h3:Η (Rp.int .u8) G (c) f):Kh.fh G ([.int .u8 d,a,c]) ((ZA.mk d e f)):=⟨[.int .u8 d],[a,c],rfl,rfl,⟨[a],[c],rfl,⟨_,rfl,h2⟩,⟨_,rfl,h3⟩⟩⟩
theorem Zr2{G:Mem}{d:Int}{e:(Ŀ Zu)}{a:Value}{f:(Ŀ Int)}{c:Value}(h2:Η ZP G (a) e)(h3:Η (Rp.int .i8) G (c) f):tS.fh G ([.int .u8 d,a,c]) ((ZM.mk d e f)):=⟨[.int .u8 d],[a,c],rfl,rfl,⟨[a],[c],rfl,⟨_,rfl,h2⟩,⟨_,rfl,h3⟩⟩⟩
theorem ZpL{G:Mem}{k:Int}{i:Int}{l:(Ŀ Zu)}{f:Value}{m:(Ŀ Int)}{g:Value}{j:Int}(n:(Ŀ (Fin 5->Int))){h:Value}{e:Int}{p:(Ŀ ZM)}{d:Value}{c:Int}{a:Int}(h3:Η ZP G (f) l)(q:Η (Rp.int .u8) G (g) m)(r:Η (Rp.vec .i8 5) G (h) n)(s:Η tS G (d) p):yu.fh G ([.int .u8 k,.int .u8 i,f,g,.int .u8 j,h,.int .u8 e,d,.int .i64 c,.int .i64 a]) ((Zt.mk k (ZA.mk i l m) j (Zu.mk n) e p c a)):=⟨[.int .u8 k],[.int .u8 i,f,g,.int .u8 j,h,.int .u8 e,d,.int .i64 c,.int .i64 a],rfl,rfl,⟨[.int .u8 i,f,g],[.int .u8 j,h,.int .u8 e,d,.int .i64 c,.int .i64 a],rfl,⟨[.int .u8 i],[f,g],rfl,rfl,⟨[f],[g],rfl,⟨_,rfl,h3⟩,⟨_,rfl,q⟩⟩⟩,⟨[.int .u8 j],[h,.int .u8 e,d,.int .i64 c,.int .i64 a],rfl,rfl,⟨[h],[.int .u8 e,d,.int .i64 c,.int .i64 a],rfl,⟨_,rfl,r⟩,⟨[.int .u8 e],[d,.int .i64 c,.int .i64 a],rfl,rfl,⟨[d],[.int .i64 c,.int .i64 a],rfl,⟨_,rfl,s⟩,⟨[.int .i64 c],[.int .i64 a],rfl,rfl,rfl⟩⟩⟩⟩⟩⟩⟩
theorem Zm7{G:Mem}{f:Bool}{j:(Ŀ Int)}{a:Value}{g:Bool}{k:(Ŀ Int)}{c:Value}{h:Bool}{l:(Ŀ Int)}{d:Value}{i:Bool}{m:(Ŀ Int)}{e:Value}(h2:Η (Rp.int .u32) G (a) j)(n:Η (Rp.int .u32) G (c) k)(p:Η (Rp.int .u32) G (d) l)(q:Η (Rp.int .u32) G (e) m):Z2.fh G ([.bool f,a,.bool g,c,.bool h,d,.bool i,e]) ((Zl.mk (Zf.mk (Zg.mk f j) (Zg.mk g k)) (Zf.mk (Zg.mk h l) (Zg.mk i m)))):=⟨[.bool f,a,.bool g,c],[.bool h,d,.bool i,e],rfl,⟨[.bool f,a],[.bool g,c],rfl,⟨[.bool f],[a],rfl,rfl,⟨_,rfl,h2⟩⟩,⟨[.bool g],[c],rfl,rfl,⟨_,rfl,n⟩⟩⟩,⟨[.bool h,d],[.bool i,e],rfl,⟨[.bool h],[d],rfl,rfl,⟨_,rfl,p⟩⟩,⟨[.bool i],[e],rfl,rfl,⟨_,rfl,q⟩⟩⟩⟩
theorem ZrZ{G:Mem}{j:Int}{k:(Ŀ Za)}{i:Value}{h:Int}{g:Int}{f:Int}(l:(Ŀ (Fin 8->Int))){e:Value}(m:(Ŀ (Ŀ Za))){d:Value}{n:(Ŀ Int)}{a:Value}(p:(Ŀ (Ŀ Zl))){c:Value}(h2:Η Zk G (i) k)(q:Η (Rp.vec .i64 8) G (e) l)(h7:Η (Rp.sl Zk) G (d) m)(r:Η (Rp.int .i64) G (a) n)(s:Η (Rp.arr Z2 8) G (c) p):yC.fh G ([.int .i64 j,i,.int .i64 h,.int .i64 g,.int .i64 f,e,d,a,c]) ((Zj.mk j k h g f l m n p)):=⟨[.int .i64 j],[i,.int .i64 h,.int .i64 g,.int .i64 f,e,d,a,c],rfl,rfl,⟨[i],[.int .i64 h,.int .i64 g,.int .i64 f,e,d,a,c],rfl,⟨_,rfl,h2⟩,⟨[.int .i64 h],[.int .i64 g,.int .i64 f,e,d,a,c],rfl,rfl,⟨[.int .i64 g],[.int .i64 f,e,d,a,c],rfl,rfl,⟨[.int .i64 f],[e,d,a,c],rfl,rfl,⟨[e],[d,a,c],rfl,⟨_,rfl,q⟩,⟨[d],[a,c],rfl,⟨_,rfl,h7⟩,⟨[a],[c],rfl,⟨_,rfl,r⟩,⟨_,rfl,s⟩⟩⟩⟩⟩⟩⟩⟩⟩
theorem Zj8{G:Mem}{g:Int}(i:(Ŀ (Ŀ Za))){d:Value}(j:(Ŀ (Ŀ Za))){e:Value}{f:Int}{k:(Ŀ Za)}{a:Value}(l:(Ŀ (Fin 8->Int))){c:Value}{h:Int}(h2:Η (Rp.sl Zk) G (d) i)(h3:Η (Rp.sl Zk) G (e) j)(m:Η Zk G (a) k)(n:Η (Rp.vec .i64 8) G (c) l):Zkp.fh G ([.int .i64 g,d,e,.int .i64 f,a,c,.int .i64 h]) ((ZE.mk (Zb.mk g i j) (Zc.mk f k l) h)):=⟨[.int .i64 g,d,e],[.int .i64 f,a,c,.int .i64 h],rfl,⟨[.int .i64 g],[d,e],rfl,rfl,⟨[d],[e],rfl,⟨_,rfl,h2⟩,⟨_,rfl,h3⟩⟩⟩,⟨[.int .i64 f,a,c],[.int .i64 h],rfl,⟨[.int .i64 f],[a,c],rfl,rfl,⟨[a],[c],rfl,⟨_,rfl,m⟩,⟨_,rfl,n⟩⟩⟩,rfl⟩⟩
theorem Zog{G:Mem}{f:(Ŀ Ze)}{a:Value}{c:Int}{d:Int}{e:Int}(g:Η ZF G (a) f):Zol.fh G ([a,.int .i64 c,.int .i64 d,.int .i64 e]) ((Zv.mk (Zd.mk f c) d e)):=⟨[a,.int .i64 c],[.int .i64 d,.int .i64 e],rfl,⟨[a],[.int .i64 c],rfl,⟨_,rfl,g⟩,rfl⟩,⟨[.int .i64 d],[.int .i64 e],rfl,rfl,rfl⟩⟩
theorem Zm6{G:Mem}{c:Int}{d:(Ŀ Za)}{a:Value}(h2:Η Zk G (a) d):ZL.fh G ([.int .i64 c,a]) ((Zo.mk c d)):=⟨[.int .i64 c],[a],rfl,rfl,⟨_,rfl,h2⟩⟩
theorem ZpK{G:Mem}{f:(Ŀ Ĳ)}{e:Value}{g:(Ŀ Zo)}{d:Value}{h:(Ŀ Zo)}{a:Value}{c:Int}(i:Η Rp.str G (e) f)(h2:Η ZL G (d) g)(h3:Η ZL G (a) h):ZpW.fh G ([e,d,a,.int .i64 c]) ((Zx.mk f g h c)):=⟨[e],[d,a,.int .i64 c],rfl,⟨_,rfl,i⟩,⟨[d],[a,.int .i64 c],rfl,⟨_,rfl,h2⟩,⟨[a],[.int .i64 c],rfl,⟨_,rfl,h3⟩,rfl⟩⟩⟩
theorem Zof{G:Mem}{d:Int}(e:(Ŀ (Ŀ Za))){a:Value}(f:(Ŀ (Ŀ Za))){c:Value}(h2:Η (Rp.sl Zk) G (a) e)(h3:Η (Rp.sl Zk) G (c) f):Px.fh G ([.int .i64 d,a,c]) ((ZD.mk (Zb.mk d e f))):=⟨[.int .i64 d],[a,c],rfl,rfl,⟨[a],[c],rfl,⟨_,rfl,h2⟩,⟨_,rfl,h3⟩⟩⟩
theorem Zm9{G:Mem}{p:Int}(u:(Ŀ (Ŀ Za))){i:Value}(v:(Ŀ (Ŀ Za))){j:Value}{q:Int}{x:(Ŀ Za)}{k:Value}{h:Int}{g:Int}{f:Int}(y:(Ŀ (Fin 8->Int))){e:Value}(l:(Ŀ (Ŀ Za))){d:Value}{m:(Ŀ Int)}{a:Value}(n:(Ŀ (Ŀ Zl))){c:Value}(h2:Η (Rp.sl Zk) G (i) u)(h3:Η (Rp.sl Zk) G (j) v)(A:Η Zk G (k) x)(B:Η (Rp.vec .i64 8) G (e) y)(r:Η (Rp.sl Zk) G (d) l)(s:Η (Rp.int .i64) G (a) m)(t:Η (Rp.arr Z2 8) G (c) n):Znp.fh G ([.int .i64 p,i,j,.int .i64 q,k,.int .i64 h,.int .i64 g,.int .i64 f,e,d,a,c]) ((vj.mk (ZD.mk (Zb.mk p u v)) (Zj.mk q x h g f y l m n))):=⟨[.int .i64 p,i,j],[.int .i64 q,k,.int .i64 h,.int .i64 g,.int .i64 f,e,d,a,c],rfl,⟨[.int .i64 p],[i,j],rfl,rfl,⟨[i],[j],rfl,⟨_,rfl,h2⟩,⟨_,rfl,h3⟩⟩⟩,⟨[.int .i64 q],[k,.int .i64 h,.int .i64 g,.int .i64 f,e,d,a,c],rfl,rfl,⟨[k],[.int .i64 h,.int .i64 g,.int .i64 f,e,d,a,c],rfl,⟨_,rfl,A⟩,⟨[.int .i64 h],[.int .i64 g,.int .i64 f,e,d,a,c],rfl,rfl,⟨[.int .i64 g],[.int .i64 f,e,d,a,c],rfl,rfl,⟨[.int .i64 f],[e,d,a,c],rfl,rfl,⟨[e],[d,a,c],rfl,⟨_,rfl,B⟩,⟨[d],[a,c],rfl,⟨_,rfl,r⟩,⟨[a],[c],rfl,⟨_,rfl,s⟩,⟨_,rfl,t⟩⟩⟩⟩⟩⟩⟩⟩⟩⟩
theorem Zr0{G:Mem}{d:Int}{a:Int}{c:Int}:Zsp.fh G ([.int .i8 d,.int .i8 a,.int .u8 c]) ((vg.mk d a c)):=⟨[.int .i8 d],[.int .i8 a,.int .u8 c],rfl,rfl,⟨[.int .i8 a],[.int .u8 c],rfl,rfl,rfl⟩⟩
theorem N7{α:Type}{r:Rp α}{G:Mem}{cs:Ŀ Value}{x:α}(h:r.fh G cs x:=by first|(apply Zvr <;> exact gJ)|(apply Zvs <;> exact gJ)|(apply ZtD <;> exact gJ)|(apply ZtB <;> exact gJ)|(apply Zm8 <;> exact gJ)|(apply ZtC <;> exact gJ)|(apply ZrY <;> exact gJ)|(apply Zr1 <;> exact gJ)|(apply Zr3 <;> exact gJ)|(apply Zr2 <;> exact gJ)|(apply ZpL <;> exact gJ)|(apply Zm7 <;> exact gJ)|(apply ZrZ <;> exact gJ)|(apply Zj8 <;> exact gJ)|(apply Zog <;> exact gJ)|(apply Zm6 <;> exact gJ)|(apply ZpK <;> exact gJ)|(apply Zof <;> exact gJ)|(apply Zm9 <;> exact gJ)|(apply Zr0 <;> exact gJ)):r.fh G cs x:=h
instance amt:a prog 5 (.int .u8 0) 1 1:=⟨GH⟩
instance Ww:a prog 50 (.slice none 0 0) 1 24:=⟨js⟩
instance Wx:a prog 56 (.agg ([.int .i64 0,.int .i64 0,.slice none 0 0,.slice none 0 0,.int .i64 0,.slice none 0 0,.slice none 0 0,.int .i64 0,.int .i64 0,.int .i64 0,.bool false]).toArray) 11 152:=⟨qK⟩
instance Wy:a prog 71 (.agg (õ (Value.int .i64) 8 (λ_=>0)).toArray) 8 64:=⟨nW⟩
instance Nt:a prog 248 (.int .u32 0) 1 4:=⟨vS⟩
instance HA:a prog 26 1 1:=⟨trivial⟩
instance HB:a prog 54 0 0:=⟨trivial⟩
instance HC:a prog 54 1 1:=⟨trivial⟩
instance HD:a prog 94 0 0:=⟨trivial⟩
instance HE:a prog 94 1 3:=⟨trivial⟩
instance HF:a prog 94 2 6:=⟨trivial⟩
instance Cv:a prog 100 0 0:=⟨trivial⟩
instance Cw:a prog 100 1 2:=⟨trivial⟩
instance Cx:a prog 100 2 3:=⟨trivial⟩
instance Cy:a prog 129 0 0:=⟨trivial⟩
instance Cz:a prog 129 3 3:=⟨trivial⟩
instance CA:a prog 147 0 0:=⟨trivial⟩
instance amw:a prog 3 _ (Rp.int .i64):=⟨trivial⟩
instance amx:a prog 5 _ (Rp.int .u8):=⟨trivial⟩
instance amy:a prog 9 _ Rp.str:=⟨trivial⟩
instance WA:a prog 50 _ (Rp.sl Zk):=⟨trivial⟩
instance WB:a prog 54 _ wT:=⟨trivial⟩
instance WD:a prog 56 _ ZF:=⟨trivial⟩
instance WG:a prog 71 _ (Rp.vec .i64 8):=⟨trivial⟩
instance WH:a prog 89 _ yC:=⟨trivial⟩
instance Nu:a prog 147 _ Zk:=⟨trivial⟩
instance Nv:a prog 194 _ ZL:=⟨trivial⟩
instance Nw:a prog 248 _ (Rp.int .u32):=⟨trivial⟩
instance amu:a prog:=⟨eL⟩
end Go.Proofs.YtepbagkffgddlaaGreat

namespace Go.Proofs
open Go.IntKind (i8 i16 i32 i64 u8 u16 u32 u64)
open Go.Shelf
def Tryz.Zxr:Go.Shelf.Ren:=⟨fun|14=>212|20=>270|21=>271|22=>272|23=>273|24=>274|25=>275|26=>276|27=>277|46=>314|47=>246|48=>247|49=>315|50=>316|15=>97|57=>332|28=>179|29=>180|n=>n,fun|24=>147|22=>49|3=>3|25=>206|4=>4|0=>0|46=>242|45=>241|50=>142|66=>295|39=>169|55=>250|70=>299|76=>329|77=>229|53=>248|5=>5|9=>9|n=>n,fun|n=>n⟩
theorem Tryz.Da:Go.Proofs.SlLaysF0.n14 Tryz.prog Tryz.Zxr:={
 mixed:=by kernel_rfl
 f14:=⟨Tryz.f212.name,by decide,Tryz.func212.trans (đ some (by kernel_rfl))⟩
 f15:=Tryz.func97.trans (đ some (by kernel_rfl))
 f20:=⟨Tryz.f270.name,by decide,Tryz.func270.trans (đ some (by kernel_rfl))⟩
 f21:=⟨Tryz.f271.name,by decide,Tryz.func271.trans (đ some (by kernel_rfl))⟩
 f22:=⟨Tryz.f272.name,by decide,Tryz.func272.trans (đ some (by kernel_rfl))⟩
 f23:=⟨Tryz.f273.name,by decide,Tryz.func273.trans (đ some (by kernel_rfl))⟩
 f24:=⟨Tryz.f274.name,by decide,Tryz.func274.trans (đ some (by kernel_rfl))⟩
 f25:=⟨Tryz.f275.name,by decide,Tryz.func275.trans (đ some (by kernel_rfl))⟩
 f26:=⟨Tryz.f276.name,by decide,Tryz.func276.trans (đ some (by kernel_rfl))⟩
 f27:=⟨Tryz.f277.name,by decide,Tryz.func277.trans (đ some (by kernel_rfl))⟩
 f28:=Tryz.func179.trans (đ some (by kernel_rfl))
 f29:=Tryz.func180.trans (đ some (by kernel_rfl))
 f46:=⟨Tryz.f314.name,by decide,Tryz.func314.trans (đ some (by kernel_rfl))⟩
 f47:=Tryz.func246.trans (đ some (by kernel_rfl))
 f48:=Tryz.func247.trans (đ some (by kernel_rfl))
 f49:=⟨Tryz.f315.name,by decide,Tryz.func315.trans (đ some (by kernel_rfl))⟩
 f50:=⟨Tryz.f316.name,by decide,Tryz.func316.trans (đ some (by kernel_rfl))⟩
 f57:=⟨Tryz.f332.name,by decide,Tryz.func332.trans (đ some (by kernel_rfl))⟩
 t0:=Tryz.underlying0
 a0:=Tryz.isAgg0
 z0:=Tryz.sizeOf0
 v0:=Tryz.zeroValue0
 t3:=Tryz.underlying3
 a3:=Tryz.isAgg3
 z3:=Tryz.sizeOf3
 v3:=Tryz.zeroValue3
 t4:=Tryz.underlying4
 a4:=Tryz.isAgg4
 z4:=Tryz.sizeOf4
 v4:=Tryz.zeroValue4
 t5:=Tryz.underlying5
 a5:=Tryz.isAgg5
 z5:=Tryz.sizeOf5
 v5:=Tryz.zeroValue5
 t9:=Tryz.underlying9
 a9:=Tryz.isAgg9
 z9:=Tryz.sizeOf9
 v9:=Tryz.zeroValue9
 t22:=Tryz.underlying49
 a22:=Tryz.isAgg49
 z22:=Tryz.sizeOf49
 v22:=Tryz.zeroValue49
 t25:=Tryz.underlying206
 a25:=Tryz.isAgg206
 z25:=Tryz.sizeOf206
 v25:=Tryz.zeroValue206
 t39:=Tryz.underlying169
 a39:=Tryz.isAgg169
 z39:=Tryz.sizeOf169
 v39:=Tryz.zeroValue169
 t45:=Tryz.underlying241
 a45:=Tryz.isAgg241
 z45:=Tryz.sizeOf241
 v45:=Tryz.zeroValue241
 t46:=Tryz.underlying242
 a46:=Tryz.isAgg242
 z46:=Tryz.sizeOf242
 v46:=Tryz.zeroValue242
 t50:=Tryz.underlying142
 a50:=Tryz.isAgg142
 z50:=Tryz.sizeOf142
 v50:=Tryz.zeroValue142
 t53:=Tryz.underlying248
 a53:=Tryz.isAgg248
 z53:=Tryz.sizeOf248
 v53:=Tryz.zeroValue248
 t55:=Tryz.underlying250
 a55:=Tryz.isAgg250
 z55:=Tryz.sizeOf250
 v55:=Tryz.zeroValue250
 t66:=Tryz.underlying295
 a66:=Tryz.isAgg295
 z66:=Tryz.sizeOf295
 v66:=Tryz.zeroValue295
 t70:=Tryz.underlying299
 a70:=Tryz.isAgg299
 z70:=Tryz.sizeOf299
 v70:=Tryz.zeroValue299
 t76:=Tryz.underlying329
 a76:=Tryz.isAgg329
 z76:=Tryz.sizeOf329
 v76:=Tryz.zeroValue329
 t77:=Tryz.underlying229
 a77:=Tryz.isAgg229
 z77:=Tryz.sizeOf229
 v77:=Tryz.zeroValue229 }
def Tryz.Zxs:Go.Shelf.Ren:=⟨fun|14=>259|20=>296|21=>297|22=>298|23=>299|24=>300|25=>301|26=>302|27=>303|46=>325|47=>246|48=>247|49=>326|50=>327|15=>97|57=>339|28=>179|29=>180|n=>n,fun|24=>50|22=>46|3=>3|25=>189|4=>4|0=>0|46=>242|45=>241|50=>142|66=>295|39=>169|55=>250|70=>299|76=>329|77=>229|53=>248|5=>5|9=>9|n=>n,fun|n=>n⟩
theorem Tryz.Db:Go.Proofs.SlLaysF.n14 Tryz.prog Tryz.Zxs:={
 mixed:=by kernel_rfl
 f14:=⟨Tryz.f259.name,by decide,Tryz.func259.trans (đ some (by kernel_rfl))⟩
 f15:=Tryz.func97.trans (đ some (by kernel_rfl))
 f20:=⟨Tryz.f296.name,by decide,Tryz.func296.trans (đ some (by kernel_rfl))⟩
 f21:=⟨Tryz.f297.name,by decide,Tryz.func297.trans (đ some (by kernel_rfl))⟩
 f22:=⟨Tryz.f298.name,by decide,Tryz.func298.trans (đ some (by kernel_rfl))⟩
 f23:=⟨Tryz.f299.name,by decide,Tryz.func299.trans (đ some (by kernel_rfl))⟩
 f24:=⟨Tryz.f300.name,by decide,Tryz.func300.trans (đ some (by kernel_rfl))⟩
 f25:=⟨Tryz.f301.name,by decide,Tryz.func301.trans (đ some (by kernel_rfl))⟩
 f26:=⟨Tryz.f302.name,by decide,Tryz.func302.trans (đ some (by kernel_rfl))⟩
 f27:=⟨Tryz.f303.name,by decide,Tryz.func303.trans (đ some (by kernel_rfl))⟩
 f28:=Tryz.func179.trans (đ some (by kernel_rfl))
 f29:=Tryz.func180.trans (đ some (by kernel_rfl))
 f46:=⟨Tryz.f325.name,by decide,Tryz.func325.trans (đ some (by kernel_rfl))⟩
 f47:=Tryz.func246.trans (đ some (by kernel_rfl))
 f48:=Tryz.func247.trans (đ some (by kernel_rfl))
 f49:=⟨Tryz.f326.name,by decide,Tryz.func326.trans (đ some (by kernel_rfl))⟩
 f50:=⟨Tryz.f327.name,by decide,Tryz.func327.trans (đ some (by kernel_rfl))⟩
 f57:=⟨Tryz.f339.name,by decide,Tryz.func339.trans (đ some (by kernel_rfl))⟩
 t0:=Tryz.underlying0
 a0:=Tryz.isAgg0
 z0:=Tryz.sizeOf0
 v0:=Tryz.zeroValue0
 t3:=Tryz.underlying3
 a3:=Tryz.isAgg3
 z3:=Tryz.sizeOf3
 v3:=Tryz.zeroValue3
 t4:=Tryz.underlying4
 a4:=Tryz.isAgg4
 z4:=Tryz.sizeOf4
 v4:=Tryz.zeroValue4
 t5:=Tryz.underlying5
 a5:=Tryz.isAgg5
 z5:=Tryz.sizeOf5
 v5:=Tryz.zeroValue5
 t9:=Tryz.underlying9
 a9:=Tryz.isAgg9
 z9:=Tryz.sizeOf9
 v9:=Tryz.zeroValue9
 t22:=Tryz.underlying46
 a22:=Tryz.isAgg46
 z22:=Tryz.sizeOf46
 v22:=Tryz.zeroValue46
 a24:=Tryz.isAgg50
 z24:=Tryz.sizeOf50
 t25:=Tryz.underlying189
 a25:=Tryz.isAgg189
 z25:=Tryz.sizeOf189
 v25:=Tryz.zeroValue189
 t39:=Tryz.underlying169
 a39:=Tryz.isAgg169
 z39:=Tryz.sizeOf169
 v39:=Tryz.zeroValue169
 t45:=Tryz.underlying241
 a45:=Tryz.isAgg241
 z45:=Tryz.sizeOf241
 v45:=Tryz.zeroValue241
 t46:=Tryz.underlying242
 a46:=Tryz.isAgg242
 z46:=Tryz.sizeOf242
 v46:=Tryz.zeroValue242
 t50:=Tryz.underlying142
 a50:=Tryz.isAgg142
 z50:=Tryz.sizeOf142
 v50:=Tryz.zeroValue142
 t53:=Tryz.underlying248
 a53:=Tryz.isAgg248
 z53:=Tryz.sizeOf248
 v53:=Tryz.zeroValue248
 t55:=Tryz.underlying250
 a55:=Tryz.isAgg250
 z55:=Tryz.sizeOf250
 v55:=Tryz.zeroValue250
 t66:=Tryz.underlying295
 a66:=Tryz.isAgg295
 z66:=Tryz.sizeOf295
 v66:=Tryz.zeroValue295
 t70:=Tryz.underlying299
 a70:=Tryz.isAgg299
 z70:=Tryz.sizeOf299
 v70:=Tryz.zeroValue299
 t76:=Tryz.underlying329
 a76:=Tryz.isAgg329
 z76:=Tryz.sizeOf329
 v76:=Tryz.zeroValue329
 t77:=Tryz.underlying229
 a77:=Tryz.isAgg229
 z77:=Tryz.sizeOf229
 v77:=Tryz.zeroValue229 }
def Tryz.Zxt:Go.Shelf.Ren:=⟨fun|14=>96|20=>171|21=>172|22=>173|23=>174|24=>175|25=>176|26=>177|27=>178|46=>245|47=>246|48=>247|49=>248|50=>249|15=>97|57=>295|28=>179|29=>180|n=>n,fun|24=>56|22=>24|3=>3|25=>110|4=>4|0=>0|46=>242|45=>241|50=>142|66=>295|39=>169|55=>250|70=>299|76=>329|77=>229|53=>248|5=>5|9=>9|n=>n,fun|n=>n⟩
theorem Tryz.Dc:Go.Proofs.SlLaysF0.n14 Tryz.prog Tryz.Zxt:={
 mixed:=by kernel_rfl
 f14:=⟨Tryz.f96.name,by decide,Tryz.func96.trans (đ some (by kernel_rfl))⟩
 f15:=Tryz.func97.trans (đ some (by kernel_rfl))
 f20:=⟨Tryz.f171.name,by decide,Tryz.func171.trans (đ some (by kernel_rfl))⟩
 f21:=⟨Tryz.f172.name,by decide,Tryz.func172.trans (đ some (by kernel_rfl))⟩
 f22:=⟨Tryz.f173.name,by decide,Tryz.func173.trans (đ some (by kernel_rfl))⟩
 f23:=⟨Tryz.f174.name,by decide,Tryz.func174.trans (đ some (by kernel_rfl))⟩
 f24:=⟨Tryz.f175.name,by decide,Tryz.func175.trans (đ some (by kernel_rfl))⟩
 f25:=⟨Tryz.f176.name,by decide,Tryz.func176.trans (đ some (by kernel_rfl))⟩
 f26:=⟨Tryz.f177.name,by decide,Tryz.func177.trans (đ some (by kernel_rfl))⟩
 f27:=⟨Tryz.f178.name,by decide,Tryz.func178.trans (đ some (by kernel_rfl))⟩
 f28:=Tryz.func179.trans (đ some (by kernel_rfl))
 f29:=Tryz.func180.trans (đ some (by kernel_rfl))
 f46:=⟨Tryz.f245.name,by decide,Tryz.func245.trans (đ some (by kernel_rfl))⟩
 f47:=Tryz.func246.trans (đ some (by kernel_rfl))
 f48:=Tryz.func247.trans (đ some (by kernel_rfl))
 f49:=⟨Tryz.f248.name,by decide,Tryz.func248.trans (đ some (by kernel_rfl))⟩
 f50:=⟨Tryz.f249.name,by decide,Tryz.func249.trans (đ some (by kernel_rfl))⟩
 f57:=⟨Tryz.f295.name,by decide,Tryz.func295.trans (đ some (by kernel_rfl))⟩
 t0:=Tryz.underlying0
 a0:=Tryz.isAgg0
 z0:=Tryz.sizeOf0
 v0:=Tryz.zeroValue0
 t3:=Tryz.underlying3
 a3:=Tryz.isAgg3
 z3:=Tryz.sizeOf3
 v3:=Tryz.zeroValue3
 t4:=Tryz.underlying4
 a4:=Tryz.isAgg4
 z4:=Tryz.sizeOf4
 v4:=Tryz.zeroValue4
 t5:=Tryz.underlying5
 a5:=Tryz.isAgg5
 z5:=Tryz.sizeOf5
 v5:=Tryz.zeroValue5
 t9:=Tryz.underlying9
 a9:=Tryz.isAgg9
 z9:=Tryz.sizeOf9
 v9:=Tryz.zeroValue9
 t22:=Tryz.underlying24
 a22:=Tryz.isAgg24
 z22:=Tryz.sizeOf24
 v22:=Tryz.zeroValue24
 t25:=Tryz.underlying110
 a25:=Tryz.isAgg110
 z25:=Tryz.sizeOf110
 v25:=Tryz.zeroValue110
 t39:=Tryz.underlying169
 a39:=Tryz.isAgg169
 z39:=Tryz.sizeOf169
 v39:=Tryz.zeroValue169
 t45:=Tryz.underlying241
 a45:=Tryz.isAgg241
 z45:=Tryz.sizeOf241
 v45:=Tryz.zeroValue241
 t46:=Tryz.underlying242
 a46:=Tryz.isAgg242
 z46:=Tryz.sizeOf242
 v46:=Tryz.zeroValue242
 t50:=Tryz.underlying142
 a50:=Tryz.isAgg142
 z50:=Tryz.sizeOf142
 v50:=Tryz.zeroValue142
 t53:=Tryz.underlying248
 a53:=Tryz.isAgg248
 z53:=Tryz.sizeOf248
 v53:=Tryz.zeroValue248
 t55:=Tryz.underlying250
 a55:=Tryz.isAgg250
 z55:=Tryz.sizeOf250
 v55:=Tryz.zeroValue250
 t66:=Tryz.underlying295
 a66:=Tryz.isAgg295
 z66:=Tryz.sizeOf295
 v66:=Tryz.zeroValue295
 t70:=Tryz.underlying299
 a70:=Tryz.isAgg299
 z70:=Tryz.sizeOf299
 v70:=Tryz.zeroValue299
 t76:=Tryz.underlying329
 a76:=Tryz.isAgg329
 z76:=Tryz.sizeOf329
 v76:=Tryz.zeroValue329
 t77:=Tryz.underlying229
 a77:=Tryz.isAgg229
 z77:=Tryz.sizeOf229
 v77:=Tryz.zeroValue229 }
end Go.Proofs

namespace Go.EL
open Go.IntKind (i8 i16 i32 i64 u8 u16 u32 u64)
open Go Go.RowKit
theorem TH(a b:Int):(DV a b).Α (if a<b then -1 else if b<a then 1 else 0):=by
 refine⟨false,?_,false,?_,?_⟩
 .exact (Ċ (λh=>h rfl):decide (¬ a=a)=false)
 .exact (Ċ (λh=>h rfl):decide (¬ b=b)=false)
 rw[Cq.Zm,ā (by decide),Cq.Zm,ā (by decide),Cq.Zm];by_cases h:a<b
 .rw[ą h,ą h];rfl
 rw[ā h,ā h,Cq.Zm];by_cases h2:b<a
 .rw[ą h2,ą h2];rfl
 rw[ā h2,ā h2];rfl
theorem Zwc(x y:Int):(Kl [x,y]).Α (if x=0 then y else x):=by
 by_cases a:x=0
 .subst a;rw[ą rfl];refine Cq.Zs ⟨0,⟨by decide,rfl⟩,Cq.wp.no (λh=>h rfl) (Cq.Zs ⟨y,⟨by decide,rfl⟩,?_⟩)⟩;by_cases c:y=0
  .subst c;exact Cq.wp.no (λh=>h rfl) (Cq.Zs rfl)
  exact Cq.wp.yes c rfl
 rw[ā a];exact Cq.Zs ⟨x,⟨by decide,rfl⟩,Cq.wp.yes a rfl⟩
theorem ZxZ(s t:Ze):(J1 s t).Α (lf s t):=by
 refine⟨_,TH _ _,_,TH _ _,_,Zwc _ _,?_⟩;show(if _=(0:Int)then _ else _)=lf s t;unfold lf;by_cases a:s.υ<t.υ
 .rw[ą a,ą a];rfl
 rw[ā a,ā a];by_cases h2:t.υ<s.υ
 .rw[ą h2,ą h2];rfl
 rw[ā h2,ā h2];rfl
end Go.EL

namespace Go.Proofs.YtepbagkffgddlaaGreat
open Go.IntKind (i8 i16 i32 i64 u8 u16 u32 u64)
open Go.Proofs.Tryz
open Go Go.EL Go.RowKit Go.Proofs
abbrev i'(x:Int):Value:=.int .i64 x
abbrev sl{α:Type}(r:Rp α)(G:Mem)(p:ŀ Addr)(c:Nat)(xs:Ŀ α):Prop:=Η r G (.slice p xs.length c) xs
abbrev η(x:Zg)(c:ŀ Addr)(a:Nat):Ŀ Value:=[.bool x.neg,.slice c x.χ.length a]
abbrev Ï(x:Zg):Mem->Value->Prop:=λG v=>∃ a c,v=.agg ((η x a c)).toArray/\sl (Rp.int .u32) G a c x.χ
abbrev Υ(x:Zf)(e:ŀ Addr)(d:Nat)(c:ŀ Addr)(a:Nat):Ŀ Value:=[.bool x.num.neg,.slice e x.num.χ.length d,.bool x.den.neg,.slice c x.den.χ.length a]
abbrev er(x:Zf):Mem->Value->Prop:=λG v=>∃ a c d e,v=.agg ((Υ x a c d e)).toArray/\sl (Rp.int .u32) G a c x.num.χ/\sl (Rp.int .u32) G d e x.den.χ
abbrev ix(x:Zf×Int):Mem->Value->Prop:=λG v=>∃ a c d e,v=.tuple #[.agg ((Υ x.1 a c d e)).toArray,i' x.2]/\sl (Rp.int .u32) G a c x.1.num.χ/\sl (Rp.int .u32) G d e x.1.den.χ
abbrev Ã(x:Zb)(e:ŀ Addr)(d:Nat)(c:ŀ Addr)(a:Nat):Ŀ Value:=[.int .i64 x.n,.slice e x.eqs.length d,.slice c x.δ.length a]
abbrev u3(x:Zb):Mem->Value->Prop:=λG v=>∃ a c d e,v=.agg ((Ã x a c d e)).toArray/\sl (Rp.sl Zk) G a c x.eqs/\sl (Rp.sl Zk) G d e x.δ
abbrev lZ(x:Zb×Int):Mem->Value->Prop:=λG v=>∃ a c d e,v=.tuple #[.agg ((Ã x.1 a c d e)).toArray,i' x.2]/\sl (Rp.sl Zk) G a c x.1.eqs/\sl (Rp.sl Zk) G d e x.1.δ
abbrev eR(x:Ze)(e:ŀ Addr)(d:Nat)(c:ŀ Addr)(a:Nat)(i:ŀ Addr)(h:Nat)(g:ŀ Addr)(f:Nat):Ŀ Value:=[.int .i64 x.id,.int .i64 x.k.n,.slice e x.k.eqs.length d,.slice c x.k.δ.length a,.int .i64 x.q.kind,.slice i x.q.p.length h,.slice g x.q.o.length f,.int .i64 x.υ,.int .i64 x.low,.int .i64 x.high,.bool x.done]
abbrev u4(x:Ze):Mem->Value->Prop:=λG v=>∃ a c d e q4 q5 f g,v=.agg ((eR x a c d e q4 q5 f g)).toArray/\sl (Rp.sl Zk) G a c x.k.eqs/\sl (Rp.sl Zk) G d e x.k.δ/\sl Zk G q4 q5 x.q.p/\sl (Rp.vec .i64 8) G f g x.q.o
abbrev fX(x:Zd)(c:ŀ Addr)(a:Nat):Ŀ Value:=[.slice c x.t.length a,.int .i64 x.next]
abbrev kC(x:Zd):Mem->Value->Prop:=λG v=>∃ a c,v=.agg ((fX x a c)).toArray/\sl ZF G a c x.t
abbrev jh(x:Zd×Int):Mem->Value->Prop:=λG v=>∃ a c,v=.tuple #[.agg ((fX x.1 a c)).toArray,i' x.2]/\sl ZF G a c x.1.t
abbrev Ç(x:Zd×Int×Int):Mem->Value->Prop:=λG v=>∃ a c,v=.tuple #[.agg ((fX x.1 a c)).toArray,i' x.2.1,i' x.2.2]/\sl ZF G a c x.1.t
abbrev Oz(x:ZA)(d:ŀ Addr)(lc:Nat)(c:ŀ Addr)(a:Nat):Ŀ Value:=[.int .u8 x.n,.slice d x.l.length lc,.slice c x.iQ.length a]
abbrev DB(x:ZM)(a:ŀ Addr)(lc:Nat)(d:ŀ Addr)(c:Nat):Ŀ Value:=[.int .u8 x.kind,.slice a x.l.length lc,.slice d x.v.length c]
abbrev tm(x:Zt)(e:ŀ Addr)(d:Nat)(c:ŀ Addr)(a:Nat)(g:ŀ Addr)(f:Nat)(h:ŀ Addr)(lc:Nat):Ŀ Value:=[.int .u8 x.fY,.int .u8 x.c.n,.slice e x.c.l.length d,.slice c x.c.iQ.length a,.int .u8 x.kind,.slice g x.p.t.length f,.int .u8 x.o,.slice h x.l.length lc,.int .i64 x.id,.int .i64 x.Λ]
abbrev wB(x:Zl)(i:ŀ Addr)(h:Nat)(g:ŀ Addr)(f:Nat)(e:ŀ Addr)(d:Nat)(c:ŀ Addr)(a:Nat):Ŀ Value:=[.bool x.lo.num.neg,.slice i x.lo.num.χ.length h,.bool x.lo.den.neg,.slice g x.lo.den.χ.length f,.bool x.hi.num.neg,.slice e x.hi.num.χ.length d,.bool x.hi.den.neg,.slice c x.hi.den.χ.length a]
abbrev jT(x:Zj)(g:ŀ Addr)(f:Nat)(op:ŀ Addr)(e:Nat)(d:ŀ Addr)(lc:Nat)(i:ŀ Addr)(h:Nat)(c:ŀ Addr)(a:Nat):Ŀ Value:=[.int .i64 x.kind,.slice g x.p.length f,.int .i64 x.n,.int .i64 x.d,.int .i64 x.r,.slice op x.o.length e,.slice d x.l.length lc,.slice i x.s.length h,.slice c x.b.length a]
abbrev OD(x:Zj):Mem->Value->Prop:=λG v=>∃ a c d e q4 q5 f g h i,v=.agg ((jT x a c d e q4 q5 f g h i)).toArray/\sl Zk G a c x.p/\sl (Rp.vec .i64 8) G d e x.o/\sl (Rp.sl Zk) G q4 q5 x.l/\sl (Rp.int .i64) G f g x.s/\sl (Rp.arr Z2 8) G h i x.b
abbrev OA(x:ZE)(e:ŀ Addr)(d:Nat)(c:ŀ Addr)(a:Nat)(i:ŀ Addr)(h:Nat)(g:ŀ Addr)(f:Nat):Ŀ Value:=[.int .i64 x.k.n,.slice e x.k.eqs.length d,.slice c x.k.δ.length a,.int .i64 x.q.kind,.slice i x.q.p.length h,.slice g x.q.o.length f,.int .i64 x.e]
abbrev yl(x:ZE):Mem->Value->Prop:=λG v=>∃ a c d e q4 q5 f g,v=.agg ((OA x a c d e q4 q5 f g)).toArray/\sl (Rp.sl Zk) G a c x.k.eqs/\sl (Rp.sl Zk) G d e x.k.δ/\sl Zk G q4 q5 x.q.p/\sl (Rp.vec .i64 8) G f g x.q.o
abbrev od(x:Zv)(c:ŀ Addr)(a:Nat):Ŀ Value:=[.slice c x.b.t.length a,.int .i64 x.b.next,.int .i64 x.id,.int .i64 x.e]
abbrev qs(x:Zv):Mem->Value->Prop:=λG v=>∃ a c,v=.agg ((od x a c)).toArray/\sl ZF G a c x.b.t
abbrev tl(x:Zx)(e:ŀ Addr)(d:Nat)(g:ŀ Addr)(f:Nat)(c:ŀ Addr)(a:Nat):Ŀ Value:=[.slice e x.vars.length d,.slice g x.eqs.length f,.slice c x.δ.length a,.int .i64 x.next]
abbrev DG(x:Zx):Mem->Value->Prop:=λG v=>∃ a c d e q4 q5,v=.agg ((tl x a c d e q4 q5)).toArray/\sl Rp.str G a c x.vars/\sl ZL G d e x.eqs/\sl ZL G q4 q5 x.δ
abbrev DC(x:vj)(e:ŀ Addr)(d:Nat)(c:ŀ Addr)(a:Nat)(m:ŀ Addr)(l:Nat)(k:ŀ Addr)(j:Nat)(i:ŀ Addr)(h:Nat)(p:ŀ Addr)(n:Nat)(g:ŀ Addr)(f:Nat):Ŀ Value:=[.int .i64 x.rules.k.n,.slice e x.rules.k.eqs.length d,.slice c x.rules.k.δ.length a,.int .i64 x.c.kind,.slice m x.c.p.length l,.int .i64 x.c.n,.int .i64 x.c.d,.int .i64 x.c.r,.slice k x.c.o.length j,.slice i x.c.l.length h,.slice p x.c.s.length n,.slice g x.c.b.length f]
abbrev DD(x:vg):Ŀ Value:=[.int .i8 x.n,.int .i8 x.d,.int .u8 x.k]
abbrev fS{α:Type}(R:Rp α)(x:Ŀ α):Mem->Value->Prop:=λG v=>∃ a c,v=.slice a x.length c/\sl @R G a c x
abbrev iy{α:Type}(R:Rp α)(x:Ŀ α×Int):Mem->Value->Prop:=λG v=>∃ a c,v=.tuple #[.slice a x.1.length c,i' x.2]/\sl @R G a c x.1
abbrev ff:=false
abbrev tt:=true
abbrev jq:Ŀ Value:=[Value.bool false,Value.slice none 0 0,Value.bool false,Value.slice none 0 0,Value.bool false,Value.slice none 0 0,Value.bool false,Value.slice none 0 0,Value.bool false,Value.slice none 0 0,Value.bool false,Value.slice none 0 0,Value.bool false,Value.slice none 0 0,Value.bool false,Value.slice none 0 0,Value.bool false,Value.slice none 0 0,Value.bool false,Value.slice none 0 0,Value.bool false,Value.slice none 0 0,Value.bool false,Value.slice none 0 0,Value.bool false,Value.slice none 0 0,Value.bool false,Value.slice none 0 0,Value.bool false,Value.slice none 0 0,Value.bool false,Value.slice none 0 0,Value.bool false,Value.slice none 0 0,Value.bool false,Value.slice none 0 0,Value.bool false,Value.slice none 0 0,Value.bool false,Value.slice none 0 0,Value.bool false,Value.slice none 0 0,Value.bool false,Value.slice none 0 0,Value.bool false,Value.slice none 0 0,Value.bool false,Value.slice none 0 0,Value.bool false,Value.slice none 0 0,Value.bool false,Value.slice none 0 0,Value.bool false,Value.slice none 0 0,Value.bool false,Value.slice none 0 0,Value.bool false,Value.slice none 0 0,Value.bool false,Value.slice none 0 0,Value.bool false,Value.slice none 0 0,Value.bool false,Value.slice none 0 0]
abbrev Ö(f:Fin 8->Int):Ŀ Value:=õ (Value.int .i64) 8 f
abbrev ε{α:Type}(p:ŀ Addr)(l:Ŀ α)(c:Nat):Value:=.slice p l.length c
theorem Õ{P:Program}{N:Nat}{fn:Func}{w0:Bs}{G0 G:Mem}{L:Lo}{fr:Fr}{a:ResultVar}{α:Type}{f:α->Value}{x r:α}(e:x=r)(hr:fn.results = #[a])(c:RV P fr L a (f x)):WE N (bodyPost P fn (jJ w0 G0 λ_ _ v=>v=f r)) .ret fr (St w0 G0 G L):=e ▸ WE.jQ hr c rfl
abbrev ú(b:Nat)(c:Ŀ Value)(t:TypeId):ŀ Ow:=some ⟨b,.cells c.toArray t (0,0),0⟩
abbrev iG(b:Nat):Value:=.pointer (some ⟨b,0,none⟩)
abbrev DJ(G:Mem)(p:ŀ Addr)(c:Nat)(q:ŀ Addr)(d:Nat)(r:ŀ Addr)(e:Nat)(x:Zx):Prop:=sl Rp.str G p c x.vars/\sl ZL G q d x.eqs/\sl ZL G r e x.δ
theorem f1{f:Fr}{a0:Nat}{a:Value}(c:f.get a0=some a):Fr.sub [(a0,a)] f:=Fr.Zi c (Fr.Zw f)
theorem f2{f:Fr}{a0:Nat}{a:Value}{a1:Nat}{c:Value}(d:f.get a0=some a)(e:f.get a1=some c):Fr.sub [(a0,a),(a1,c)] f:=Fr.Zi d (Fr.Zi e (Fr.Zw f))
theorem f3{f:Fr}{a0:Nat}{a:Value}{a1:Nat}{c:Value}{a2:Nat}{d:Value}(e:f.get a0=some a)(g:f.get a1=some c)(h2:f.get a2=some d):Fr.sub [(a0,a),(a1,c),(a2,d)] f:=Fr.Zi e (Fr.Zi g (Fr.Zi h2 (Fr.Zw f)))
theorem f4{f:Fr}{a0:Nat}{a:Value}{a1:Nat}{c:Value}{a2:Nat}{d:Value}{a3:Nat}{e:Value}(g:f.get a0=some a)(h:f.get a1=some c)(h2:f.get a2=some d)(h3:f.get a3=some e):Fr.sub [(a0,a),(a1,c),(a2,d),(a3,e)] f:=Fr.Zi g (Fr.Zi h (Fr.Zi h2 (Fr.Zi h3 (Fr.Zw f))))
theorem f5{f:Fr}{a0:Nat}{a:Value}{a1:Nat}{c:Value}{a2:Nat}{d:Value}{a3:Nat}{e:Value}{a4:Nat}{g:Value}(h:f.get a0=some a)(i:f.get a1=some c)(h2:f.get a2=some d)(h3:f.get a3=some e)(j:f.get a4=some g):Fr.sub [(a0,a),(a1,c),(a2,d),(a3,e),(a4,g)] f:=Fr.Zi h (Fr.Zi i (Fr.Zi h2 (Fr.Zi h3 (Fr.Zi j (Fr.Zw f)))))
theorem f6{f:Fr}{a0:Nat}{a:Value}{a1:Nat}{c:Value}{a2:Nat}{d:Value}{a3:Nat}{e:Value}{a4:Nat}{g:Value}{a5:Nat}{h:Value}(i:f.get a0=some a)(j:f.get a1=some c)(h2:f.get a2=some d)(h3:f.get a3=some e)(k:f.get a4=some g)(l:f.get a5=some h):Fr.sub [(a0,a),(a1,c),(a2,d),(a3,e),(a4,g),(a5,h)] f:=Fr.Zi i (Fr.Zi j (Fr.Zi h2 (Fr.Zi h3 (Fr.Zi k (Fr.Zi l (Fr.Zw f))))))
theorem f7{f:Fr}{a0:Nat}{a:Value}{a1:Nat}{c:Value}{a2:Nat}{d:Value}{a3:Nat}{e:Value}{a4:Nat}{g:Value}{a5:Nat}{h:Value}{a6:Nat}{i:Value}(j:f.get a0=some a)(k:f.get a1=some c)(h2:f.get a2=some d)(h3:f.get a3=some e)(l:f.get a4=some g)(m:f.get a5=some h)(n:f.get a6=some i):Fr.sub [(a0,a),(a1,c),(a2,d),(a3,e),(a4,g),(a5,h),(a6,i)] f:=Fr.Zi j (Fr.Zi k (Fr.Zi h2 (Fr.Zi h3 (Fr.Zi l (Fr.Zi m (Fr.Zi n (Fr.Zw f)))))))
theorem f8{f:Fr}{a0:Nat}{a:Value}{a1:Nat}{c:Value}{a2:Nat}{d:Value}{a3:Nat}{e:Value}{a4:Nat}{g:Value}{a5:Nat}{h:Value}{a6:Nat}{i:Value}{a7:Nat}{j:Value}(k:f.get a0=some a)(l:f.get a1=some c)(h2:f.get a2=some d)(h3:f.get a3=some e)(m:f.get a4=some g)(n:f.get a5=some h)(p:f.get a6=some i)(h7:f.get a7=some j):Fr.sub [(a0,a),(a1,c),(a2,d),(a3,e),(a4,g),(a5,h),(a6,i),(a7,j)] f:=Fr.Zi k (Fr.Zi l (Fr.Zi h2 (Fr.Zi h3 (Fr.Zi m (Fr.Zi n (Fr.Zi p (Fr.Zi h7 (Fr.Zw f))))))))
theorem f9{f:Fr}{a0:Nat}{a:Value}{a1:Nat}{c:Value}{a2:Nat}{d:Value}{a3:Nat}{e:Value}{a4:Nat}{g:Value}{a5:Nat}{h:Value}{a6:Nat}{i:Value}{a7:Nat}{j:Value}{a8:Nat}{k:Value}(l:f.get a0=some a)(m:f.get a1=some c)(h2:f.get a2=some d)(h3:f.get a3=some e)(n:f.get a4=some g)(p:f.get a5=some h)(q:f.get a6=some i)(h7:f.get a7=some j)(r:f.get a8=some k):Fr.sub [(a0,a),(a1,c),(a2,d),(a3,e),(a4,g),(a5,h),(a6,i),(a7,j),(a8,k)] f:=Fr.Zi l (Fr.Zi m (Fr.Zi h2 (Fr.Zi h3 (Fr.Zi n (Fr.Zi p (Fr.Zi q (Fr.Zi h7 (Fr.Zi r (Fr.Zw f)))))))))
theorem f10{f:Fr}{a0:Nat}{c:Value}{a1:Nat}{d:Value}{a2:Nat}{e:Value}{a3:Nat}{g:Value}{a4:Nat}{h:Value}{a5:Nat}{i:Value}{a6:Nat}{j:Value}{a7:Nat}{k:Value}{a8:Nat}{l:Value}{a:Nat}{m:Value}(n:f.get a0=some c)(p:f.get a1=some d)(h2:f.get a2=some e)(h3:f.get a3=some g)(q:f.get a4=some h)(r:f.get a5=some i)(s:f.get a6=some j)(h7:f.get a7=some k)(t:f.get a8=some l)(u:f.get a=some m):Fr.sub [(a0,c),(a1,d),(a2,e),(a3,g),(a4,h),(a5,i),(a6,j),(a7,k),(a8,l),(a,m)] f:=Fr.Zi n (Fr.Zi p (Fr.Zi h2 (Fr.Zi h3 (Fr.Zi q (Fr.Zi r (Fr.Zi s (Fr.Zi h7 (Fr.Zi t (Fr.Zi u (Fr.Zw f))))))))))
theorem f11{f:Fr}{a0:Nat}{g:Value}{a1:Nat}{h:Value}{a2:Nat}{i:Value}{a3:Nat}{j:Value}{a4:Nat}{k:Value}{a5:Nat}{l:Value}{a6:Nat}{m:Value}{a7:Nat}{n:Value}{a8:Nat}{p:Value}{e:Nat}{q:Value}{a:Nat}{c:Value}(r:f.get a0=some g)(s:f.get a1=some h)(h2:f.get a2=some i)(h3:f.get a3=some j)(t:f.get a4=some k)(u:f.get a5=some l)(v:f.get a6=some m)(h7:f.get a7=some n)(x:f.get a8=some p)(y:f.get e=some q)(d:f.get a=some c):Fr.sub [(a0,g),(a1,h),(a2,i),(a3,j),(a4,k),(a5,l),(a6,m),(a7,n),(a8,p),(e,q),(a,c)] f:=Fr.Zi r (Fr.Zi s (Fr.Zi h2 (Fr.Zi h3 (Fr.Zi t (Fr.Zi u (Fr.Zi v (Fr.Zi h7 (Fr.Zi x (Fr.Zi y (Fr.Zi d (Fr.Zw f)))))))))))
theorem f12{f:Fr}{a0:Nat}{j:Value}{a1:Nat}{k:Value}{a2:Nat}{l:Value}{a3:Nat}{m:Value}{a4:Nat}{n:Value}{a5:Nat}{p:Value}{a6:Nat}{q:Value}{a7:Nat}{r:Value}{a8:Nat}{s:Value}{i:Nat}{t:Value}{a:Nat}{d:Value}{c:Nat}{e:Value}(u:f.get a0=some j)(v:f.get a1=some k)(h2:f.get a2=some l)(h3:f.get a3=some m)(x:f.get a4=some n)(y:f.get a5=some p)(A:f.get a6=some q)(h7:f.get a7=some r)(B:f.get a8=some s)(C:f.get i=some t)(g:f.get a=some d)(h:f.get c=some e):Fr.sub [(a0,j),(a1,k),(a2,l),(a3,m),(a4,n),(a5,p),(a6,q),(a7,r),(a8,s),(i,t),(a,d),(c,e)] f:=Fr.Zi u (Fr.Zi v (Fr.Zi h2 (Fr.Zi h3 (Fr.Zi x (Fr.Zi y (Fr.Zi A (Fr.Zi h7 (Fr.Zi B (Fr.Zi C (Fr.Zi g (Fr.Zi h (Fr.Zw f))))))))))))
theorem f13{f:Fr}{a0:Nat}{m:Value}{a1:Nat}{n:Value}{a2:Nat}{p:Value}{a3:Nat}{q:Value}{a4:Nat}{r:Value}{a5:Nat}{s:Value}{a6:Nat}{t:Value}{a7:Nat}{u:Value}{a8:Nat}{v:Value}{l:Nat}{x:Value}{a:Nat}{e:Value}{c:Nat}{g:Value}{d:Nat}{h:Value}(y:f.get a0=some m)(A:f.get a1=some n)(h2:f.get a2=some p)(h3:f.get a3=some q)(B:f.get a4=some r)(C:f.get a5=some s)(D:f.get a6=some t)(h7:f.get a7=some u)(E:f.get a8=some v)(F:f.get l=some x)(i:f.get a=some e)(j:f.get c=some g)(k:f.get d=some h):Fr.sub [(a0,m),(a1,n),(a2,p),(a3,q),(a4,r),(a5,s),(a6,t),(a7,u),(a8,v),(l,x),(a,e),(c,g),(d,h)] f:=Fr.Zi y (Fr.Zi A (Fr.Zi h2 (Fr.Zi h3 (Fr.Zi B (Fr.Zi C (Fr.Zi D (Fr.Zi h7 (Fr.Zi E (Fr.Zi F (Fr.Zi i (Fr.Zi j (Fr.Zi k (Fr.Zw f)))))))))))))
theorem f14{f:Fr}{a0:Nat}{q:Value}{a1:Nat}{r:Value}{a2:Nat}{s:Value}{a3:Nat}{t:Value}{a4:Nat}{u:Value}{a5:Nat}{v:Value}{a6:Nat}{x:Value}{a7:Nat}{y:Value}{a8:Nat}{A:Value}{p:Nat}{B:Value}{a:Nat}{g:Value}{c:Nat}{h:Value}{d:Nat}{i:Value}{e:Nat}{j:Value}(C:f.get a0=some q)(D:f.get a1=some r)(h2:f.get a2=some s)(h3:f.get a3=some t)(E:f.get a4=some u)(F:f.get a5=some v)(G:f.get a6=some x)(h7:f.get a7=some y)(H:f.get a8=some A)(I:f.get p=some B)(k:f.get a=some g)(l:f.get c=some h)(m:f.get d=some i)(n:f.get e=some j):Fr.sub [(a0,q),(a1,r),(a2,s),(a3,t),(a4,u),(a5,v),(a6,x),(a7,y),(a8,A),(p,B),(a,g),(c,h),(d,i),(e,j)] f:=Fr.Zi C (Fr.Zi D (Fr.Zi h2 (Fr.Zi h3 (Fr.Zi E (Fr.Zi F (Fr.Zi G (Fr.Zi h7 (Fr.Zi H (Fr.Zi I (Fr.Zi k (Fr.Zi l (Fr.Zi m (Fr.Zi n (Fr.Zw f))))))))))))))
theorem f15{f:Fr}{a0:Nat}{t:Value}{a1:Nat}{u:Value}{a2:Nat}{v:Value}{a3:Nat}{x:Value}{a4:Nat}{y:Value}{a5:Nat}{A:Value}{a6:Nat}{B:Value}{a7:Nat}{C:Value}{a8:Nat}{D:Value}{s:Nat}{E:Value}{a:Nat}{h:Value}{c:Nat}{i:Value}{d:Nat}{j:Value}{e:Nat}{k:Value}{g:Nat}{l:Value}(F:f.get a0=some t)(G:f.get a1=some u)(h2:f.get a2=some v)(h3:f.get a3=some x)(H:f.get a4=some y)(I:f.get a5=some A)(J:f.get a6=some B)(h7:f.get a7=some C)(K:f.get a8=some D)(L:f.get s=some E)(m:f.get a=some h)(n:f.get c=some i)(p:f.get d=some j)(q:f.get e=some k)(r:f.get g=some l):Fr.sub [(a0,t),(a1,u),(a2,v),(a3,x),(a4,y),(a5,A),(a6,B),(a7,C),(a8,D),(s,E),(a,h),(c,i),(d,j),(e,k),(g,l)] f:=Fr.Zi F (Fr.Zi G (Fr.Zi h2 (Fr.Zi h3 (Fr.Zi H (Fr.Zi I (Fr.Zi J (Fr.Zi h7 (Fr.Zi K (Fr.Zi L (Fr.Zi m (Fr.Zi n (Fr.Zi p (Fr.Zi q (Fr.Zi r (Fr.Zw f)))))))))))))))
theorem f16{f:Fr}{a0:Nat}{v:Value}{a1:Nat}{x:Value}{a2:Nat}{y:Value}{a3:Nat}{A:Value}{a4:Nat}{B:Value}{a5:Nat}{C:Value}{a6:Nat}{D:Value}{a7:Nat}{E:Value}{a8:Nat}{F:Value}{u:Nat}{G:Value}{a:Nat}{i:Value}{c:Nat}{j:Value}{d:Nat}{k:Value}{e:Nat}{l:Value}{g:Nat}{m:Value}{h:Nat}{n:Value}(H:f.get a0=some v)(I:f.get a1=some x)(h2:f.get a2=some y)(h3:f.get a3=some A)(J:f.get a4=some B)(K:f.get a5=some C)(L:f.get a6=some D)(h7:f.get a7=some E)(N:f.get a8=some F)(O:f.get u=some G)(p:f.get a=some i)(q:f.get c=some j)(r:f.get d=some k)(s:f.get e=some l)(t:f.get g=some m)(oL:f.get h=some n):Fr.sub [(a0,v),(a1,x),(a2,y),(a3,A),(a4,B),(a5,C),(a6,D),(a7,E),(a8,F),(u,G),(a,i),(c,j),(d,k),(e,l),(g,m),(h,n)] f:=Fr.Zi H (Fr.Zi I (Fr.Zi h2 (Fr.Zi h3 (Fr.Zi J (Fr.Zi K (Fr.Zi L (Fr.Zi h7 (Fr.Zi N (Fr.Zi O (Fr.Zi p (Fr.Zi q (Fr.Zi r (Fr.Zi s (Fr.Zi t (Fr.Zi oL (Fr.Zw f))))))))))))))))
theorem w1{w0:Bs}{G0 G:Mem}{L:Lo}{a0:Nat}{a:ŀ Ow}(c:L.get a0=a):∀ w,St w0 G0 G L w->St w0 G0 G [(a0,a)] w:=wk (Lo.Zi c (Lo.Zw L))
theorem w2{w0:Bs}{G0 G:Mem}{L:Lo}{a0:Nat}{a:ŀ Ow}{a1:Nat}{c:ŀ Ow}(d:L.get a0=a)(e:L.get a1=c):∀ w,St w0 G0 G L w->St w0 G0 G [(a0,a),(a1,c)] w:=wk (Lo.Zi d (Lo.Zi e (Lo.Zw L)))
theorem w3{w0:Bs}{G0 G:Mem}{L:Lo}{a0:Nat}{a:ŀ Ow}{a1:Nat}{c:ŀ Ow}{a2:Nat}{d:ŀ Ow}(e:L.get a0=a)(f:L.get a1=c)(h2:L.get a2=d):∀ w,St w0 G0 G L w->St w0 G0 G [(a0,a),(a1,c),(a2,d)] w:=wk (Lo.Zi e (Lo.Zi f (Lo.Zi h2 (Lo.Zw L))))
theorem w4{w0:Bs}{G0 G:Mem}{L:Lo}{a0:Nat}{a:ŀ Ow}{a1:Nat}{c:ŀ Ow}{a2:Nat}{d:ŀ Ow}{a3:Nat}{e:ŀ Ow}(f:L.get a0=a)(g:L.get a1=c)(h2:L.get a2=d)(h3:L.get a3=e):∀ w,St w0 G0 G L w->St w0 G0 G [(a0,a),(a1,c),(a2,d),(a3,e)] w:=wk (Lo.Zi f (Lo.Zi g (Lo.Zi h2 (Lo.Zi h3 (Lo.Zw L)))))
theorem w5{w0:Bs}{G0 G:Mem}{L:Lo}{a0:Nat}{a:ŀ Ow}{a1:Nat}{c:ŀ Ow}{a2:Nat}{d:ŀ Ow}{a3:Nat}{e:ŀ Ow}{a4:Nat}{f:ŀ Ow}(g:L.get a0=a)(h:L.get a1=c)(h2:L.get a2=d)(h3:L.get a3=e)(i:L.get a4=f):∀ w,St w0 G0 G L w->St w0 G0 G [(a0,a),(a1,c),(a2,d),(a3,e),(a4,f)] w:=wk (Lo.Zi g (Lo.Zi h (Lo.Zi h2 (Lo.Zi h3 (Lo.Zi i (Lo.Zw L))))))
theorem w6{w0:Bs}{G0 G:Mem}{L:Lo}{a0:Nat}{a:ŀ Ow}{a1:Nat}{c:ŀ Ow}{a2:Nat}{d:ŀ Ow}{a3:Nat}{e:ŀ Ow}{a4:Nat}{f:ŀ Ow}{a5:Nat}{g:ŀ Ow}(h:L.get a0=a)(i:L.get a1=c)(h2:L.get a2=d)(h3:L.get a3=e)(j:L.get a4=f)(k:L.get a5=g):∀ w,St w0 G0 G L w->St w0 G0 G [(a0,a),(a1,c),(a2,d),(a3,e),(a4,f),(a5,g)] w:=wk (Lo.Zi h (Lo.Zi i (Lo.Zi h2 (Lo.Zi h3 (Lo.Zi j (Lo.Zi k (Lo.Zw L)))))))
abbrev a':=@WE.hJ
abbrev b':=@WE.then
abbrev c':=@Zk
abbrev f':=@Y0.eW
abbrev g':=@WE.gv
abbrev h':=@Y0.pY
abbrev j':=@WE.jQ
abbrev k':=@Y0.move
abbrev m':=@WC.ret
abbrev n':=@Y0.Ò
abbrev o':=@WC.seq
abbrev p':=@WE.å
abbrev q':=@WC.skip
abbrev t':=@WL.nil
abbrev w':=@WC.region
abbrev x':=@YC.of
abbrev y':=@Y0.eT
abbrev A':=@WL.fp
abbrev C':=@rM
abbrev E':=@WE.inBlock
abbrev F':=@underlying116
abbrev H':=@WL.gS
abbrev I':=@WC.cr
abbrev J':=@iJ.enter
abbrev K':=@WE.Í
abbrev M':=@Rg
abbrev N':=@WE.vI
abbrev O':=@Y0.extract
abbrev P':=@Y0.CE
abbrev Q':=@underlying50
abbrev R':=@Y0.nm
abbrev T':=@At.mono
abbrev U':=@Zy
abbrev V':=@Y0.add
abbrev W':=@WL.alloc
abbrev X':=@Η.nil
abbrev Y':=@WC.block
abbrev Z':=@Y0.lss
abbrev gR:=@WL.call
abbrev jL:=@underlying46
abbrev kd:=@Y0.lN
abbrev eB:=@Y0.eql
abbrev nv:=@WC.wg
abbrev nw:=@WC.exit
abbrev dE:=@WL.cr
abbrev mK:=@U3
abbrev og:=@WE.BR
abbrev mM:=@WE.r9
abbrev gf:=@Rp.vec
abbrev iK:=@Η.at
abbrev pz:=@γ.mW
abbrev jM:=@WL.box
abbrev Å:=@WL.skip
abbrev fA:=@WC.drawn
abbrev pA:=@WE.oQ
abbrev kD:=@RV.pG
abbrev nR:=@WC.pJ
abbrev Θ:=@WE.nx
abbrev tB:=@underlying250
abbrev kU:=@Y0.not
abbrev gg:=@ZF
abbrev tC:=@underlying24
abbrev ny:=@Y0.jw
abbrev ra:=@WL.fL
abbrev uk:=@underlying248
abbrev mX:=@Y0.hP
abbrev l4:=@Y0.build
abbrev tA:=@underlying52
abbrev qB:=@γ.pF
abbrev mH:=@py
abbrev iB:=@Z2
abbrev kc:=@WC.VQ
abbrev aI':=@Y0.F8
abbrev Bk:=@underlying3
abbrev pw:=@Y0.conv
abbrev aL':=@WC.sS
abbrev aM':=@underlying145
abbrev Gr:=@underlying71
abbrev um:=@WE.uS
abbrev mY:=@WL.qP
abbrev zf:=@underlying44
abbrev mf:=@rP
abbrev ik:=@tp
abbrev zg:=@AtK.int
abbrev uo:=@Y0.gtr
abbrev jr:=@γ.ym
abbrev mZ:=@lC
abbrev VL:=@Y0.ju
abbrev Gs:=@Y0.Bh
abbrev Gt:=@underlying5
abbrev nE:=@AtK.via
abbrev zj:=@Y0.VE
abbrev Bv:=@Y0.Ud
abbrev qD:=@Y0.neq
abbrev l6:=@Bo
abbrev zm:=@Y0.Vy
abbrev Bw:=@Y0.Uf
abbrev Bx:=@γ.tb
abbrev tF:=@s7
abbrev tG:=@WC.pI
abbrev kI:=@γ.alloc
abbrev mi:=@γ.pO
abbrev oH:=@underlying324
abbrev bo':=@qh
abbrev jN:=@WL.uq
abbrev pC:=@Y0.oN
abbrev uu:=@γ.gS
abbrev ML:=@underlying82
abbrev Gz:=@Y0.sub
abbrev xH:=@Y0.Ue
abbrev VM:=@tv
abbrev vJ:=@Y0.geq
abbrev qH:=@AtK.snd
abbrev oi:=@Y0.L8
abbrev zn:=@Y0.VG
abbrev vG:=@wq
abbrev bB':=@qp
abbrev ur:=@underlying87
abbrev xG:=@underlying9
abbrev oh:=@underlying325
abbrev vH:=@underlying127
abbrev jW:=@wu
abbrev rb:=@Dp
abbrev mO:=@WE.ö
abbrev tD:=@wT
abbrev Gv:=@Y0.Vz
abbrev re:=@oF
abbrev nz:=@γ.iw
abbrev Gw:=@rQ
abbrev pB:=@Zu6
abbrev MJ:=@underlying90
abbrev mg:=@γ.rW
abbrev rV:=@yC
abbrev l5:=@Y0.eq
abbrev rf:=@mw
abbrev Gy:=@Y0.VA
abbrev lE:=@È.size
abbrev rh:=@eO.enter
abbrev tE:=@Dk
abbrev mP:=@WL.jX
abbrev mh:=@γ.C8
abbrev Bz:=@Y0.Vu
abbrev zw:=@γ.cr
abbrev rZ:=@AtK.fst
abbrev kV:=@Tok.full
abbrev BB:=@Y0.leq
abbrev ri:=@Y0.assign
abbrev rj:=@Y0.Gl
abbrev GB:=@Y0.Vv
abbrev VN:=@sM
abbrev uv:=@Bq
abbrev vN:=@ZL
abbrev GC:=@Y0.Vx
abbrev MO:=@underlying51
abbrev VO:=@AtK.vec
abbrev mS:=@MK
abbrev xM:=@Y0.rem
abbrev mm:=@WL.ö
abbrev mT:=@γ.OE
abbrev uw:=@γ.float
abbrev xN:=@AtK.sl
abbrev MQ:=@uT
abbrev zz:=@WL.storeT
abbrev nF:=@rO
abbrev xI:=@Y0.Ve
abbrev GA:=@Y0.VF
abbrev nS:=@Br
abbrev MM:=@Q6
abbrev pD:=@kP
abbrev zo:=@Y0.Vj
abbrev By:=@Y0.VD
abbrev cJ':=@Y0.VC
abbrev zt:=@lD
abbrev xJ:=@oc
abbrev vK:=@DL
abbrev zv:=@Y0.Vf
abbrev nT:=@fz.back
abbrev lG:=@WL.DA
abbrev cY':=@vx
abbrev tH:=@qU
abbrev VU:=@underlying196
abbrev oj:=@Γ.at
abbrev pL:=@WL.jH
abbrev VV:=@underlying32
abbrev om:=@WL.mI
abbrev nV:=@fz.one
abbrev vO:=@ZP
abbrev zC:=@γ.yg
abbrev rl:=@DM
abbrev dq':=@Jk
abbrev VW:=@Y0.Vw
abbrev BM:=@Y0.Vh
abbrev dw':=@underlying2
abbrev GG:=@WL.iP
abbrev ux:=@WE.jH
abbrev GF:=@AtK.DE
abbrev zA:=@È.zero
abbrev zB:=@underlying225
abbrev BE:=@Y0.Vi
abbrev BF:=@Y0.VB
abbrev BG:=@underlying126
abbrev tI:=@γ.N6
abbrev VR:=@Y0.Ml
abbrev BH:=@γ.tc
abbrev rk:=@Y0.vY
abbrev BI:=@tS
abbrev qJ:=@Η.eqv
abbrev MR:=@WE.C3
abbrev VT:=@Y0.B3
abbrev BO:=@Γ.zero
abbrev MX:=@Y0.UJ
abbrev vQ:=@WL.nb
abbrev oK:=@wA
abbrev BP:=@underlying102
abbrev V0:=@WL.we
abbrev em':=@underlying22
abbrev rm:=@Η.XB
abbrev V1:=@Y0.quo
abbrev rn:=@È.lt
abbrev xQ:=@γ.yi
abbrev BT:=@Y0.sp
abbrev uA:=@K2
abbrev uB:=@Y0.nk
abbrev uC:=@AtK.Bu
abbrev V2:=@Y0.Vg
abbrev VX:=@Y0.UM
abbrev MV:=@Y0.Ul
abbrev MW:=@yu
abbrev xO:=@γ.jE
abbrev VY:=@Y0.shr
abbrev eJ':=@Y0.sn
abbrev VZ:=@Y0.index
abbrev vP:=@Y0.xS
abbrev eV':=@Y0.UK
abbrev eW':=@Y0.UL
abbrev BZ:=@Y0.Uj
abbrev fd':=@underlying31
abbrev M7:=@Y0.Mp
abbrev vV:=@fz.nil
abbrev GL:=@γ.te
abbrev GM:=@γ.yh
abbrev V7:=@Qh
abbrev GN:=@Y0.Ui
abbrev GO:=@Y0.Uh
abbrev V3:=@Y0.max2
abbrev vU:=@È.at
abbrev V4:=@Y0.makeFunc
abbrev M5:=@underlying144
abbrev GI:=@Laid.drop
abbrev BY:=@WC.kL
abbrev M6:=@underlying158
abbrev fY':=@underlying35
abbrev GJ:=@Kj
abbrev B0:=@WL.uY
abbrev GP:=@Y0.Ug
abbrev Wa:=@Y0.Uk
end Go.Proofs.YtepbagkffgddlaaGreat

namespace Go.Proofs.YtepbagkffgddlaaGreat
open Go.IntKind (i8 i16 i32 i64 u8 u16 u32 u64)
open Go.Proofs.Tryz
open Go Go.EL Go.RowKit Go.Proofs
set_option maxHeartbeats 4000000
set_option maxRecDepth 20000
abbrev su:=@sl Int (Rp.int .u32)
abbrev sq:=@sl (Ŀ Za) (Rp.sl c')
abbrev sv:=@sl (Fin 8->Int) (gf .i64 8)
abbrev Cr:=iJ prog
abbrev Cl:=eO prog
abbrev ru:=Γ (Rp.int .u8) 5
instance eR'{k r}:a ((OY k)) r (Cl 99 #[.slice none 0 0,i' k] [] (λ_=>True) (λG L v=>∃ s t f,L=[(7000,f)]/\v=ε s r t/\Γ (Rp.sl c') 50 G (ε s r t) r f)):=.mk λhr=>by
 obtain⟨⟨C,D⟩,hr⟩:=hr;replace hr:[]=r:=hr;subst hr;obtain⟨m,rfl⟩:∃ m:Nat,k=m:=⟨k.toNat,by omega⟩;refine rh (args:=[_,_]) (N:=27) func99 z z z λn e u _=>sr<|Ρ z<|o'<|sr<|ν z<|kv z<|nx<|tG (by rw[show decide ((m:Int)<0)=false from Ċ (by omega)];rfl)<|q'<|b'<|o'<|sr<|ν z<|ν z<|Δ (Y0.BA jL z)<|ν z<|Δ (Y0.mo jL z)<|Δ (Gz z z)<|Δ (Gz z z) ?_
 have y:i64.wrap ((m:Int)-i64.wrap (((0:Nat):Int)-((0:Nat):Int)))=m:=by simp only[ĩ];omega
 rw[y];refine Ρ z<|sr<|ν z<|Δ (uo z z)<|nx<|WC.eC (p:=(0:Int)<(m:Int)) z (λA=>?_) (λA=>?_)
 .refine Ξ ?_;refine Δ (Y0.Oc jL pD z z)<|ν z<|WL.rU (sz:=1) (bytes:=24) (m:=m) 7001 z z jL Bk js z (by decide) (by decide) z z (by omega) (by simp only[small];omega) λq c g x B=>?_
  refine Ξ ?_;refine Δ (Y0.HK (l:=0) (h:=0) (m:=c) (b:=q) (o:=0) jL pD z z ⟨_,z⟩ z (Ĉ _) (Ĝ _) (Ĉ _)) ?_;simp only[dA,ej,ite_self,aaz];refine Þ z<|t'<|b'<|sr<|ν z<|Ρ z<|m'<|mO (S':=St n e e [(7000,ú q g 50)]) (λw d=>?_) (j' z z ⟨_,_,_,z,z,⟨c,[],g,z,z,z,z,B,x,Ĝ _⟩⟩)
  have d:=d.Ý (i:=7001) (j:=7000) z (by rw[u];rfl);exact d.weaken (lc z ln)
 refine Ξ ?_;refine mO (S':=St n e e [(7000,none)]) (λw d=>d.weaken (lw ln)) (j' z z ⟨_,_,_,z,z,Γ.nil⟩)
instance fz'{l i r}:a ((yB l i)) r (Cr 130 #[.agg (Ö l).toArray,.agg (Ö i).toArray] (λG=>True) (λG v=>v=i' r)):=.mk λhr=>by refine Ξ ?_;intro u g _ k j _ hr _;refine WC.mA hr [2,3] [2,3] [2,3] [2,3] (λ(f:Int)=>⟨f,[(5,i' f)],tr,[]⟩) (λ(s:Int)=>⟨s,[(5,i' s)],tr,[]⟩) 0
instance gw'{l k r}:a ((O5 l k)) r (∀ {j h g f i d c e},Cr 129 #[.agg (((Υ l.c j h g f):Ŀ Value)++(Ö l.m)).toArray,.agg (((Υ k.c i d c e):Ŀ Value)++(Ö k.m)).toArray] (λG=>su G j h l.c.num.χ/\su G g f l.c.den.χ/\su G i d k.c.num.χ/\su G c e k.c.den.χ) (λG v=>v=i' r)):=.mk λhr {j h g f i d c e}=>Ζ
theorem js':Go.Sort.SWO (Go.Proofs.ltOf (λa b:Za=>Û b.m a.m)):=⟨λx=>ye.irrefl x.m,λx y z=>ye.trans x.m y.m z.m,λx y z=>ye.ntrans x.m y.m z.m⟩
instance dJ'{l a b i r}:V ((Z0 l a b i)) r (∀ {p c n C},Cl 212 #[.slice p n c,i' a,i' b,i' i,.func (.func 129) #[] #[]] [(5000,C)] (λG=>Γ c' 147 G (.slice p n c) l C) (λG L v=>∃ s,L=[(5000,s)]/\v=.tuple #[]/\Γ c' 147 G (.slice p n c) r s)):=.mk λhr {p c n C}=>by
 obtain⟨⟨rfl,rfl,⟨R,U⟩,Q⟩,hr⟩:=hr;obtain⟨k,rfl⟩:∃ k:Nat,i=k:=⟨i.toNat,by omega⟩;refine(CY (r:=c') (sz:=12) z (by decide) js' Tryz.Da z (λ_=>by kernel_rfl) (λ_=>by kernel_rfl) (λx y T S w G O K=>?_) HZ 147 p n c l C k (by omega) (by omega)).mono (λ_ h=>h) (λG L v ⟨E,D,H,P,I,N,J⟩=>?_)
 .obtain⟨M,F⟩:=K;obtain⟨u,B,o,j,rfl,g,d⟩:=Rc M;obtain⟨A,m,t,q,rfl,f,e⟩:=Rc F;exact gw'.h (show(O5 x y).Α (Û y.m x.m)from⟨_,I8 y.m x.m,z⟩) w G O ⟨g,d,f,e⟩
 have:E=r:=hr E ⟨N,J.imp (λh=>by simpa[Go.Proofs.ltOf]using h)⟩;subst this;exact⟨D,H,P,I⟩
instance dv'{f r}:a ((ve f)) r (∀ {d c},Cr 193 #[.agg ((η f d c)).toArray] (λG=>su G d c f.χ) (λG v=>v=i' r)):=.mk λhr {d c}=>Ζ
instance cT'{h r}:a ((ZH h)) r (∀ {d c f e},Cr 106 #[.agg ((Υ h d c f e)).toArray] (λG=>su G d c h.num.χ/\su G f e h.den.χ) (λG v=>v=i' r)):=.mk λhr {d c f e}=>Ζ
instance zr{h r}:a ((ZY h)) r (∀ {f g},Cr 187 #[ε f h g] (λG=>su G f g h) (fS (Rp.int .u32) r)):=.mk λhr {f g}=>by
 refine Ξ ?_;intro q j _ hr e;refine WC.mB hr [0] [] [0] [] (λ(i:Int)=>⟨i,[(3,i' i)],tr,[]⟩) (λ(o:Int)=>⟨o,[(3,i' o)],tr,[]⟩) (h.length:Int) ?_;intro k o hr l _;refine b'<|sr<|ν z<|ν z<|oA hr λp hr=>WL.qj (r:=(Rp.int .u32)) z z F' tF z (e.mono l) z z p λy v s=>Ρ z<|m' ?_
 obtain rfl:_=r:=hr;exact j' z z ⟨_,_,z,s⟩
instance eF'{c r}:a ((Aj c)) r (Cr 185 #[.int .u64 c] (λG=>True) (fS (Rp.int .u32) r)):=.mk λhr=>by
 refine J' (args:=[_]) (N:=10) func185 z z z λv t i o=>sr<|Þ z<|nr<|ν z<|Δ (pw tB uk z)<|ν z<|Δ (VY z z (by decide))<|Δ (pw tB uk z)<|mY (e:=248) (r:=(Rp.int .u32)) (vs:=#[(0,.int .u32 (u32.wrap c)),(1,.int .u32 (u32.wrap (Int.fdiv c (2 ^ (min (32:Int).toNat u64.bits)))))]) (cs:=[.int .u32 (u32.wrap c)]++([.int .u32 (u32.wrap (Int.fdiv c (2 ^ (min (32:Int).toNat u64.bits))))]++([]))) ([u32.wrap c,u32.wrap (Int.fdiv c (2 ^ (min (32:Int).toNat u64.bits)))]:Ŀ Int) z z z z z (by decide) (λ_=>by kernel_rfl) ⟨[.int .u32 (u32.wrap c)],[.int .u32 (u32.wrap (Int.fdiv c (2 ^ (min (32:Int).toNat u64.bits))))]++([]),z,z,⟨[.int .u32 (u32.wrap (Int.fdiv c (2 ^ (min (32:Int).toNat u64.bits))))],[],z,z,z⟩⟩ (key:=999) z (by rw[i];rfl) (λu p k h=>?_)
 refine oE hr λq g hr=>gR z z (x' qv z) (zr.h g) z (h) (λl s j d=>?_);obtain⟨n,m,rfl,f⟩:=d;refine Ρ z<|m' ?_
 obtain rfl:_=r:=hr;exact j' z z ⟨_,_,z,f⟩
instance cp'{c d r}:a ((ZS c d)) r (∀ {f e},Cr 184 #[.bool c,ε f d e] (λG=>su G f e d) (Ï r)):=.mk λhr {f e}=>Ζ
instance eI'{u r}:a ((yI u)) r (Cr 102 #[i' u] (λG=>True) (Ï r)):=.mk λhr=>Ζ
instance dx'{g r}:a ((wO g)) r (∀ {e d},Cr 251 #[.agg ((η g e d)).toArray] (λG=>su G e d g.χ) (λG v=>v=.bool r)):=.mk λhr {e d}=>by
 refine J' (args:=[_]) (N:=19) func251 z z z (λm o k h=>?_);have c:=h;refine sr<|jM 1 z z z λl=>Þ z<|nr<|Δ (Bv z)<|dE hr z (l5 (n' 1 sO z z z) (đ Value.bool (mS _))) z (λi hr=>?_) (λi hr=>?_)
 .exact Ζ
 exact Ζ
instance GS{c d r}:a ((Pe c d)) r (∀ {t o s u},Cr 192 #[ε t c o,ε s d u] (λG=>su G t o c/\su G s u d) (fS (Rp.int .u32) r)):=.mk λhr {t o s u}=>by
 refine Ξ ?_;intro Y L _ X _ _ J af an hr _;refine WC.mD hr [0,1,5,18] [] [5] [] (λ(⟨E,j,f⟩:(Ŀ Int)×ŀ Ow×Int)=>⟨(E,f),[(19,i' f)],λx=>Γ (Rp.int .u32) 248 x (.slice J (i64.wrap ((c.length:Int)+(d.length:Int))).toNat ((i64.wrap ((c.length:Int)+(d.length:Int))).toNat)) E j,[(4016,j)]⟩) (λ(⟨K,D⟩:(Ŀ Int)×ŀ Ow)=>⟨K,[],λQ=>Γ (Rp.int .u32) 248 Q (.slice J (i64.wrap ((c.length:Int)+(d.length:Int))).toNat ((i64.wrap ((c.length:Int)+(d.length:Int))).toNat)) K D,[(4016,D)]⟩) ⟨(List.replicate (i64.wrap ((c.length:Int)+(d.length:Int))).toNat 0),af,0⟩ ?_ ?_
 .rintro _ x ⟨E,j,f⟩ h O hr;refine Ξ ?_;intro _ T _ hr _;refine WC.mC hr [0,1,5,6,8,18,19,28] [] [0,1,5,6,18,19] [] (λ(⟨B,q,k,l⟩:(Ŀ Int)×ŀ Ow×Int×Int)=>⟨(B,k,l),[(7,.int .u64 k),(29,i' l)],λF=>Γ (Rp.int .u32) 248 F (.slice J (i64.wrap ((c.length:Int)+(d.length:Int))).toNat ((i64.wrap ((c.length:Int)+(d.length:Int))).toNat)) B q,[(4016,q)]⟩) (λ(⟨H,C,v⟩:(Ŀ Int)×ŀ Ow×Int)=>⟨(H,v),[(7,.int .u64 v)],λI=>Γ (Rp.int .u32) 248 I (.slice J (i64.wrap ((c.length:Int)+(d.length:Int))).toNat ((i64.wrap ((c.length:Int)+(d.length:Int))).toNat)) H C,[(4016,C)]⟩) ⟨E,j,0,0⟩ ?_;rintro _ F ⟨B,q,k,l⟩ y m hr;refine sr<|kv z<|nx<|o'<|I' hr z (λP hr=>?_) (λP hr=>?_)
  .refine q'<|b'<|o'<|Y'<|sr<|ν z<|Ρ z<|o'<|fA [ff,ff,ff,ff,ff,ff,ff,ff,ff,ff,ff,ff,ff,ff,ff,ff] eL (by kernel_rfl) λZ=>fM z<|fM z<|fM z ?_
   refine è ?_;intro V _ hr _;exact oE hr λU n hr=>cn (λ_ g=>pC F' tF (m.mono g) z z n)<|cn (λ_ g=>Y0.loadT VN (m.mono g) (key:=4016) z z (zg (oj m n)))<|cn (λ_ g=>pw uk tB z)<|cn (λ_ g=>V' z z)<|fM z<|pz Z<|iM z<|Þ z<|t'<|Θ<|b'<|sr<|ν z<|ν z<|ν z<|iM z<|ν z<|Δ (pw tB uk z)<|oE hr λx5 p hr=>Δ (pC F' tF m z z p)<|zz (r:=(Rp.int .u32)) (e:=248) (cs':=[.int .u32 (u32.wrap (u64.wrap ((u64.wrap ((u64.wrap ((u64.wrap T)*(u64.wrap V)))+(u64.wrap U)))+k)))]) (i:=i64.wrap (f+l)) (z':=u32.wrap (u64.wrap ((u64.wrap ((u64.wrap ((u64.wrap T)*(u64.wrap V)))+(u64.wrap U)))+k))) 4016 z tF z m z z z z z p λao ah=>nx<|w'<|ν z<|Δ (VY z z (by decide))<|Ζ
  exact Ζ
 rintro Q ⟨K,D⟩ hr ar W;refine b'<|sr<|ν z<|pL (r:=(Rp.int .u32)) (e:=248) 4016 W z (by rw[X];rfl) (λaC aB aw S au=>?_)
 refine oE hr λaD N hr=>gR z z (x' qv z) (zr.h N) (by rw[qJ S]) ((rm S)) (λay aE av R=>?_);obtain⟨aA,az,rfl,A⟩:=R;refine Ρ z<|m' ?_
 obtain rfl:_=r:=hr;exact j' z z ⟨_,_,z,A⟩
instance gJ'{A t r}:a ((EA A t)) r (∀ {j f g e},Cr 105 #[.agg ((η A j f)).toArray,.agg ((η t g e)).toArray] (λG=>su G j f A.χ/\su G g e t.χ) (Ï r)):=.mk λhr {j f g e}=>Ζ
instance xK{H r}:a ((Z8 H)) r (∀ {F E},Cr 229 #[ε F H E] (λG=>sl nF G F E H) (Ï r)):=.mk λhr {F E}=>by refine Ξ ?_;intro w0 W _ _ K V D _ s t y M hr _;refine WC.mA hr [2,3,7,8] [2] [2,3] [2] (λ(⟨j,m,d,c⟩:Int×Zg×ŀ Addr×Nat)=>⟨(j,m),[(9,i' j)],λk=>su k d c m.χ,[(3,ú M (η m d c) 118)]⟩) (λ(⟨o,g,h⟩:Zg×ŀ Addr×Nat)=>⟨o,[],λp=>su p g h o.χ,[(3,ú M (η o g h) 118)]⟩) ⟨0,V,s,t⟩
instance ek'{m o r}:a ((Ak m o)) r (∀ {j n h l},Cr 252 #[ε j m n,ε h o l] (λG=>su G j n m/\su G h l o) (λG v=>v=i' r)):=.mk λhr {j n h l}=>by refine Ξ ?_;intro D i _ _ _ _ hr _;refine WC.mA hr [0,1] [] [] [] (λ(p:Int)=>⟨p,[(5,i' p)],tr,[]⟩) (λ(_:Unit)=>⟨(.inr ()),[],tr,[]⟩) (i64.wrap ((m.length:Int)-1))
instance in'{o k r}:a ((Ri o k)) r (∀ {h f g e},Cr 228 #[.agg ((η o h f)).toArray,.agg ((η k g e)).toArray] (λG=>su G h f o.χ/\su G g e k.χ) (λG v=>v=i' r)):=.mk λhr {h f g e}=>Ζ
instance fB'{q p r}:a ((vf q p)) r (∀ {m l j i n k c g},Cr 151 #[.agg ((Υ q m l j i)).toArray,.agg ((Υ p n k c g)).toArray] (λG=>su G m l q.num.χ/\su G j i q.den.χ/\su G n k p.num.χ/\su G c g p.den.χ) (λG v=>v=i' r)):=.mk λhr {m l j i n k c g}=>by
 refine è ?_;intro _ _ y _ _ A _ t _ x _ _ S _ _ _ hr _;refine I' hr z (λN hr=>?_) (λN hr=>?_)
 .exact Ζ
 refine q'<|b'<|o'<|fA [ff,ff,ff,ff,ff,ff,ff,ff,ff,ff,ff] eL (by kernel_rfl) λS=>?_
 refine è ?_;intro hr;refine tI (r:=nF) (e:=118) ([q.num,p.den]:Ŀ Zg) (λ_=>z) z (by decide) (λu L o X=>?_) ?_
 .exact⟨#[(0,.agg ((η q.num m l)).toArray),(1,.agg ((η p.den c g)).toArray)],(η q.num m l)++((η p.den c g)++([])),z,z,λ_=>by kernel_rfl,⟨(η q.num m l),(η p.den c g)++([]),z,⟨[.bool q.num.neg],[ε m q.num.χ l],z,z,⟨_,z,(A.mono o)⟩⟩,⟨(η p.den c g),[],z,⟨[.bool p.den.neg],[ε c p.den.χ g],z,z,⟨_,z,(y.mono o)⟩⟩,z⟩⟩⟩
 refine oE hr λP U hr=>mg (f:=229) (φ:=Ï P) (λ_=>z) (λv Y Z o h=>?_) (λu L o X=>?_) ?_
 .obtain⟨E,K,rfl,s⟩:=h;exact⟨_,_,z,s.mono o⟩
 .obtain⟨⟨C,B,O,R⟩,_⟩:=(show(λG v=>∃ C B,v=.slice C 2 2/\jo nF G (.slice C 2 2) B [q.num,p.den]) L.m (u 21)/\True from X);exact⟨_,_,_,λ_=>x' ov z,xK.h U,(by simp only[O] <;> rfl),R⟩
 refine Ξ ?_;intro hr;refine tI (r:=nF) (e:=118) ([p.num,q.den]:Ŀ Zg) (λ_=>z) z (by decide) (λu L o X=>?_) ?_
 .exact⟨#[(0,.agg ((η p.num n k)).toArray),(1,.agg ((η q.den j i)).toArray)],(η p.num n k)++((η q.den j i)++([])),z,z,λ_=>by kernel_rfl,⟨(η p.num n k),(η q.den j i)++([]),z,⟨[.bool p.num.neg],[ε n p.num.χ k],z,z,⟨_,z,(x.mono o)⟩⟩,⟨(η q.den j i),[],z,⟨[.bool q.den.neg],[ε j q.den.χ i],z,z,⟨_,z,(t.mono o)⟩⟩,z⟩⟩⟩
 refine zC (d:=27) (post:=λG v=>∃ T Q,v=.slice T 2 2/\jo nF G (.slice T 2 2) Q [p.num,q.den]) (d':=22) (post':=Ï P) (d'':=21) (post'':=λG v=>∃ C B,v=.slice C 2 2/\jo nF G (.slice C 2 2) B [q.num,p.den]) (λaj ai ak ao ag D I H=>?_);obtain⟨T,Q,rfl,af⟩:=D;obtain⟨E,K,rfl,s⟩:=I;obtain⟨C,B,rfl,R⟩:=H;refine oE hr λan V hr=>gR z z (x' ov z) (xK.h V) z (af) (λah ap M J=>?_);obtain⟨aa,ab,rfl,F⟩:=J;refine oE hr λar W hr=>H' z z (x' Is z) (in'.h W) z (⟨(s.mono M),F⟩)<|Þ z<|t'<|Θ<|b'<|m' (Õ hr z z)
instance gM'{l k r}:a ((D1 l k)) r (∀ {e i c d g j h f},Cr 201 #[.agg (((Υ l.c e i c d):Ŀ Value)++(Ö l.m)).toArray,.agg (((Υ k.c g j h f):Ŀ Value)++(Ö k.m)).toArray] (λG=>su G e i l.c.num.χ/\su G c d l.c.den.χ/\su G g j k.c.num.χ/\su G h f k.c.den.χ) (λG v=>v=i' r)):=.mk λhr {e i c d g j h f}=>Ζ
instance cV'{l F r}:a ((ZB l F)) r (∀ {m o y A},Cr 200 #[ε m l o,ε y F A,.func (.func 201) #[] #[]] (λG=>sl c' G m o l/\sl c' G y A F) (λG v=>v=i' r)):=.mk λhr {m o y A}=>by refine Ξ ?_;intro U J _ _ _ hr _;refine WC.mA hr [0,1,2,11,12] [] [0,1] [] (λ(t:Int)=>⟨t,[(13,i' t)],tr,[]⟩) (λ(_:Unit)=>⟨(.inr ()),[],tr,[]⟩) 0
theorem Pa(g:(Ŀ Za))(i:(Ŀ Za))(e:ŀ Addr)(d:Nat)(c:ŀ Addr)(f:Nat)(r:Int)(hr:(D6 g i).Α r):Cr 114 #[ε e g d,ε c i f] (λG=>sl c' G e d g/\sl c' G c f i) (λG v=>v=i' r):=by exact Ζ
instance {g:(Ŀ Za)}{i:(Ŀ Za)}{r:Int}:h ((D6 g i)) r (∀ {e:ŀ Addr}{d:Nat}{c:ŀ Addr}{f:Nat},Cr 114 #[ε e g d,ε c i f] (λG=>sl c' G e d g/\sl c' G c f i) (λG v=>v=i' r)):=⟨λa {e d c f}=>Pa _ _ e d c f _ a⟩
theorem Za1(l:Ŀ (Ŀ Za))(a b d:Int)(p:ŀ Addr)(c n:Nat)(tk:ŀ Ow)(r:Ŀ (Ŀ Za))(hr:(O0 l a b d).Α r):Cl 259 #[.slice p n c,.int .i64 a,.int .i64 b,.int .i64 d,.func (.func 114) #[] #[]] [(5000,tk)] (λG=>Γ (Rp.sl Zk) 50 G (.slice p n c) l tk) (λG L v=>∃ g,L=[(5000,g)]/\v=.tuple #[]/\Γ (Rp.sl Zk) 50 G (.slice p n c) r g):=by
 obtain⟨⟨rfl,rfl,⟨F,i⟩,h2,h3⟩,hr⟩:=hr;replace hr:_=r:=hr;subst hr;obtain⟨k,rfl⟩:∃ k:Nat,d=k:=⟨d.toNat,by omega⟩;obtain⟨l',rfl⟩:∃ l':Ŀ mE,l'.map Subtype.val=l:=⟨l.attach.map λq=>⟨q.1,Ć.1 h3 _ q.2⟩,by rw[aab];exact List.attach_map_subtype_val l⟩;have f:l'.length=(l'.map Subtype.val).length:=by rw[ć]
 have t:∀ (x y:mE) (u v:Value),Cr 114 #[u,v] (λG=>((Rp.sl Zk).via (Subtype.val:mE->_)).fh G [u] x/\((Rp.sl Zk).via (Subtype.val:mE->_)).fh G [v] y) (λ_ v=>v=.int .i64 (ë x.1 y.1)):=λx y u v w G hi hp=>by obtain⟨⟨u',m,i⟩,⟨I,s,h2⟩⟩:=hp;cases m;cases s;obtain⟨p1,D,rfl⟩:=i.form;obtain⟨p2,E,rfl⟩:=h2.form;exact Pa _ _ _ _ _ _ _ (S6 x.2 y.2) w G hi ⟨i,h2⟩
 have H:=Og (r:=(Rp.sl Zk).via (Subtype.val:mE->_)) rfl Om Tryz.Db rfl t HU 50 p n c l' tk k (by omega) (by omega);rw[f]at H;refine H.mono (λG h=>Γ.via.2 h) (λG L v h=>?_);obtain⟨ys,j,A,B,C,q4,q5⟩:=h;refine⟨j,A,B,?_⟩;have e:jy (l'.map Subtype.val)=ys.map Subtype.val:=by refine QQ ((vo _).trans (q4.map Subtype.val).symm) (λp hp=>Ć.1 h3 _ ((vo _).mem_iff.1 hp)) (Kv _) ?_;rw[Ź];refine q5.imp (λ{a b} h=>?_);simp only[Go.Proofs.ltOf,aas,aaI]at h;have:=qz a.1 b.1;omega
 rw[e];exact Γ.via.1 C
instance gD'{l k r}:a ((D0 l k)) r (∀ {e i c d g j h f},Cr 150 #[.agg (((Υ l.c e i c d):Ŀ Value)++(Ö l.m)).toArray,.agg (((Υ k.c g j h f):Ŀ Value)++(Ö k.m)).toArray] (λG=>su G e i l.c.num.χ/\su G c d l.c.den.χ/\su G g j k.c.num.χ/\su G h f k.c.den.χ) (λG v=>v=.bool r)):=.mk λhr {e i c d g j h f}=>Ζ
instance cW'{s H r}:a ((ZC s H)) r (∀ {B C D E},Cr 149 #[ε B s C,ε D H E,.func (.func 150) #[] #[]] (λG=>sl c' G B C s/\sl c' G D E H) (λG v=>v=.bool r)):=.mk λhr {B C D E}=>by refine Ξ ?_;intro S I _ _ _ _ hr _;refine WC.mA hr [1,2,15,16] [] [] [] (λ(p:Int)=>⟨p,[(17,i' p)],tr,[]⟩) (λ(_:Unit)=>⟨(.inr ()),[],tr,[]⟩) 0
theorem I9(g:(Ŀ Za))(i:(Ŀ Za))(e:ŀ Addr)(d:Nat)(c:ŀ Addr)(f:Nat)(r:Bool)(hr:(ZU g i).Α r):Cr 84 #[ε e g d,ε c i f] (λG=>sl c' G e d g/\sl c' G c f i) (λG v=>v=.bool r):=by exact Ζ
instance {g:(Ŀ Za)}{i:(Ŀ Za)}{r:Bool}:h ((ZU g i)) r (∀ {e:ŀ Addr}{d:Nat}{c:ŀ Addr}{f:Nat},Cr 84 #[ε e g d,ε c i f] (λG=>sl c' G e d g/\sl c' G c f i) (λG v=>v=.bool r)):=⟨λa {e d c f}=>I9 _ _ e d c f _ a⟩
instance hg'{n r}:a ((Pf n)) r (Cr 180 #[.int .u64 n] (λG=>True) (λG v=>v=i' r)):=.mk λhr=>Ζ
instance fo'{d r}:a ((tR d)) r (Cr 97 #[.int .u64 d] (λG=>True) (λG v=>v=i' r)):=.mk λhr=>Ζ
theorem Z1(t:(Ŀ (Ŀ Za)))(f:ŀ Addr)(e:Nat)(j:Nat)(h:ŀ Ow)(r:(Ŀ (Ŀ Za)))(hr:(ZQ t).Α r):Cl 198 #[.slice f j e,.func (.func 114) #[] #[]] [(5000,h)] (λG=>Γ (Rp.sl c') 50 G (.slice f j e) t h) (λG L v=>∃ k,L=[(5000,k)]/\v=.tuple #[]/\Γ (Rp.sl c') 50 G (.slice f j e) r k):=by
 refine rh (args:=[_,_]) (N:=14) func198 z z z (λq A u m=>?_);have d:=m;have a:q.L.zero:=by rw[u];intro p o x B;simp only[Ď,ĝ,ţ]at o;subst o;exact BO d B
 refine sr<|ν z<|Δ (BT jL d z)<|Ρ z<|w' ?_
 refine è ?_;intro _ hr _;refine oE hr λE l hr=>mP z z (x' IA z) (Za1 _ _ _ _ _ _ _ _ _ l) z (d) (lc z ln) a (λD s C y c=>?_);obtain⟨i,rfl,rfl,g⟩:=c;refine t'<|WE.iX ?_
 obtain rfl:_=r:=hr;refine mO (S':=St q A s [(5000,i)]) (w1 z)<|WE.iH z  ⟨_,z,z,g⟩
instance {t:(Ŀ (Ŀ Za))}{r:(Ŀ (Ŀ Za))}:c ((ZQ t)) r (∀ {f:ŀ Addr}{e:Nat}{j:Nat}{h:ŀ Ow},Cl 198 #[.slice f j e,.func (.func 114) #[] #[]] [(5000,h)] (λG=>Γ (Rp.sl c') 50 G (.slice f j e) t h) (λG L v=>∃ k,L=[(5000,k)]/\v=.tuple #[]/\Γ (Rp.sl c') 50 G (.slice f j e) r k)):=⟨λa {f e j h}=>Z1 _ f e j h _ a⟩
abbrev RP:Rp (Ŀ Za):=Rp.sl Zk
theorem ZwQ(l:Ŀ (Ŀ Za))(p:ŀ Addr)(n c:Nat):Cr 113 #[.slice p n c] (λG=>Η RP G (.slice p n c) l) (λG v=>∃ b,v=.func (.func 199) #[] #[.pointer (some ⟨b,0,none⟩)]/\G b 0=some (.slice p n c)/\Η RP G (.slice p n c) l):=by
 refine iJ.enter (args:=[_]) (N:=4) func113 rfl rfl rfl (λw0 G0 a e=>?_);refine sr<|WL.ic 1 rfl Zh rfl rfl (λb=>?_)
 refine sg rfl rfl<|WL.nil<|WE.then ?_
 refine WC.gx 1 rfl (by rw[a];rfl) (λg d f _=>?_);refine sr<|yy (Y0.makeFunc rfl rfl) rfl<|sg rfl rfl<|nx<|WC.ret ?_
 exact WE.jQ rfl rfl ⟨_,rfl,f 0 _ rfl,e.mono d⟩
def EP(l:Ŀ (Ŀ Za))(j:Nat)(u:Value)(G:Mem):Prop:=∃ x,l[j]? = some x/\∃ p c,u=.slice p x.length c/\Η Zk G u x
theorem Zvm(b:Nat)(l:Ŀ (Ŀ Za))(p:ŀ Addr)(n c:Nat):rE prog 199 #[.pointer (some ⟨b,0,none⟩)] l.length (EP l) (λG=>G b 0=some (.slice p n c)/\Η RP G (.slice p n c) l):=by
 intro σ W I K pre F v L V t Q;refine eO.enter (args:=[_,_]) (N:=16) func199 rfl rfl rfl (λw0 G0 u hp=>?_);obtain⟨⟨D,a⟩,m⟩:=hp;have B:w0.L.zero:=by rw[u];exact Q
 have E:l.length<=9223372036854775807:=by obtain⟨_,_,_,_,h,_⟩:=a;omega
 rw[a.eqv]at D;have a:=a.XB;refine sr<|yy (Y0.hP jR rfl D) rfl ?_
 refine Ξ ?_;refine WC.block ?_;refine WC.gX (X:=Nat×σ×Mem) (λe=>match e with|⟨k,_,_⟩=>[(0,.func (.yield W) #[] #[]),(5,.slice p l.length c),(6,.int .i64 (l.length:Int)),(7,.int .i64 (k:Int))])
  (λe=>match e with|⟨k,s,G⟩=>k<=l.length/\Mem.le G0 G/\I k s/\pre s G)
  (λe=>match e with|⟨_,s,G⟩=>St w0 G0 G (K s)) (λe=>l.length-e.1) ⟨0,V,G0⟩ (fc rfl (fc rfl (fc rfl (fc rfl fn)))) ⟨Ĝ _,Mem.le_refl _,t,m⟩ (λw A=>A) ?_
 rintro⟨k,s,G⟩ ⟨Z,d,C,hp⟩;refine è ?_;refine WC.eC (p:=(k:Int)<(l.length:Int)) rfl (λO=>?_) (λO=>?_)
 .have f:k<l.length:=by omega
  have H:(0:Int)<=(k:Int)/\l[(k:Int).toNat]? = some l[k]:=⟨by omega,by simp[f]⟩;obtain⟨q,S,T,U⟩:=AtK.sl (Η.at a H);have P:i64.wrap ((k:Int)+1)=((k+1:Nat):Int):=by rw[ĩ];omega
  refine WC.skip<|WE.then<|WC.seq<|WC.block<|sr<|yy (Y0.lN underlying46 kP (a.mono d) rfl rfl H) rfl<|yy (Y0.hP mw rfl (d _ _ _ T)) rfl<|sg rfl rfl<|nx<|WC.seq<|WC.qe<|l1.y0 Zh (Y0.move rfl) (λc h=>by cases h) rfl<|l1.y0 Zh (Y0.move rfl) (λc h=>by cases h) rfl ?_
  refine l1.vM (R:=[]) Zh rfl rfl rfl (L k _ s f C) ⟨hp,l[k],by simp[f],q,S,rfl,U.mono d⟩ B (λi hi=>by cases hi) (λb J Y j g=>?_);obtain⟨rfl,s',r,rfl,y⟩:=g;refine l1.y0 Zh (Y0.not rfl) (λc h=>by cases h) rfl<|l1.nil<|WE.then<|WC.pI rfl<|WC.skip ?_
  refine WE.inBlock<|WE.then<|WC.region<|yy (Y0.add rfl rfl) rfl ?_
  rw[P];exact mv rfl rfl<|WL.nil<|WE.gH (x:=(k,s,G)) (k+1,s',J) ⟨by omega,Mem.le_trans d j,r,y⟩ (fc rfl (fc rfl (fc rfl (fc rfl fn)))) (λw A=>A) (by show l.length-(k+1)<l.length-k;omega)
 have:k=l.length:=by omega
 subst this;refine WC.exit<|WE.å<|WE.å<|WE.Í<|WE.iX ?_
 exact WE.iH rfl ⟨rfl,s,C,rfl,hp⟩
theorem ZwO(b:Nat)(l:Ŀ (Ŀ Za))(p:ŀ Addr)(n c:Nat)(hl:l.length<=1000000):Cl 258 #[.slice none 0 0,.func (.func 199) #[] #[.pointer (some ⟨b,0,none⟩)]] [] (λG=>G b 0=some (.slice p n c)/\Η RP G (.slice p n c) l)
  (λG L v=>∃ q E tk,L=[(7000,tk)]/\v=.slice q l.length E/\Γ RP 50 G v l tk):=by
 refine eO.sa (args:=[_,_]) (N:=13) func258 rfl rfl rfl (λw0 G0 H B=>?_)
 refine è ?_
 intro b2
 refine WC.n2 (t:=7) (f:=199) rfl Ij (λac d Z r ha S O U P has J=>?_)
 let m:Nat×ŀ Addr×Nat×ŀ Ow->Lo:=λs=>[(8001,some ⟨Z,.loop r,0⟩),(8002,some ⟨d,.deferred (some []),0⟩),(2,some ⟨b2,.cells #[.slice s.2.1 s.1 s.2.2.1] 46 (0,0),0⟩),(7000,s.2.2.2)]
 refine⟨_,m (0,none,0,none),_,lc rfl (lc rfl (lc rfl (lw ln))),λi _=>by rw[H];rfl,
  Zvm b l p n c Z (λj s=>s.1=j/\j<=l.length) m (λs G=>Γ RP 50 G (.slice s.2.1 s.1 s.2.2.1) (l.take s.1) s.2.2.2) (λs i hi=>?_) (λG G' s y h=>h.mono y) (λj u s hj hI=>?_) _ ⟨rfl,Ĝ _⟩ ?_,⟨B,Γ.nil⟩,λG' L' v y g=>?_⟩
 .simp only[m]
  rw[Lo.Zp,ā (by omega),Lo.Zp,ā (by omega),Lo.Zp,ā (by omega),Lo.Zp,ā (by omega)];rfl
 .obtain⟨k,q,E,tk⟩:=s
  obtain⟨rfl,hk⟩:=hI
  dsimp only at hj hk ⊢
  refine qx.Tc (N:=13) rfl S O P (by rw[U];exact ha.round (by decide)) (λad G aa hG=>?_)
  obtain⟨a,x,V,up,uc,rfl,ab⟩:=hG
  refine Gp has ?_
  refine fZ.region Rl rfl (sg rfl rfl<|WL.nil (λa1 v1 I Q=>⟨_,_,_,I,Q,rfl,?_⟩))
  refine Gp J ?_
  refine fZ.block<|fZ.region (xa xf) rfl<|yy (Y0.Ò 2 jR rfl rfl rfl) rfl<|mv rfl rfl ?_
  refine è ?_
  intro _ _ A h1
  have C:(l.take k).length=k:=by rw[č];omega
  have T:l.take k++[x]=l.take (k+1):=by obtain⟨K,rfl⟩:=Č.1 V;exact(ċ K).symm
  refine WL.iP (r:=RP) (e:=50) (xs:=l.take k) (ys:=[x]) 7000 Zh rfl underlying46 js rfl (by decide) rfl rfl (a.mono A) rfl h1 (by rw[Ā,C];show k+1<=small;simp only[small];omega) (λp2 W D h2=>?_)
  rw[show(l.take k++[x]).length=k+1 by rw[Ā,C];rfl]at h2 ⊢
  rw[T]at h2
  refine è ?_
  exact λa2 w2 _ R=>⟨_,_,m (k+1,p2,W,D),R,rfl,lc rfl (lc rfl (lc rfl (lc rfl ln))),rfl,(k+1,p2,W,D),⟨rfl,by omega⟩,rfl,h2⟩
 .intro q Y x V
  simp only[m,Ď,ĝ,ţ]at Y
  rcases Y with rfl|rfl|rfl|rfl <;> cases V <;> rfl
 obtain⟨rfl,⟨k,q,E,tk⟩,⟨rfl,_⟩,rfl,a⟩:=g
 dsimp only at a
 rw[Ĥ]at a
 refine⟨rfl,mG.seq<|mG.region<|yy (Y0.Ò 2 jR rfl rfl rfl) rfl<|sg rfl rfl<|WL.nil<|mG.then<|mG.ret ?_⟩
 refine WE.C4 (rvs:=[.tmp 4]) [(7000,tk)] [.slice q l.length E] rfl rfl rfl (λi rv v F X=>?_) (lc rfl ln) ⟨_,_,_,rfl,rfl,a⟩
 match i with
 | 0=>simp at F X;subst F X;rfl
 | i+1=>simp at F
theorem Zvk(xs:Ŀ (Ŀ Za))(hg:xs.all Ñ=true)(am:xs.length<=1000000)(p:ŀ Addr)(c n:Nat)(tk:ŀ Ow):Cl 115 #[.slice p n c,.func (.func 84) #[] #[]] [(5000,tk)] (λG=>Γ RP 50 G (.slice p n c) xs tk)
  (λG L v=>∃ zk q V,L=[(5000,zk)]/\v=.slice q (gh xs).length V/\Γ RP 50 G (.slice q (gh xs).length V) (gh xs) zk):=by
 refine eO.enter (args:=[_,_]) (N:=66) func115 rfl rfl rfl (λw0 G0 an d=>?_)
 obtain rfl:n=xs.length:=(abG d.eqv).2.1
 refine sr<|sg rfl rfl<|nx<|WC.seq<|sr<|mv rfl rfl<|yy (Y0.mo underlying46 rfl) rfl<|yy (Y0.lss rfl rfl) rfl<|nx ?_
 refine WC.eC (p:=(xs.length:Int)<2) rfl (λhc=>?_) (λhc=>?_)
 .refine Ξ ?_
  have e:=RJ (xs:=xs) (by omega)
  exact WE.jQ rfl rfl ⟨tk,p,c,rfl,by rw[e],by rw[e];exact d⟩
 have J:∀ {G:Mem}{ys:Ŀ (Ŀ Za)}{zk:ŀ Ow},Γ RP 50 G (.slice p ys.length c) ys zk->∀ i (hi:i<ys.length),∃ q V,mz zk (i*1) (.slice q ys[i].length V)/\Η Zk G (.slice q ys[i].length V) ys[i]:=λ{G ys zk} h i hi=>by have:=AtK.sl (Γ.at h (i:=(i:Int)) (x:=ys[i]) ⟨by omega,by simp[hi]⟩);rw[Ē]at this;exact this
 have gq:∀ i (hi:i<xs.length),Ñ xs[i]=true:=λi hi=>Ć.1 hg _ (Ă hi)
 obtain⟨b,rfl⟩:∃ b,p=some ⟨b,0,none⟩:=by
  cases tk with
  | none=>obtain⟨rfl,_⟩:=d;simp at hc
  | some y=>obtain⟨cap,cs,rest,Z,_⟩:=d;exact⟨y.b,(abG Z).1⟩
 have R:xs.length<=c:=by
  cases tk with
  | none=>obtain⟨rfl,_⟩:=d;simp at hc
  | some y=>obtain⟨cap,cs,rest,Z,_,_,_,_,_,h7⟩:=d;rw[(abG Z).2.2];exact h7
 refine WC.skip<|WE.then<|WC.seq<|sr<|sg rfl rfl<|nx<|WC.block ?_
 refine WC.gX (X:=Nat×Mem) (λA=>match A with|⟨k,_⟩=>[(0,.slice (some ⟨b,0,none⟩) xs.length c),(1,.func (.func 84) #[] #[]),(5,.int .i64 (k:Int))])
  (λA=>match A with|⟨k,G⟩=>1<=k/\k<=xs.length/\Mem.le G0 G/\gh (xs.take k)=xs.take k)
  (λA=>match A with|⟨_,G⟩=>St w0 G0 G [(5000,tk)]) (λA=>xs.length-A.1) ⟨1,G0⟩ (fc rfl (fc rfl (fc rfl fn))) ⟨Ĉ _,by omega,Mem.le_refl _,RJ (by rw[č];omega)⟩ (λw H=>H) ?_
 rintro⟨k,G⟩ ⟨Q,Y,a,s⟩
 dsimp only at Q Y a s ⊢
 have d:=d.mono a
 refine WC.seq ?_
 refine è ?_
 refine WC.eC (p:=(k:Int)<(xs.length:Int)) rfl (λab=>?_) (λab=>?_)
 .have D:k<xs.length:=by omega
  have ag:i64.wrap ((k:Int)-1)=((k-1:Nat):Int):=by rw[ĩ];omega
  have ah:i64.wrap ((k:Int)+1)=((k+1:Nat):Int):=by rw[ĩ];omega
  obtain⟨q1,c1,e1,s1⟩:=J d k D
  obtain⟨q2,c2,e2,s2⟩:=J d (k-1) (by omega)
  have f:=SB Q D
  refine WC.skip<|WE.then<|WC.seq<|WC.block<|WC.seq ?_
  refine WC.drawn [false,false,false,false,false,false,false,false,false,false] eL (by kernel_rfl) (λhb=>?_)
  refine cn (λ_ a=>Y0.move rfl)<|cn (λ_ a=>Y0.move rfl)<|cn (λ_ a=>Y0.move rfl)<|cn (λ_ a=>Y0.iR underlying46 kP rfl rfl D)<|cn (λ_ a=>Y0.loadT mw (d.mono a) (key:=5000) rfl rfl (by simpa using e1)) ?_
  refine cn (λ_ a=>Y0.move rfl)<|cn (λ_ a=>Y0.move rfl)<|cn (λ_ a=>Y0.eq (Y0.sub rfl rfl) (đ (Value.int .i64) ag))<|cn (λ_ a=>Y0.iR underlying46 kP rfl rfl (show k-1<xs.length by omega))<|cn (λ_ a=>Y0.loadT mw (d.mono a) (key:=5000) rfl rfl (by simpa using e2)) ?_
  refine γ.mW hb<|WL.gS Zh rfl (YC.xW OU rfl rfl) (I9 _ _ _ _ _ _ _ (E4 (gq k D) (gq (k-1) (by omega)))) rfl ⟨s1,s2⟩ ?_
  refine è ?_
  refine WC.eC (p:=ë xs[k] xs[k-1]=0) rfl (λO=>?_) (λO=>?_)
  .rw[ą O,s]at f
   by_cases ad:c=k
   .omega
   refine Ξ ?_
   refine yy (Y0.Oj underlying46 kP rfl rfl Y R ad) rfl ?_
   refine Ξ ?_
   refine WC.block ?_
   refine WC.gX (X:=Nat×Ŀ (Ŀ Za)×ŀ Ow×Mem) (λA=>match A with|⟨m,_,_,_⟩=>[(0,.slice (some ⟨b,0,none⟩) xs.length c),(1,.func (.func 84) #[] #[]),(5,.int .i64 ((gh (xs.take (k+m))).length:Int)),(6,.slice (some ⟨b,k*1,none⟩) (xs.length-k) (c-k)),(7,.int .i64 (m:Int))])
    (λA=>match A with|⟨m,ys,zk,G'⟩=>1<=m/\k+m<=xs.length/\Mem.le G G'/\Γ RP 50 G' (.slice (some ⟨b,0,none⟩) xs.length c) ys zk/\ys.length=xs.length/\ys.take (gh (xs.take (k+m))).length=gh (xs.take (k+m))/\(gh (xs.take (k+m))).length<=k+m-1/\∀ t,k+m-1<=t->ys[t]? = xs[t]?)
    (λA=>match A with|⟨_,_,zk,G'⟩=>St w0 G0 G' [(5000,zk)]) (λA=>xs.length-(k+A.1)) ⟨1,xs,tk,G⟩ (fc rfl (fc rfl (fc (by rw[f,č,Ž Y];rfl) (fc rfl (fc rfl fn))))) ⟨Ĉ _,by omega,Mem.le_refl _,d,rfl,by rw[f,č,Ž Y],by rw[f,č];omega,λ_ _=>rfl⟩ (λw H=>H) ?_
   rintro⟨m,ys,zk,G'⟩ ⟨aa,hm,E,l,C,I,S,g⟩
   dsimp only at aa hm E l C I S g ⊢
   refine WC.seq<|sr ?_
   refine è ?_
   refine WC.eC (p:=(m:Int)<((xs.length-k:Nat):Int)) rfl (λac=>?_) (λac=>?_)
   .have T:k+m<xs.length:=by omega
    have ai:i64.wrap ((m:Int)-1)=((m-1:Nat):Int):=by rw[ĩ];omega
    have U:i64.wrap ((m:Int)+1)=((m+1:Nat):Int):=by rw[ĩ];omega
    have K:Γ RP 50 G' (.slice (some ⟨b,0,none⟩) ys.length c) ys zk:=by rw[C];exact l
    have y1:ys[k+m]'(by omega)=xs[k+m]:=by have:=g (k+m) (by omega);rw[Ą (by omega),Ą (by omega)]at this;exact Ů this
    have y2:ys[k+m-1]'(by omega)=xs[k+m-1]'(by omega):=by have:=g (k+m-1) (by omega);rw[Ą (by omega),Ą (by omega)]at this;exact Ů this
    obtain⟨q3,c3,e3,s3⟩:=J K (k+m) (by omega)
    obtain⟨q4,c4,e4,s4⟩:=J K (k+m-1) (by omega)
    rw[y1]at e3 s3
    rw[y2]at e4 s4
    have a3:mz zk (k*1+m*1) (.slice q3 xs[k+m].length c3):=by rw[<- Ŋ];exact e3
    have a4:mz zk (k*1+(m-1)*1) (.slice q4 (xs[k+m-1]'(by omega)).length c4):=by rw[<- Ŋ,show k+(m-1)=k+m-1 by omega];exact e4
    have B:=SB (xs:=xs) (j:=k+m) (by omega) T
    refine WC.skip<|WE.then<|WC.seq<|WC.block<|WC.seq ?_
    refine WC.drawn [false,false,false,false,false,false,false,false,false,false] eL (by kernel_rfl) (λhb=>?_)
    refine cn (λ_ a=>Y0.move rfl)<|cn (λ_ a=>Y0.move rfl)<|cn (λ_ a=>Y0.move rfl)<|cn (λ_ a=>Y0.iR underlying46 kP rfl rfl (show m<xs.length-k by omega))<|cn (λ_ a=>Y0.loadT mw (l.mono a) (key:=5000) rfl rfl a3) ?_
    refine cn (λ_ a=>Y0.move rfl)<|cn (λ_ a=>Y0.move rfl)<|cn (λ_ a=>Y0.eq (Y0.sub rfl rfl) (đ (Value.int .i64) ai))<|cn (λ_ a=>Y0.iR underlying46 kP rfl rfl (show m-1<xs.length-k by omega))<|cn (λ_ a=>Y0.loadT mw (l.mono a) (key:=5000) rfl rfl a4) ?_
    refine γ.mW hb<|WL.gS Zh rfl (YC.xW OU rfl rfl) (I9 _ _ _ _ _ _ _ (E4 (gq (k+m) T) (gq (k+m-1) (by omega)))) rfl ⟨s3,s4⟩<|yy (Y0.CN rfl) rfl<|WL.nil<|WE.nx<|WE.then ?_
    refine WC.eC (p:=¬ ë xs[k+m] (xs[k+m-1]'(by omega))=0) rfl (λP=>?_) (λP=>?_)
    .rw[ā P]at B
     have F:(gh (xs.take (k+(m+1)))).length=(gh (xs.take (k+m))).length+1:=by rw[<- š,B,Ā];rfl
     have aj:i64.wrap (((gh (xs.take (k+m))).length:Int)+1)=(((gh (xs.take (k+m))).length+1:Nat):Int):=by rw[ĩ];omega
     refine sr<|mv rfl rfl<|mv rfl rfl<|mv rfl rfl<|mv rfl rfl<|yy (Y0.iR underlying46 kP rfl rfl (show m<xs.length-k by omega)) rfl<|yy (Y0.loadT mw l (key:=5000) rfl rfl a3) rfl ?_
     have hz:(0:Int)<=((gh (xs.take (k+m))).length:Int)/\ys[((gh (xs.take (k+m))).length:Int).toNat]? = some (ys[(gh (xs.take (k+m))).length]'(by omega)):=⟨by omega,by rw[Ē,Ą]⟩
     refine yy (Y0.oN underlying46 kP l rfl rfl hz) rfl ?_
     refine WL.storeT (r:=RP) (e:=50) (cs':=[.slice q3 xs[k+m].length c3]) (i:=((gh (xs.take (k+m))).length:Int)) (z':=xs[k+m]) 5000 Zh kP rfl l rfl rfl rfl rfl ⟨_,rfl,s3⟩ hz (λak h3=>?_)
     rw[Ē]at h3
     refine nx<|WC.region<|mv rfl rfl<|yy (Y0.add rfl rfl) rfl ?_
     rw[aj]
     refine sg rfl rfl<|WL.nil<|WE.inBlock<|WE.then<|WC.region<|mv rfl rfl<|yy (Y0.add rfl rfl) rfl ?_
     rw[U]
     refine sg rfl rfl<|WL.nil<|WE.gH (x:=(m,ys,zk,G')) (m+1,ys.set (gh (xs.take (k+m))).length xs[k+m],ak,G') ⟨by omega,by omega,E,h3,by rw[Ŗ];exact C,?_,by show(gh (xs.take (k+(m+1)))).length<=k+(m+1)-1;omega,λt ht=>?_⟩ (fc rfl (fc rfl (fc (by rw[F];rfl) (fc rfl (fc rfl fn))))) (λw H=>H.weaken (lc rfl ln)) (by show xs.length-(k+(m+1))<xs.length-(k+m);omega)
     .rw[F,<- š,B,ċ (by rw[Ŗ];omega),List.getElem_set_self]
      rw[List.take_set_of_le (Ĉ _),I]
     rw[List.getElem?_set_ne (by omega)]
     exact g t (by omega)
    rw[ą (abj.1 P)]at B
    refine WC.skip<|WE.inBlock<|WE.then<|WC.region<|mv rfl rfl<|yy (Y0.add rfl rfl) rfl ?_
    rw[U]
    exact sg rfl rfl<|WL.nil<|WE.gH (x:=(m,ys,zk,G')) (m+1,ys,zk,G') ⟨by omega,by omega,E,l,C,by rw[<- š,B];exact I,by rw[<- š,B];omega,λt ht=>g t (by omega)⟩ (fc rfl (fc rfl (fc (by rw[<- š,B];rfl) (fc rfl (fc rfl fn))))) (λw H=>H) (by show xs.length-(k+(m+1))<xs.length-(k+m);omega)
   have u:k+m=xs.length:=by omega
   rw[u,Ĥ]at I S
   refine WC.exit<|WE.å<|WE.å<|WE.Í<|WE.then<|sr<|mv rfl rfl<|mv rfl rfl ?_
   rw[<- C]at l
   refine WL.qI (r:=RP) (e:=50) (xs:=ys) (lo:=((gh (xs.take (k+m))).length:Int)) (zx:=([]:Ŀ Za)) 5000 rfl underlying46 js rfl rfl (Ć.1 rfl) (by decide) ⟨_,rfl,Η.nil _ _⟩ l rfl (by rw[C];rfl) rfl (by rw[u,Ĥ];omega) (λv5 W h5=>?_)
   rw[u,Ĥ,Ē,I]at h5
   rw[C]at h5
   have al:=TJ (xs:=xs)
   refine nx<|sr<|mv rfl rfl<|mv rfl rfl ?_
   refine WL.u2 (r:=RP) (e:=50) (hi:=((gh (xs.take (k+m))).length:Int)) Zh rfl underlying46 kP rfl h5 rfl rfl ⟨by omega,by omega,by rw[u,Ĥ,Ā,Ĺ];omega⟩ (λh6=>?_)
   rw[u,Ĥ,Ē,abM]at h6
   rw[Ē]
   refine sg rfl rfl<|nx<|WC.ret<|WE.gv<|WE.hJ<|WE.hJ<|WE.gv<|WE.hJ ?_
   refine WE.ö (S':=St w0 G0 G' [(5000,W)]) (λw H=>H.weaken (lc rfl ln)) (WE.jQ rfl rfl ⟨W,_,c,rfl,?_,h6⟩)
   rw[u,Ĥ]
  rw[ā O,s]at f
  refine WC.skip<|WE.inBlock<|WE.then<|WC.region<|mv rfl rfl<|yy (Y0.add rfl rfl) rfl ?_
  rw[ah]
  exact sg rfl rfl<|WL.nil<|WE.gH (x:=(k,G)) (k+1,G) ⟨by omega,by omega,a,by rw[f];exact(ċ D).symm⟩ (fc rfl (fc rfl (fc rfl fn))) (λw H=>H) (by show xs.length-(k+1)<xs.length-k;omega)
 have ae:k=xs.length:=by omega
 subst ae
 rw[Ĥ]at s
 refine WC.exit<|WE.å<|WE.å<|WE.Í<|WE.then<|sr<|mv rfl rfl<|sg rfl rfl<|nx<|WC.ret ?_
 exact WE.jQ rfl rfl ⟨tk,_,c,rfl,by rw[s],by rw[s];exact d⟩
theorem ZpJ(b:Nat)(l:Ŀ (Ŀ Za))(K:l.all Ñ=true)(O:l.length<=100)(p:ŀ Addr)(n c:Nat):Cl 112 #[.func (.func 199) #[] #[.pointer (some ⟨b,0,none⟩)],.func (.func 114) #[] #[]] [] (λG=>G b 0=some (.slice p n c)/\Η RP G (.slice p n c) l)
  (λG L v=>∃ q m tk,L=[(5000,tk)]/\v=.slice q (jy l).length m/\Γ RP 50 G v (jy l) tk):=by
 refine eO.enter (args:=[_,_]) (N:=12) func112 rfl rfl rfl (λw0 G0 r t=>?_)
 have D:w0.L.zero:=by rw[r];intro p hp;cases hp
 have I:∀ i,w0.L.get i=none:=λi=>by rw[r];rfl
 have k:(ZQ l).Α (jy l):=by obtain⟨v,J,h2,h3⟩:=TF O;exact⟨v,J,jy l,⟨⟨rfl,rfl,⟨h2,h3⟩,by omega,K⟩,rfl⟩,rfl⟩
 have g:(jy l).length=l.length:=(vo l).length_eq
 have d:Cl 197 #[.func (.func 199) #[] #[.pointer (some ⟨b,0,none⟩)]] [] (λG=>G b 0=some (.slice p n c)/\Η RP G (.slice p n c) l)
   (λG L v=>∃ q m tk,L=[(7000,tk)]/\v=.slice q l.length m/\Γ RP 50 G v l tk):=by
  refine eO.enter (args:=[_]) (N:=5) func197 rfl rfl rfl (λw1 E y h=>?_)
  have A:w1.L.zero:=by rw[y];intro p hp;cases hp
  refine sr<|sg rfl rfl<|nx<|sr<|mv rfl rfl ?_
  refine WL.jX Zh rfl (YC.of Iz rfl) (ZwO b l p n c (by omega)) rfl h (Lo.Zw _) A (λv B H s a=>?_)
  obtain⟨q,m,tk,rfl,rfl,e⟩:=a
  refine sg rfl rfl<|nx<|WC.ret ?_
  exact WE.ö (S':=St w1 E B [(7000,tk)]) (λw u=>u.weaken (lc rfl ln)) (WE.jQ rfl rfl ⟨q,m,tk,rfl,rfl,e⟩)
 refine sr<|sg rfl rfl<|nx<|sr<|mv rfl rfl ?_
 refine WL.jX Zh rfl (YC.of Ih rfl) d rfl t (Lo.Zw _) D (λv B H s a=>?_)
 obtain⟨q,m,tk,rfl,rfl,e⟩:=a
 refine è ?_
 refine WL.ö (λw u=>u.Ý (i:=7000) (j:=5000) rfl (I _)) ?_
 refine WL.jX Zh rfl (YC.of Ii rfl) (Z1 _ _ _ _ _ _ k) rfl e (lc rfl ln) D (λv F P C a=>?_)
 obtain⟨x,rfl,rfl,f⟩:=a
 refine nx<|sr<|mv rfl rfl<|sg rfl rfl<|nx<|WC.ret ?_
 rw[<- g]at f
 refine WE.ö (S':=St w0 G0 F [(5000,x)]) (λw u=>u.weaken (lc rfl ln)) (WE.jQ rfl rfl ⟨q,m,x,rfl,?_,?_⟩)
 .rw[g]
 rw[<- g];exact f
theorem Ps(l:Ŀ (Ŀ Za))(p:ŀ Addr)(c:Nat)(r:Ŀ (Ŀ Za))(hr:(Ed l).Α r):Cr 60 #[.slice p l.length c] (λG=>Η RP G (.slice p l.length c) l) (λG v=>∃ q j,v=.slice q r.length j/\Η RP G (.slice q r.length j) r):=by
 obtain⟨⟨C,n⟩,hr⟩:=hr;replace hr:_=r:=hr;subst hr;have A:∀ {w0:Bs},w0.L=[]->w0.L.zero:=λh=>by rw[h];intro p hp;cases hp
 have D:(jy l).length=l.length:=(vo l).length_eq;have k:(jy l).all Ñ=true:=Ć.2 λx E=>Ć.1 n x ((vo l).mem_iff.1 E);refine iJ.enter (args:=[_]) (N:=9) func60 rfl rfl rfl (λw0 G0 d m=>?_);refine sr<|sg rfl rfl<|nx<|sr<|mv rfl rfl ?_
 refine WL.call Zh rfl (YC.of HT rfl) (ZwQ l p l.length c) rfl m (λv J s a=>?_);obtain⟨b,rfl,B,g⟩:=a;refine WL.jX Zh rfl (YC.of HS rfl) (ZpJ b l n C p l.length c) rfl ⟨B,g⟩ (Lo.Zw _) (A d) (λv K P t a=>?_);obtain⟨q,j,tk,rfl,rfl,f⟩:=a;refine sg rfl rfl ?_;refine è ?_;refine WL.jX Zh rfl (YC.of HV rfl) (Zvk (jy l) k (by omega) q j _ tk) rfl f (lc rfl ln) (A d) (λv L Q u a=>?_);obtain⟨H,R,F,rfl,rfl,e⟩:=a;refine sg rfl rfl<|nx<|WC.ret ?_
 refine WE.jH 5000 e rfl (by rw[d];rfl) (λI O y i _=>?_);exact WE.jQ rfl rfl ⟨_,_,rfl,i⟩
instance eG'{e r}:a ((Ai e)) r (∀ {c d},Cr 186 #[ε c e d] (λG=>su G c d e) (fS (Rp.int .u32) r)):=.mk λhr {c d}=>by
 refine Ξ ?_;intro _ _ i hr h;refine oA hr λf hr=>jN (r:=(Rp.int .u32)) 2004 z z F' vS z (by decide) z z (X' (Rp.int .u32) _) z (by rw[i];rfl) kV h f λp n l o k j m=>Ρ z<|m' ?_
 obtain rfl:_=r:=hr;exact j' z z ⟨_,_,z,j⟩
instance gr'{k r}:a ((JX k)) r (∀ {i l},Cr 188 #[ε i k l] (λG=>su G i l k) (λG v=>v=.int .u64 r)):=.mk λhr {i l}=>by refine Ξ ?_;intro q h _ hr _;refine WC.mA hr [0,6] [] [] [] (λ(⟨g,d⟩:Int×Int)=>⟨(g,d),[(3,.int .u64 g),(7,i' d)],tr,[]⟩) (λ(n:Int)=>⟨n,[(3,.int .u64 n)],tr,[]⟩) ⟨0,0⟩
instance gB'{c k r}:a ((O4 c k)) r (∀ {x A},Cr 253 #[ε x c A,.int .u64 k] (λG=>su G x A c) (λG v=>∃ u s,v=.tuple #[ε u r.1 s,.int .u64 r.2]/\su G u s r.1)):=.mk λhr {x A}=>by
 refine Ξ ?_;intro U q _ V D K W hr _;refine WC.mB hr [0,1,6] [] [6] [] (λ(⟨C,h,d,p⟩:(Ŀ Int)×ŀ Ow×Int×Int)=>⟨(C,d,p),[(7,.int .u64 d),(8,i' p)],λg=>Γ (Rp.int .u32) 248 g (.slice D (c.length:Int).toNat ((c.length:Int).toNat)) C h,[(4012,h)]⟩) (λ(⟨I,j,t⟩:(Ŀ Int)×ŀ Ow×Int)=>⟨(I,t),[(7,.int .u64 t)],λm=>Γ (Rp.int .u32) 248 m (.slice D (c.length:Int).toNat ((c.length:Int).toNat)) I j,[(4012,j)]⟩) ⟨(List.replicate (c.length:Int).toNat 0),K,0,i64.wrap ((c.length:Int)-1)⟩ ?_;rintro m ⟨I,j,t⟩ hr Z T;refine b'<|sr<|ν z<|pL (r:=(Rp.int .u32)) (e:=248) 4012 T z (by rw[V];rfl) (λF E l B f=>?_)
 refine oE hr λH M hr=>gR z z (x' qv z) (zr.h M) (by rw[qJ B]) ((rm B)) (λn L i o=>?_);obtain⟨af,y,rfl,J⟩:=o;refine ν z<|Þ z<|Ρ z<|m' ?_
 obtain rfl:_=r:=hr;exact um z z z ⟨_,_,z,J⟩
instance gg'{f g r}:a ((JF f g)) r (∀ {j h i k},Cr 189 #[ε j f h,ε i g k] (λG=>su G j h f/\su G i k g) (λG v=>∃ u t s x,v=.tuple #[ε u r.1 t,ε s r.2 x]/\su G u t r.1/\su G s x r.2)):=.mk λhr {j h i k}=>Ζ
instance ff'{a1 a r}:i ((w9 a1 a)) r (∀ {H D K I},Cr 103 #[.agg ((η a1 H D)).toArray,.agg ((η a K I)).toArray] (λG=>su G H D a1.χ/\su G K I a.χ) (Ï r)):=.mk λhr {H D K I}=>by
 refine J' (args:=[_,_]) (N:=53) func103 z z z (λw0 G0 bI aY=>?_);obtain⟨au,ar⟩:=aY;refine sr<|jM 2 z z z λb2=>jM 3 z z z λb3=>W' 4 z vK z λt=>nx<|o'<|fA [ff,ff,ff,ff,ff,ff] eL (by kernel_rfl) λhb=>cn (λ_ g=>aI' z)<|cn (λ_ g=>n' 2 bo' z z z)<|oE hr λU aM hr=>qB (post:=fS (Rp.int .u32) U) (λ_=>z) (λ_ _=>x' qv z) (zr.h aM) z (λG' g=>(au.mono g)) (λv G1 G2 g h=>?_) ?_
 .obtain⟨ax,ai,rfl,B⟩:=h;exact⟨_,_,z,B.mono g⟩
 refine oE hr λF aN hr=>mg (f:=186) (φ:=fS (Rp.int .u32) F) (λ_=>z) (λv G1 G2 g h=>?_) (λu G' g hu=>?_) ?_
 .obtain⟨Q,C,rfl,R⟩:=h;exact⟨_,_,z,R.mono g⟩
 .obtain⟨⟨ax,ai,aA,B⟩,_⟩:=(show(fS (Rp.int .u32) U) G'.m (u 13)/\True from hu);exact⟨_,_,_,λ_=>x' If z,eG'.h aN,(by simp only[aA] <;> rfl),B⟩
 refine Ξ ?_;intro _ _ Q C R _ _ _ _ _ _ az _ _ _ ba al aD aT aR aP hr _;refine WC.mC hr [4] [] [4] [] (λ(⟨P,J,E,o,q,p,k,e,c⟩:(Ŀ Int)×ŀ Addr×Nat×(Ŀ Int)×ŀ Addr×Nat×Zg×ŀ Addr×Nat)=>⟨(P,o,k),[(5,ε J P E),(6,ε q o p)],λl=>su l J E P/\su l q p o/\su l e c k.χ,[(4,ú t (η k e c) 118)]⟩) (λ(⟨d,O,W,V,m,n⟩:(Ŀ Int)×ŀ Addr×Nat×Zg×ŀ Addr×Nat)=>⟨(.inr (d,V)),[(5,ε O d W)],λL=>su L O W d/\su L m n V.χ,[(4,ú t (η V m n) 118)]⟩) ⟨F,Q,C,ba,aT,aR,(Zg.mk false []),none,0⟩ ?_;rintro _ l ⟨P,J,E,o,q,p,k,e,c⟩ T ⟨S,s,y⟩ hr;refine o' ?_;refine è ?_;intro hr;refine I' hr z (λbi hr=>?_) (λbi hr=>?_)
 .refine q'<|b'<|Y'<|o'<|WC.nB hr [4,5,6] [4] (λ(A:Bool)=>⟨[(29,.bool A)],JE P o k A,tr,[]⟩) ?_
  intro x A hr j _;refine Ξ ?_;intro _ bf _ a9 hr _;refine WC.mA hr [4] [4] [4] [4] (λ(⟨Y,Z⟩:Int×Int)=>⟨(Y,Z),[(7,.int .u64 Y),(8,.int .u64 Z)],tr,[]⟩) (λ(X:Int)=>⟨X,[(7,.int .u64 X)],tr,[]⟩) ⟨bf,a9⟩
 exact Ζ
instance gs'{g r}:a ((JW g)) r (∀ {e d},Cr 250 #[.agg ((η g e d)).toArray] (λG=>su G e d g.χ) (λG v=>v=.bool r)):=.mk λhr {e d}=>Ζ
instance ex'{g r}:a ((ZZ g)) r (∀ {f e d c},Cr 181 #[.agg ((Υ g f e d c)).toArray] (λG=>su G f e g.num.χ/\su G d c g.den.χ) (λG v=>v=.bool r)):=.mk λhr {f e d c}=>Ζ
instance gh'{i r}:a ((D4 i)) r (Cr 182 #[.agg (Ö i).toArray] (λG=>True) (λG v=>v=.bool r)):=.mk λhr=>by refine Ξ ?_;intro k f _ _ hr _;refine WC.mA hr [5] [] [] [] (λ(c:Int)=>⟨c,[(6,i' c)],tr,[]⟩) (λ(_:Unit)=>⟨(.inr ()),[],tr,[]⟩) 0
instance eL'{o r}:a ((Ae o)) r (∀ {q p},Cr 100 #[ε q o p] (λG=>sl c' G q p o) (λG v=>v=.bool r)):=.mk λhr {q p}=>by refine Ξ ?_;intro H y _ hr _;refine WC.mA hr [0,5,6] [] [] [] (λ(l:Int)=>⟨l,[(7,i' l)],tr,[]⟩) (λ(_:Unit)=>⟨(.inr ()),[],tr,[]⟩) 0
instance gP'{j r}:a ((Jp j)) r (Cr 183 #[.agg (Ö j).toArray] (λG=>True) (λG v=>v=.int .u8 r)):=.mk λhr=>by refine Ξ ?_;intro n g _ _ hr _;refine WC.mA hr [6] [] [] [] (λ(⟨f,c⟩:Int×Int)=>⟨(f,c),[(3,.int .u8 f),(7,i' c)],tr,[]⟩) (λ(k:Int)=>⟨k,[(3,.int .u8 k)],tr,[]⟩) ⟨0,0⟩
instance fc'{o r}:a ((Al o)) r (∀ {q p},Cr 101 #[ε q o p] (λG=>sl c' G q p o) (λG v=>v=.int .u8 r)):=.mk λhr {q p}=>by refine Ξ ?_;intro E n _ hr _;refine WC.mA hr [6,7] [] [] [] (λ(⟨m,l⟩:Int×Int)=>⟨(m,l),[(3,.int .u8 m),(8,i' l)],tr,[]⟩) (λ(A:Int)=>⟨A,[(3,.int .u8 A)],tr,[]⟩) ⟨0,0⟩
instance kr{i r}:a ((Jm i)) r (Cr 111 #[.agg (Ö i).toArray] (λG=>True) (λG v=>v=i' r)):=.mk λhr=>by refine Ξ ?_;intro l h _ _ hr _;refine WC.mA hr [6] [] [] [] (λ(⟨f,c⟩:Int×Int)=>⟨(f,c),[(3,i' f),(7,i' c)],tr,[]⟩) (λ(k:Int)=>⟨k,[(3,i' k)],tr,[]⟩) ⟨0,0⟩
instance du'{o r}:a ((wR o)) r (∀ {q p},Cr 59 #[ε q o p] (λG=>sl c' G q p o) (λG v=>v=i' r)):=.mk λhr {q p}=>by refine Ξ ?_;intro E n _ hr _;refine WC.mA hr [6,7] [] [] [] (λ(⟨m,l⟩:Int×Int)=>⟨(m,l),[(3,i' m),(8,i' l)],tr,[]⟩) (λ(B:Int)=>⟨B,[(3,i' B)],tr,[]⟩) ⟨(-1),0⟩
instance cN'{h p x r}:a ((é h p x)) r (∀ {g f d e k j},Cr 221 #[.agg ((Ã h.k g f d e)).toArray,ε k p j,i' x] (λG=>sq G g f h.k.eqs/\sq G d e h.k.δ/\sl c' G k j p) (λG v=>v=.bool r)):=.mk λhr {g f d e k j}=>Ζ
instance fi'{C B r}:a ((Ao C B)) r (∀ {d c f e},Cr 104 #[.agg ((η C d c)).toArray,.agg ((η B f e)).toArray] (λG=>su G d c C.χ/\su G f e B.χ) (λG v=>∃ k l j h,v=.tuple #[.agg ((η r.1 k l)).toArray,.agg ((η r.2.1 j h)).toArray,i' r.2.2]/\su G k l r.1.χ/\su G j h r.2.1.χ)):=.mk λhr {d c f e}=>Ζ
instance MZ{q p r}:a ((Am q p)) r (∀ {e c f d},Cr 194 #[.agg ((η q e c)).toArray,.agg ((η p f d)).toArray] (λG=>su G e c q.χ/\su G f d p.χ) (er r)):=.mk λhr {e c f d}=>Ζ
instance hR'{v t r}:a ((Ei v t)) r (∀ {h f j g},Cr 108 #[.agg ((η v h f)).toArray,.agg ((η t j g)).toArray] (λG=>su G h f v.χ/\su G j g t.χ) (ix r)):=.mk λhr {h f j g}=>Ζ
instance hS'{q k r}:a ((JR q k)) r (Cr 195 #[.agg (Ö q).toArray,.agg (Ö k).toArray] (λG=>True) (λG v=>v=.tuple #[.agg (Ö r.1).toArray,i' r.2])):=.mk λhr=>by refine Ξ ?_;intro A l _ m t n hr _;refine WC.mA hr [2,3,4] [3,4] [2,4] [4] (λ(⟨c,d⟩:Int×(Fin 8->Int))=>⟨(c,d),[(7,i' c)],tr,[(2,ú m (Ö d) 145)]⟩) (λ(e:(Fin 8->Int))=>⟨e,[],tr,[(2,ú m (Ö e) 145)]⟩) ⟨0,q⟩
instance fD'{K J r}:an ((Z7 K J)) r (∀ {t C x D s A y B},Cr 196 #[.agg ((Υ K t C x D)).toArray,.agg ((Υ J s A y B)).toArray] (λG=>su G t C K.num.χ/\su G x D K.den.χ/\su G s A J.num.χ/\su G y B J.den.χ) (er r)):=.mk λhr {t C x D s A y B}=>by
 refine J' (args:=[_,_]) (N:=30) func196 z z z (λw0 G0 aH aw=>?_);obtain⟨T,W,U,V⟩:=aw;refine sr<|jM 2 z z z λb2=>jM 3 z z z λb3=>W' 4 z rl z λb4=>nr<|Δ (xH z)<|Δ (R' ((η K.num t C)).toArray 2 mH z z z (mK ([]) ((η K.num t C)) ((η K.den x D))))<|Δ (Bw z)<|Δ (R' ((η J.den y B)).toArray 3 mH z z z (mK ((η J.num s A)) ((η J.den y B)) ([])))<|oE hr λq ar hr=>gR z z (x' wG z) (MZ.h ar) z (⟨T,V⟩) (λaE aJ aa ac=>?_)
 obtain⟨o,n,l,m,rfl,P,O⟩:=ac;refine W' 5 z rl z λb5=>gp 5 jW z<|nr<|Δ (xH z)<|Δ (R' ((η J.num s A)).toArray 3 mH z z z (mK ([]) ((η J.num s A)) ((η J.den y B))))<|Δ (Bw z)<|Δ (R' ((η K.den x D)).toArray 2 mH z z z (mK ((η K.num t C)) ((η K.den x D)) ([])))<|oE hr λp au hr=>gR z z (x' wG z) (MZ.h au) z (⟨(U.mono aa),(W.mono aa)⟩) (λaD aG Z ah=>?_)
 obtain⟨c,j,g,k,rfl,R,Q⟩:=ah;refine W' 6 z rl z λb6=>gp 6 jW z<|nx<|o'<|fA [ff,ff,ff,ff,ff,ff,ff,ff,ff,ff,ff] eL (by kernel_rfl) λhb=>cn (λ_ E=>xH z)<|cn (λ_ E=>R' ((η q.num o n)).toArray 5 mH z z z (mK ([]) ((η q.num o n)) ((η q.den l m))))<|cn (λ_ E=>xH z) ?_
 refine è ?_;intro hr;refine tI (r:=nF) (e:=118) ([q.num,p.num]:Ŀ Zg) (λ_=>z) z (by decide) (λu G' E hu=>?_) ?_
 .exact⟨#[(0,.agg ((η q.num o n)).toArray),(1,.agg ((η p.num c j)).toArray)],(η q.num o n)++((η p.num c j)++([])),z,z,λ_=>by kernel_rfl,⟨(η q.num o n),(η p.num c j)++([]),z,⟨[.bool q.num.neg],[ε o q.num.χ n],z,z,⟨_,z,((P.mono Z).mono E)⟩⟩,⟨(η p.num c j),[],z,⟨[.bool p.num.neg],[ε c p.num.χ j],z,z,⟨_,z,(R.mono E)⟩⟩,z⟩⟩⟩
 refine oE hr λS ap hr=>mg (f:=229) (φ:=Ï S) (λ_=>z) (λv G1 G2 E h=>?_) (λu G' E hu=>?_) ?_
 .obtain⟨H,I,rfl,F⟩:=h;exact⟨_,_,z,F.mono E⟩
 .obtain⟨⟨Y,X,aj,al⟩,_⟩:=(show(λG v=>∃ Y X,v=.slice Y 2 2/\jo nF G (.slice Y 2 2) X [q.num,p.num]) G'.m (u 21)/\True from hu);exact⟨_,_,_,λ_=>x' ov z,xK.h ap,(by simp only[aj] <;> rfl),al⟩
 refine Ξ ?_;intro hr;refine tI (r:=nF) (e:=118) ([q.den,p.den]:Ŀ Zg) (λ_=>z) z (by decide) (λu G' E hu=>?_) ?_
 .exact⟨#[(0,.agg ((η q.den l m)).toArray),(1,.agg ((η p.den g k)).toArray)],(η q.den l m)++((η p.den g k)++([])),z,z,λ_=>by kernel_rfl,⟨(η q.den l m),(η p.den g k)++([]),z,⟨[.bool q.den.neg],[ε l q.den.χ m],z,z,⟨_,z,((O.mono Z).mono E)⟩⟩,⟨(η p.den g k),[],z,⟨[.bool p.den.neg],[ε g p.den.χ k],z,z,⟨_,z,(Q.mono E)⟩⟩,z⟩⟩⟩
 refine zC (d:=27) (post:=λG v=>∃ p2 am,v=.slice p2 2 2/\jo nF G (.slice p2 2 2) am [q.den,p.den]) (d':=22) (post':=Ï S) (d'':=21) (post'':=λG v=>∃ Y X,v=.slice Y 2 2/\jo nF G (.slice Y 2 2) X [q.num,p.num]) (λaA aC aB aI ay ae ad ag=>?_);obtain⟨p2,am,rfl,ax⟩:=ae;obtain⟨H,I,rfl,F⟩:=ad;obtain⟨Y,X,rfl,al⟩:=ag;refine oE hr λa aq hr=>gR z z (x' ov z) (xK.h aq) z (ax) (λaz aF ak ab=>?_);obtain⟨L,M,rfl,af⟩:=ab;refine Δ (l4 (vs:=#[(0,.agg ((η S H I)).toArray),(1,.agg ((η a L M)).toArray)]) (v:=.agg ([.bool S.neg,ε H S.χ I,.bool a.neg,ε L a.χ M]).toArray) z z (λ_=>by kernel_rfl))<|gp 4 jW z<|t'<|Θ<|b'<|m' ?_
 obtain rfl:_=r:=hr;exact j' z (kD (i:=4) mf z z z) ⟨_,_,_,_,z,(F.mono ak),af⟩
instance gQ'{a k p1 r}:l ((Jq a k p1)) r (∀ {A C y D d f},Cr 109 #[.agg ((Υ a A C y D)).toArray,.agg (Ö k).toArray,ε d p1 f] (λG=>su G A C a.num.χ/\su G y D a.den.χ/\sl c' G d f p1) (iy c' r)):=.mk λhr {A C y D d f}=>by
 refine Ξ ?_;intro w0 G0 ac Z _ _ _ _ s t _ _ hr _;refine oA hr λx hr=>WL.wc (r:=c') (e:=147) (n:=(p1.length:Int)) 4018 z z Q' kX z (by decide) z z x λp2 O aY L=>pL (r:=c') (e:=147) 4018 L z (by rw[Z];rfl) λv g I ay ao=>Ρ z<|o'<|sr<|ν z<|Δ (P' Q' (ac.mono I) z)<|ν z<|nx<|nv (X:=(Ŀ Za)×ŀ Addr×Nat×ŀ Ow×Int×Mem) hr (λ⟨M,S,R,P,Q,T⟩=>⟨(M,Q),[(3,iG s),(4,iG t),(8,ε S M R),(19,ε d p1 f),(20,i' (p1.length:Int)),(21,i' Q)],Mem.le g T/\sl c' T S R M/\Tok 12 147 (ε S M R) M.length P,St w0 G0 T [(3,ú s (Υ a A C y D) 120),(4,ú t (Ö k) 145),(1008,P)]⟩) (λ(⟨U,Y,W,V,c⟩:(Ŀ Za)×ŀ Addr×Nat×ŀ Ow×Mem)=>⟨(.inr U),[(8,ε Y U W)],Mem.le g c/\sl c' c Y W U/\Tok 12 147 (ε Y U W) U.length V,St w0 G0 c [(1008,V)]⟩) ⟨([]:Ŀ Za),p2,O,v,0,g⟩ z (Æ z) ⟨mr,ay,ao⟩ ?_ ?_ ?_
 .intro w h;have h:=h.Ý (i:=4018) (j:=1008) z (by rw[Z];rfl);exact h.weaken (lc z (lc z (lc z ln)))
 .rintro _ ⟨M,S,R,P,Q,T⟩ ⟨F,aj,aa⟩ hr;refine sr<|kv z<|nx<|o'<|I' hr z (λJ hr=>?_) (λJ hr=>?_)
  .refine è ?_;intro _ _ _ _ _ _ _ _ _ _ _ _ _ _ _ _ H _ hr _;refine o'<|sr<|ν z<|Δ (qD z z)<|nx<|I' hr z (λN hr=>?_) (λN hr=>?_)
   .exact Ζ
   refine q'<|b'<|fA [tt,ff,ff,ff,ff,ff] eL (by kernel_rfl) λhb=>uw z (k' z) ?_
   refine è ?_;intro q _ p _ _ _ _ _ _ _ _ m K hr _;refine oA hr λar hr=>jN (r:=c') 1008 z z Q' kX z (by decide) z z (aj.mono (mx p m)) z (by rw[Z];rfl) aa K ar λp4 E u aP an B aq=>Þ z<|t'<|Θ<|E'<|b'<|w'<|iM z<|ν z<|t'<|N' ⟨(M++[(Za.mk q H.1)]),p4,E,u,i64.wrap (Q+1),aP⟩ hr ⟨(mx (mx (mx F p) m) an),B,aq⟩ (Æ z) (w3 z z z)
  exact Ζ
 rintro⟨U,Y,W,V,c⟩ ⟨hr,aU,aA,aT⟩;exact Ζ
instance fg'{t r}:a ((yA t)) r (∀ {f e},Cr 107 #[.agg ((η t f e)).toArray] (λG=>su G f e t.χ) (Ï r)):=.mk λhr {f e}=>Ζ
instance fV'{k r}:d ((As k)) r (∀ {p B},Cr 56 #[ε p k B] (λG=>sl c' G p B k) (fS c' r)):=.mk λhr {p B}=>by refine Ξ ?_;intro w0 G0 _ _ _ x _ _ _ h u C v A i g j D e f hr _;refine WC.mA hr [0,3,4,20,21] [] [0,3,4] [] (λ(⟨K,a,q,t,Z,y,l⟩:Int×Zg×ŀ Addr×Nat×Zg×ŀ Addr×Nat)=>⟨(K,a,Z),[(22,i' K)],λL=>su L q t a.χ/\su L y l Z.χ,[(3,ú e (η a q t) 118),(4,ú f (η Z y l) 118)]⟩) (λ(⟨R,m,n,c,s,o⟩:Zg×ŀ Addr×Nat×Zg×ŀ Addr×Nat)=>⟨(R,c),[],λO=>su O m n R.χ/\su O s o c.χ,[(3,ú e (η R m n) 118),(4,ú f (η c s o) 118)]⟩) ⟨0,x,h,u,v,g,j⟩
instance dU'{l u j r}:a ((ÿ l u j)) r (∀ {h g d e s q},Cr 210 #[.agg ((Ã l.k h g d e)).toArray,ε s u q,i' j] (λG=>sq G h g l.k.eqs/\sq G d e l.k.δ/\sq G s q u) (λG v=>v=.bool r)):=.mk λhr {h g d e s q}=>by refine Ξ ?_;intro S x _ _ _ _ _ L _ hr k;refine WC.mA hr [1,2,3,12,13] [3] [] [] (λ(i:Int)=>⟨i,[(14,i' i)],tr,[]⟩) (λ(_:Unit)=>⟨(.inr ()),[],tr,[]⟩) 0
instance ec'{i r}:a ((Â i)) r (∀ {h g e f},Cr 125 #[.agg ((Ã i.k h g e f)).toArray] (λG=>sq G h g i.k.eqs/\sq G e f i.k.δ) (λG v=>v=.bool r)):=.mk λhr {h g e f}=>Ζ
theorem PR(g:Zb)(e:ŀ Addr)(f:Nat)(d:ŀ Addr)(c:Nat)(r:Bool)(hr:(vh g).Α r):Cr 67 #[.agg ((Ã g e f d c)).toArray] (λG=>sq G e f g.eqs/\sq G d c g.δ) (λG v=>v=.bool r):=by refine Ξ ?_;intro _ _ _ _ _ _ _ _;refine Δ (l4 (vs:=#[(0,.agg ((Ã g e f d c)).toArray)]) (v:=.agg ((Ã g e f d c)).toArray) z z (λ_=>by kernel_rfl)) ?_;exact Ζ
instance {g:Zb}{r:Bool}:h ((vh g)) r (∀ {e:ŀ Addr}{f:Nat}{d:ŀ Addr}{c:Nat},Cr 67 #[.agg ((Ã g e f d c)).toArray] (λG=>sq G e f g.eqs/\sq G d c g.δ) (λG v=>v=.bool r)):=⟨λa {e f d c}=>PR _ e f d c _ a⟩
def gY(a:Nat)(s:ŀ Addr×Nat×ŀ Ow)(n:Nat):Lo:=[(6000,some ⟨a,.cells #[.slice s.1 n s.2.1] 212 (0,0),0⟩),(5000,s.2.2)]
abbrev qX(G:Mem)(s:ŀ Addr×Nat×ŀ Ow)(xs:Ŀ Int):Prop:=ru G (.slice s.1 xs.length s.2.1) xs s.2.2
def ox(f:Nat)(args:Nat->Ŀ Value)(pre:Mem->Prop)(a:Ŀ Int):Prop:=∀ (c:Nat) (xs:Ŀ Int) (s:ŀ Addr×Nat×ŀ Ow),(xs++a).length<=1000000->
 Cl f (Value.pointer (some ⟨c,0,none⟩)::args c).toArray (gY c s xs.length) (λG=>qX G s xs/\pre G) (λG L v=>v=.tuple #[]/\∃ s',L=gY c s' (xs++a).length/\qX G s' (xs++a))
section
variable {N:Nat}{Q:î}{fr:Fr}{ops:Array Oper}{l:Ŀ Oper}{dst:ŀ Nat}{ty:TypeId}{pos:String}{af:Array Edge}{g:ŀ (Nat×Bool)}{w0:Bs}{G0 G:Mem}
theorem qy{d:Nat}{s:ŀ Addr×Nat×ŀ Ow}{n:Nat}{xs:Ŀ Int}(h:qX G s xs):(gY d s n).zero:=by
 intro q a x c;simp only[gY,Ď,ĝ,ţ]at a;rcases a with rfl|rfl
 .cases c;rfl
 exact h.zero c
theorem ZV{op:Op}{f:Nat}{args:Nat->Ŀ Value}{pre:Mem->Prop}{a xs:Ŀ Int}{j:Nat}{s:ŀ Addr×Nat×ŀ Ow}(R:Lo)(r:ox f args pre a)(y:ξ ops fr ⟨dst,op,ty,pos,af,g⟩ true)(u:Ω N dst)
  (t:YC prog N ⟨dst,op,ty,pos,af,g⟩ fr (St w0 G0 G (gY j s xs.length++R)) f (Value.pointer (some ⟨j,0,none⟩)::args j).toArray) (n:(xs++a).length<=1000000) (p:qX G s xs) (hp:pre G) (B:w0.L.zero)
  (k:∀ s' G',Mem.le G G'->qX G' s' (xs++a)->WL prog N ops Q l (θ dst (.tuple #[]) fr) (St w0 G0 G' (gY j s' (xs++a).length++R))):WL prog N ops Q (⟨dst,op,ty,pos,af,g⟩::l) fr (St w0 G0 G (gY j s xs.length++R)):=by
 refine WL.jX y u t (r j xs s n) rfl ⟨p,hp⟩ (lc rfl (lc rfl ln)) B (λv G' L' q c=>?_)
 obtain⟨rfl,s',rfl,d⟩:=c
 refine WL.ö (λw A=>A.weaken (λi x h=>?_)) (k s' G' q d)
 simp only[gY,Lo.gn,Ġ,ő,ĸ,ļ,Lo.Zp]at h ⊢
 split at h
 .rename_i e;rw[ą e];exact h
 rename_i e
 rw[ā e]
 split at h
 .rename_i m;rw[ą m];exact h
 rename_i m;rw[ā m,ā e,ā m,ā e,ā m];exact h
end
theorem pd(n:Int):0<=u64.wrap n/\u64.wrap n<18446744073709551616:=by rw[abu];omega
theorem wZ(i:Int)(E:0<=i/\i<18446744073709551616):ox 240 (λ_=>[.int .u64 i]) (λ_=>True) (fw i):=by
 intro D xs J m;refine Ξ ?_;intro w0 G0 _ l h _;refine WC.block ?_;refine WC.gX (X:=Nat×Ŀ Int×Int×(ŀ Addr×Nat×ŀ Ow)×Mem) (λd=>match d with|⟨_,_,n,_,_⟩=>[(0,.pointer (some ⟨D,0,none⟩)),(1,.int .u64 n)])
  (λd=>match d with|⟨f,ys,n,s,G⟩=>0<=n/\n<128*128 ^ f/\n<18446744073709551616/\ys++iF f n=xs++fw i/\qX G s ys)
  (λd=>match d with|⟨_,ys,_,s,G⟩=>St w0 G0 G (gY D s ys.length)) (λd=>d.1) ⟨10,xs,i,J,G0⟩ (fc rfl (fc rfl fn)) ⟨E.1,by omega,E.2,rfl,h⟩ (λw q=>q) ?_
 rintro⟨f,ys,n,s,G⟩ ⟨F,h2,H,h3,y⟩;dsimp only at F h2 h3 y H ⊢;refine WC.seq<|sr ?_
 refine è ?_;have c:(ys++iF f n).length<=1000000:=by rw[h3];exact m
 refine WC.eC (p:=(128:Int)<=n) rfl (λB=>?_) (λB=>?_)
 .obtain⟨f,rfl⟩:∃ j,f=j+1:=by
   cases f with
   | zero=>have:(128:Int)*128 ^ 0=128:=rfl;omega
   | succ j=>exact⟨j,rfl⟩
  have g:iF (f+1) n=u8.wrap (u8.wrap (Int.tmod n 128)+128)::iF f (u64.wrap (Int.tdiv n 128)):=by show(if(128:Int)<=n then _ else _)=_;rw[ą B]
  rw[g]at h3 c;refine WC.skip<|WE.then<|WC.block<|sr<|mv rfl rfl<|mv rfl rfl<|yy (Y0.nilCheck rfl) rfl<|yy (Y0.y6 rfl) rfl<|yy (Y0.Ò 6000 sN rfl rfl rfl) rfl<|mv rfl rfl<|yy (Y0.rem rfl rfl (by decide)) rfl<|yy (Y0.conv underlying250 underlying5 rfl) rfl<|yy (Y0.add rfl rfl) rfl ?_
  refine WL.qP (e:=5) (r:=Rp.int .u8) (vs:=#[(0,.int .u8 (u8.wrap (u8.wrap (Int.tmod n 128)+128)))]) (cs:=[.int .u8 (u8.wrap (u8.wrap (Int.tmod n 128)+128))]) ([u8.wrap (u8.wrap (Int.tmod n 128)+128)]:Ŀ Int) Zh rfl rfl rfl rfl (by decide) (λ_=>by kernel_rfl) ⟨[_],[],rfl,rfl,rfl⟩ (key:=999) rfl (by rw[l];rfl) (λp1 u a C=>?_);refine WL.iP (r:=Rp.int .u8) (e:=5) 5000 Zh rfl underlying32 GH rfl (by decide) rfl rfl (y.mono a) rfl C (by simp only[Ā,Ě,Ļ]at c ⊢;show _<=small;simp only[small];omega) (λp2 v k t=>?_);refine Ξ ?_;have I:u64.wrap (Int.tdiv n 128)=n / 128:=by rw[abb F,abu];omega
  have hp:(128:Int)*128 ^ (f+1)=128*(128*128 ^ f):=by rw[Int.pow_succ];omega
  have A:0<=u64.wrap (Int.tdiv n 128)/\u64.wrap (Int.tdiv n 128)<128*128 ^ f/\u64.wrap (Int.tdiv n 128)<18446744073709551616:=by rw[I];omega
  refine WE.gH (x:=(f+1,ys,n,s,G)) (f,ys++[u8.wrap (u8.wrap (Int.tmod n 128)+128)],u64.wrap (Int.tdiv n 128),(p2,v,k),u) ⟨A.1,A.2.1,A.2.2,by show(_++[_])++_=_;rw[Đ];exact h3,t⟩ (fc rfl (fc rfl fn)) (λw q=>q.weaken (lc rfl (lc rfl ln))) (Ũ f)
 have g:iF f n=[u8.wrap n]:=by cases f with|zero=>rfl|succ f=>show(if(128:Int)<=n then _ else _)=_;rw[ā B]
 rw[g]at h3 c;refine WC.exit<|WE.å<|WE.å<|WE.Í<|WE.then<|WC.region<|mv rfl rfl<|mv rfl rfl<|yy (Y0.nilCheck rfl) rfl<|yy (Y0.y6 rfl) rfl<|yy (Y0.Ò 6000 sN rfl rfl rfl) rfl<|mv rfl rfl<|yy (Y0.conv underlying250 underlying5 rfl) rfl ?_
 refine WL.qP (e:=5) (r:=Rp.int .u8) (vs:=#[(0,.int .u8 (u8.wrap n))]) (cs:=[.int .u8 (u8.wrap n)]) ([u8.wrap n]:Ŀ Int) Zh rfl rfl rfl rfl (by decide) (λ_=>by kernel_rfl) ⟨[_],[],rfl,rfl,rfl⟩ (key:=999) rfl (by rw[l];rfl) (λp1 u a C=>?_);refine WL.iP (r:=Rp.int .u8) (e:=5) 5000 Zh rfl underlying32 GH rfl (by decide) rfl rfl (y.mono a) rfl C (by simp only[Ā,Ě,Ļ]at c ⊢;show _<=small;simp only[small];omega) (λp2 v k t=>?_);refine Ξ ?_;rw[h3]at t ⊢;exact WE.ö (S':=St w0 G0 u (gY D (p2,v,k) (xs++fw i).length)) (λw q=>q.weaken (lc rfl (lc rfl ln))) (WE.iH rfl ⟨rfl,_,rfl,t⟩)
theorem S5(n:Int)(h:0<=n):ox 168 (λ_=>[.int .i64 n]) (λ_=>True) (lq n):=by
 intro j xs s d;refine Ξ ?_;intro w0 G0 _ e a _;refine WC.eC (p:=(0:Int)<=n) rfl (λf=>?_) (λf=>absurd h f);refine Ξ ?_;refine WL.ö (S':=St w0 G0 G0 (gY j s xs.length++[])) (λw i=>i) ?_;refine ZV [] (wZ _ (pd _)) Zh rfl (YC.of ow rfl) d a trivial (by rw[e];exact qy a) (λs' G' g c=>?_);exact WL.nil<|WE.iX<|WE.iH rfl ⟨rfl,s',rfl,c⟩
theorem Y0.kN{N:Nat}{fr:Fr}{w0:Bs}{G0 G:Mem}{L:Lo}{dst:ŀ Nat}{ty:TypeId}{pos:String}{af:Array Edge}{g:ŀ (Nat×Bool)}{α:Type}{r:Rp α}{t:TypeId}{x:Operand}{b off:Nat}{cs:Ŀ Value}{a:α}(c:fq prog t r.size)(e:fr.ev x=some (.pointer (some ⟨b,off,none⟩)))
  (hr:r.fh G cs a) (d:∀ j u,cs[j]? = some u->G b (off+j)=some u):Y0 prog N ⟨dst,.load t x,ty,pos,af,g⟩ fr (St w0 G0 G L) (.agg cs.toArray):=
 Y0.jw cs.toArray c e (by rw[Ĭ];exact r.len hr) (λj v h=>d j v (by rw[ġ]at h;exact h))
theorem Gf{a n:Nat}{s:ŀ Addr×Nat×ŀ Ow}{x y:ŀ Ow}:Lo.sub (gY a s n++[]) ((3,x)::(3,y)::gY a s n):=
 show Lo.sub [(6000,some ⟨a,.cells #[.slice s.1 n s.2.1] 212 (0,0),0⟩),(5000,s.2.2)] _ from lc rfl (lc rfl ln)
theorem Sa(a:Zg)(cs:Ŀ Value):ox 324 (λ_=>[.agg cs.toArray]) (λG=>rO.fh G cs a) (lj a):=by
 intro v xs s f;refine eO.enter (args:=[_,_]) (N:=47) func324 rfl rfl rfl (λw0 G0 t C=>?_);obtain⟨n,D⟩:=C;have hz:w0.L.zero:=by rw[t];exact qy n
 refine sr<|WL.box 3 Zh rfl rfl (λR=>nx ?_)
 refine WC.gx 3 rfl (by rw[t];rfl) (λI i J _=>?_);have y:At rO I R 0 a:=At.box J rfl (rO.mono i D);obtain⟨mp,mc,T,E⟩:=Kj y;refine WC.ö (S':=St w0 G0 I (gY v s xs.length++[])) (λw h=>h.weaken Gf) ?_;refine sr<|yy (Y0.F8 rfl) rfl<|yy (Y0.hP qh rfl (T 1 _ rfl)) rfl ?_
 refine è ?_;refine WC.uV (X:=Unit) (λ_=>[(0,.pointer (some ⟨v,0,none⟩)),(3,.pointer (some ⟨R,0,none⟩)),(4,.int .u64 (if a.neg=true then u64.wrap (u64.wrap (2*u64.wrap (a.χ.length:Int))+1)else u64.wrap (2*u64.wrap (a.χ.length:Int))))]) (λ_=>True) (λ_=>St w0 G0 I (gY v s xs.length++[])) ?_ (λ_ _=>?_)
 .refine Ξ ?_;refine WC.cond (b:=a.neg) rfl (λA=>?_) (λA=>?_)
  .refine Ξ ?_;refine WE.oQ () trivial (fc rfl (fc rfl (fc (by rw[A];rfl) fn))) (λw h=>h)
  refine WC.skip<|WE.oQ () trivial (fc rfl (fc rfl (fc (by rw[A];rfl) fn))) (λw h=>h)
 have L:∀ c:Bool,0<=(if c=true then u64.wrap (u64.wrap (2*u64.wrap (a.χ.length:Int))+1)else u64.wrap (2*u64.wrap (a.χ.length:Int)))/\(if c=true then u64.wrap (u64.wrap (2*u64.wrap (a.χ.length:Int))+1)else u64.wrap (2*u64.wrap (a.χ.length:Int)))<18446744073709551616:=λc=>by split <;> exact pd _
 unfold lj at f ⊢;generalize hH:fw (if a.neg=true then u64.wrap (u64.wrap (2*u64.wrap (a.χ.length:Int))+1)else u64.wrap (2*u64.wrap (a.χ.length:Int)))=H at f ⊢;have F:∀ l:Ŀ Int,(l.flatMap fE).length=4*l.length:=λl=>by
  induction l with
  | nil=>rfl
  | cons d l ih=>rw[Ř,Ā,ih];show 4+_=_;rw[Ě];omega
 rw[Ā,Ā,F]at f;refine sr<|mv rfl rfl<|mv rfl rfl ?_
 refine ZV [] (wZ _ (L a.neg)) Zh rfl (YC.of ow rfl) (by rw[hH,Ā];omega) (n.mono i) trivial hz (λY Z j g=>?_);rw[hH]at g ⊢;refine nx<|sr<|yy (Y0.F8 rfl) rfl<|yy (Y0.hP qh rfl (j _ _ _ (T 1 _ rfl))) rfl<|yy (Y0.mo underlying116 rfl) rfl<|mv rfl rfl<|nx<|WC.block ?_
 refine WC.gX (X:=Nat×(ŀ Addr×Nat×ŀ Ow)×Mem) (λq=>match q with|⟨k,_,_⟩=>[(0,.pointer (some ⟨v,0,none⟩)),(20,.slice mp a.χ.length mc),(21,.int .i64 (a.χ.length:Int)),(22,.int .i64 (k:Int))])
  (λq=>match q with|⟨k,s',G⟩=>k<=a.χ.length/\Mem.le I G/\qX G s' (xs++H++(a.χ.take k).flatMap fE))
  (λq=>match q with|⟨k,s',G⟩=>St w0 G0 G (gY v s' (xs++H++(a.χ.take k).flatMap fE).length)) (λq=>a.χ.length-q.1) ⟨0,Y,Z⟩ (fc rfl (fc rfl (fc rfl (fc rfl fn)))) ⟨Ĝ _,j,by rw[ř,ű,ę];exact g⟩ (λw h=>by show St _ _ _ (gY v Y (xs++H++(a.χ.take 0).flatMap fE).length) _;rw[ř,ű,ę];exact h) ?_
 rintro⟨k,s',G⟩ ⟨U,u,hr⟩;refine è ?_;intro hr;refine WC.eC (p:=(k:Int)<(a.χ.length:Int)) rfl (λA=>?_) (λA=>?_)
 .have B:k<a.χ.length:=by omega
  have V:(0:Int)<=(k:Int)/\a.χ[(k:Int).toNat]? = some a.χ[k]:=⟨by omega,by simp[B]⟩;have hw:i64.wrap ((k:Int)+1)=((k+1:Nat):Int):=by rw[ĩ];omega
  have P:(a.χ.take (k+1)).flatMap fE=(a.χ.take k).flatMap fE++fE a.χ[k]:=by rw[ċ B,dw];simp
  have O:(xs++H++(a.χ.take k).flatMap fE++fE a.χ[k]).length<=small:=by simp only[Ā,F,č];show _+_+_+4<=small;simp only[small];omega
  refine WC.skip<|WE.then<|WC.seq<|WC.block<|sr<|yy (Y0.lN underlying116 s7 (E.mono u) rfl rfl V) rfl<|yy (Y0.hP sM rfl (AtK.int (At.mono (Η.at E V) u))) rfl<|sg rfl rfl<|nx<|WC.region<|mv rfl rfl<|mv rfl rfl<|yy (Y0.nilCheck rfl) rfl<|yy (Y0.y6 rfl) rfl<|yy (Y0.Ò 6000 sN rfl rfl rfl) rfl ?_
  refine mv rfl rfl<|yy (Y0.shr rfl rfl (by decide)) rfl<|yy (Y0.conv underlying248 underlying5 rfl) rfl<|mv rfl rfl<|yy (Y0.shr rfl rfl (by decide)) rfl<|yy (Y0.conv underlying248 underlying5 rfl) rfl<|mv rfl rfl<|yy (Y0.shr rfl rfl (by decide)) rfl<|yy (Y0.conv underlying248 underlying5 rfl) rfl<|mv rfl rfl<|yy (Y0.conv underlying248 underlying5 rfl) rfl ?_
  refine WL.qP (e:=5) (r:=Rp.int .u8) (vs:=#[(0,.int .u8 (u8.wrap (Int.fdiv a.χ[k] (2 ^ (min (24:Int).toNat u32.bits))))),(1,.int .u8 (u8.wrap (Int.fdiv a.χ[k] (2 ^ (min (16:Int).toNat u32.bits))))),(2,.int .u8 (u8.wrap (Int.fdiv a.χ[k] (2 ^ (min (8:Int).toNat u32.bits))))),(3,.int .u8 (u8.wrap a.χ[k]))]) (cs:=(fE a.χ[k]).map (Value.int .u8)) (fE a.χ[k]) Zh rfl rfl rfl rfl (by decide) (λ_=>by kernel_rfl) (ý.CO _) (key:=999) rfl (by rw[t];rfl) (λp1 G3 m q1=>?_);refine WL.iP (r:=Rp.int .u8) (e:=5) 5000 Zh rfl underlying32 GH rfl (by decide) rfl rfl (hr.mono m) rfl q1 O (λp2 S Q W=>?_);refine yy (Y0.nilCheck rfl) rfl<|yy (Y0.y6 rfl) rfl<|WL.fL 6000 #[.slice p2 (xs++H++(a.χ.take k).flatMap fE++fE a.χ[k]).length S] Zh Dl rfl rfl rfl aaS rfl rfl ?_
  refine WL.nil<|WE.inBlock<|WE.then<|WC.region<|yy (Y0.add rfl rfl) rfl ?_
  rw[hw];rw[Đ (xs++H),<- P]at W ⊢;exact mv rfl rfl<|WL.nil<|WE.gH (x:=(k,s',G)) (k+1,(p2,S,Q),G3) ⟨by omega,Mem.le_trans u m,W⟩ (fc rfl (fc rfl (fc rfl (fc rfl fn)))) (λw h=>h.weaken (lc rfl (lc rfl ln))) (by show a.χ.length-(k+1)<a.χ.length-k;omega)
 have K:k=a.χ.length:=by omega
 subst K;rw[Ĥ,Đ]at hr ⊢;refine WC.exit<|WE.å<|WE.å<|WE.Í<|WE.iX ?_
 exact WE.iH rfl ⟨rfl,s',rfl,hr⟩
theorem ZtK(a:Zf)(cs:Ŀ Value):ox 294 (λ_=>[.agg cs.toArray]) (λG=>tp.fh G cs a) (mu a):=by
 intro F xs s g;refine eO.enter (args:=[_,_]) (N:=12) func294 rfl rfl rfl (λw0 G0 l m=>?_);obtain⟨i,n⟩:=m;have t:w0.L.zero:=by rw[l];exact qy i
 unfold mu at g ⊢;rw[Ā,Ā]at g;refine sr<|WL.box 3 Zh rfl rfl (λy=>nx ?_)
 refine WC.gx 3 rfl (by rw[l];rfl) (λq f p _=>?_);have e:At tp q y 0 a:=At.box p rfl (tp.mono f n);obtain⟨A,v,D⟩:=AtK.fst (AtK.via e);obtain⟨B,x,k2⟩:=AtK.snd (AtK.via e);refine WC.ö (S':=St w0 G0 q (gY F s xs.length++[])) (λw C=>C.weaken Gf) ?_;refine è ?_;refine yy (Y0.kN py rfl v D) rfl ?_;refine ZV [] (Sa a.num A) Zh rfl (YC.of z1 rfl) (by rw[Ā];omega) (i.mono f) v t (λJ H c k=>?_);refine è ?_;refine yy (Y0.kN py rfl (rO.mono c x) (λj u h=>c _ _ _ (k2 j u h))) rfl ?_;refine ZV [] (Sa a.den B) Zh rfl (YC.of z1 rfl) (by rw[Ā,Ā];omega) k (rO.mono c x) t (λE I r d=>?_);rw[Đ]at d ⊢;exact WL.nil<|WE.iX<|WE.iH rfl ⟨rfl,E,rfl,d⟩
theorem Y6(t:Za)(cs:Ŀ Value):ox 242 (λ_=>[.agg cs.toArray]) (λG=>Zk.fh G cs t) (fU t):=by
 intro A xs s a;refine eO.enter (args:=[_,_]) (N:=20) func242 rfl rfl rfl (λw0 G0 m r=>?_);obtain⟨g,y⟩:=r;have F:w0.L.zero:=by rw[m];exact qy g
 unfold fU at a ⊢;generalize hH:mu t.c=H at a ⊢;rw[Ā,Ā]at a;refine sr<|WL.box 3 Zh rfl rfl (λO=>nx ?_)
 refine WC.gx 3 rfl (by rw[m];rfl) (λD f B _=>?_);have d:At Zk D O 0 t:=At.box B rfl (Zk.mono f y);obtain⟨P,I,W⟩:=AtK.fst (AtK.via d);have S:=AtK.vec (AtK.snd (AtK.via d));refine WC.ö (S':=St w0 G0 D (gY A s xs.length++[])) (λw l=>l.weaken Gf) ?_;refine sr<|mv rfl rfl<|yy (Y0.L8 rfl) rfl<|yy (Y0.kN rP rfl I W) rfl ?_
 refine ZV [] (ZtK t.c P) Zh rfl (YC.of IL rfl) (by rw[hH,Ā];omega) (g.mono f) I F (λJ K n c=>?_);rw[hH]at c ⊢;refine nx ?_;refine è ?_;refine yy (Y0.jw _ rQ rfl (Zy _ _ _) (λj v h=>n _ _ _ (S j v h))) rfl<|mv rfl rfl<|nx<|WC.block ?_
 refine WC.gX (X:=Nat×(ŀ Addr×Nat×ŀ Ow)×Mem) (λi=>match i with|⟨k,_,_⟩=>[(0,.pointer (some ⟨A,0,none⟩)),(11,.agg (õ (Value.int .i64) 8 t.m).toArray),(12,.int .i64 (k:Int))])
  (λi=>match i with|⟨k,s',G⟩=>k<=8/\qX G s' (xs++H++iE t.m k))
  (λi=>match i with|⟨k,s',G⟩=>St w0 G0 G (gY A s' (xs++H++iE t.m k).length)) (λi=>8-i.1) ⟨0,J,K⟩ (fc rfl (fc rfl (fc rfl fn))) ⟨by omega,by rw[show iE t.m 0=[]from rfl,ę];exact c⟩ (λw l=>by show St _ _ _ (gY A J (xs++H++iE t.m 0).length) _;rw[show iE t.m 0=[]from rfl,ę];exact l) ?_
 rintro⟨k,s',G⟩ ⟨R,hr⟩;dsimp only at R hr ⊢;have q:∀ k j,k<=j->(iE t.m k).length<=(iE t.m j).length:=λk j h=>by
  induction j with
  | zero=>rw[show k=0 by omega];exact Ĉ _
  | succ j V=>
   by_cases e:k=j+1
   .rw[e];exact Ĉ _
   refine Ň (V (by omega)) ?_;show _<=(iE t.m j++_).length;rw[Ā];omega
 refine sr<|yy (Y0.lss rfl rfl) rfl<|nx<|WC.seq ?_
 refine WC.eC (p:=(k:Int)<8) rfl (λQ=>?_) (λQ=>?_)
 .have U:i64.wrap ((k:Int)+1)=((k+1:Nat):Int):=by rw[ĩ];omega
  have hi:(0:Int)<=(k:Int)/\(k:Int)<(8:Nat):=⟨by omega,by omega⟩;have Z:=q (k+1) 8 (by omega);have T:(iE t.m (k+1)).length=(iE t.m k).length+(fw (u64.wrap (Ε t.m (k:Int)))).length:=Ā;refine WC.skip<|WE.then<|WC.seq<|WC.block<|sr<|yy (Y0.index underlying145 eN jS rfl rfl hi (tv _ _ _ hi)) rfl ?_
  refine Ξ ?_;intro hr;refine WL.ö (S':=St w0 G0 G (gY A s' (xs++H++iE t.m k).length++[])) (λw l=>l) ?_;refine ZV [] (wZ _ (pd _)) Zh rfl (YC.of ow rfl) (by rw[Ā,Ā,Ā];omega) hr trivial F (λY L E u=>?_);refine WL.nil<|WE.inBlock<|WE.then<|WC.region<|yy (Y0.add rfl rfl) rfl ?_
  rw[U];rw[Đ (xs++H)]at u ⊢;exact mv rfl rfl<|WL.nil<|WE.gH (x:=(k,s',G)) (k+1,Y,L) ⟨by omega,u⟩ (fc rfl (fc rfl (fc rfl fn))) (λw l=>l) (by show 8-(k+1)<8-k;omega)
 have C:k=8:=by omega
 subst C;rw[Đ]at hr ⊢;exact WC.exit<|WE.å<|WE.å<|WE.Í<|WE.iX<|WE.iH rfl ⟨rfl,s',rfl,hr⟩
theorem UI{a n:Nat}{s:ŀ Addr×Nat×ŀ Ow}{x:Ow}{y:ŀ Ow}:Lo.sub (gY a s n++[(7,some x)]) ((7,some x)::(7,y)::(gY a s n++[])):=
 show Lo.sub [(6000,some ⟨a,.cells #[.slice s.1 n s.2.1] 212 (0,0),0⟩),(5000,s.2.2),(7,some x)] _ from lc rfl (lc rfl (lc rfl ln))
theorem TQ{a n:Nat}{s:ŀ Addr×Nat×ŀ Ow}{x:ŀ Ow}:Lo.sub (gY a s n) (gY a s n++[(7,x)]):=
 show Lo.sub [(6000,some ⟨a,.cells #[.slice s.1 n s.2.1] 212 (0,0),0⟩),(5000,s.2.2)] _ from lc rfl (lc rfl ln)
theorem L9{α:Type}(f:α->Ŀ Int)(l:Ŀ α)(k:Nat):((l.take k).flatMap f).length<=(l.flatMap f).length:=by have:=đ List.length (đ (List.flatMap f) (Ń k l));rw[dw,Ā]at this;omega
theorem yP{α:Type}(f:α->Ŀ Int){l:Ŀ α}{k:Nat}(h:k<l.length):(l.take (k+1)).flatMap f=(l.take k).flatMap f++f l[k]:=by rw[ċ h,dw];simp
theorem ZyY(l:Ŀ Za)(p:ŀ Addr)(c:Nat):ox 241 (λn=>[.slice p l.length c,.func (.func 242) #[.pointer (some ⟨n,0,none⟩)] #[]]) (λG=>Η Zk G (.slice p l.length c) l) (fD l):=by
 intro n xs s a;refine eO.enter (args:=[_,_,_]) (N:=23) func241 rfl rfl rfl (λw0 G0 A t=>?_);obtain⟨e,m⟩:=t;have F:w0.L.zero:=by rw[A];exact qy e
 have O:l.length<=9223372036854775807:=by obtain⟨_,_,_,_,h,_⟩:=m;omega
 unfold fD at a ⊢;generalize hH:fw (u64.wrap (l.length:Int))=H at a ⊢;rw[Ā,Ā]at a;refine sr<|mv rfl rfl<|mv rfl rfl<|yy (Y0.mo underlying49 rfl) rfl<|yy (Y0.conv underlying3 underlying250 rfl) rfl ?_
 refine WL.ö (S':=St w0 G0 G0 (gY n s xs.length++[])) (λw j=>j) ?_;refine ZV [] (wZ _ (pd _)) Zh rfl (YC.of ow rfl) (by rw[hH,Ā];omega) e trivial F (λI J q d=>?_);rw[hH]at d ⊢;refine nx<|sr<|mv rfl rfl<|yy (Y0.mo underlying49 rfl) rfl<|mv rfl rfl<|nx<|WC.block ?_
 refine WC.gX (X:=Nat×(ŀ Addr×Nat×ŀ Ow)×Mem) (λf=>match f with|⟨k,_,_⟩=>[(0,.pointer (some ⟨n,0,none⟩)),(2,.func (.func 242) #[.pointer (some ⟨n,0,none⟩)] #[]),(13,.slice p l.length c),(14,.int .i64 (l.length:Int)),(15,.int .i64 (k:Int))])
  (λf=>match f with|⟨k,s',G⟩=>k<=l.length/\Mem.le G0 G/\qX G s' (xs++H++(l.take k).flatMap fU))
  (λf=>match f with|⟨k,s',G⟩=>St w0 G0 G (gY n s' (xs++H++(l.take k).flatMap fU).length)) (λf=>l.length-f.1) ⟨0,I,J⟩ (fc rfl (fc rfl (fc rfl (fc rfl (fc rfl fn))))) ⟨Ĝ _,q,by rw[ř,ű,ę];exact d⟩ (λw j=>by show St _ _ _ (gY n I (xs++H++(l.take 0).flatMap fU).length) _;rw[ř,ű,ę];exact j) ?_
 rintro⟨k,s',G⟩ ⟨D,i,hr⟩;refine è ?_;intro hr;refine WC.eC (p:=(k:Int)<(l.length:Int)) rfl (λL=>?_) (λL=>?_)
 .have g:k<l.length:=by omega
  have E:(0:Int)<=(k:Int)/\l[(k:Int).toNat]? = some l[k]:=⟨by omega,by simp[g]⟩;have Q:i64.wrap ((k:Int)+1)=((k+1:Nat):Int):=by rw[ĩ];omega
  have B:=L9 fU l (k+1);rw[yP fU g,Ā]at B;obtain⟨ct,y,kt⟩:=Η.at (m.mono i) E;refine WC.skip<|WE.then<|WC.seq<|WC.block<|sr<|yy (Y0.lN underlying49 qp (m.mono i) rfl rfl E) rfl<|yy (Y0.kN rR rfl y kt) rfl ?_
  refine è ?_;intro _ hr;refine WL.fp 7 Zh qp rfl rfl rfl rfl (by rw[Ĭ];exact Zk.len y) (λu P=>Zk.one y u (by simpa using P)) ?_;refine WL.ö (λw j=>j.weaken UI) ?_;refine nx<|WC.region<|mv rfl rfl<|yy (Y0.eT 7 rR rfl rfl (by rw[Ĭ];exact Zk.len y)) rfl ?_
  refine ZV [(7,_)] (Y6 l[k] ct) Zh rfl (YC.CP Iw rfl rfl) (by simp only[Ā];omega) hr y F (λR K r v=>?_);refine WL.nil<|WE.inBlock<|WE.then<|WC.region<|yy (Y0.add rfl rfl) rfl ?_
  rw[Q];rw[Đ (xs++H),<- yP fU g]at v ⊢;exact mv rfl rfl<|WL.nil<|WE.gH (x:=(k,s',G)) (k+1,R,K) ⟨by omega,Mem.le_trans i r,v⟩ (fc rfl (fc rfl (fc rfl (fc rfl (fc rfl fn))))) (λw j=>j.weaken TQ) (by show l.length-(k+1)<l.length-k;omega)
 have C:k=l.length:=by omega
 subst C;rw[Ĥ,Đ]at hr ⊢;exact WC.exit<|WE.å<|WE.å<|WE.Í<|WE.iX<|WE.iH rfl ⟨rfl,s',rfl,hr⟩
theorem UH(l:Ŀ Za)(p:ŀ Addr)(c:Nat):ox 169 (λ_=>[.slice p l.length c]) (λG=>Η Zk G (.slice p l.length c) l) (fD l):=by
 intro j xs s e;refine Ξ ?_;intro w0 G0 _ f a g;refine WL.ö (S':=St w0 G0 G0 (gY j s xs.length++[])) (λw i=>i) ?_;refine ZV [] (ZyY l p c) Zh rfl (YC.of Iv rfl) e a g (by rw[f];exact qy a) (λs' G' h d=>?_);exact WL.nil<|WE.iX<|WE.iH rfl ⟨rfl,s',rfl,d⟩
theorem ZyW(l:Ŀ (Ŀ Za))(p:ŀ Addr)(c:Nat):ox 283 (λf=>[.slice p l.length c,.func (.func 169) #[.pointer (some ⟨f,0,none⟩)] #[]]) (λG=>Η RP G (.slice p l.length c) l) (fQ l):=by
 intro f xs s a;refine eO.enter (args:=[_,_,_]) (N:=23) func283 rfl rfl rfl (λw0 G0 y u=>?_);obtain⟨e,n⟩:=u;have E:w0.L.zero:=by rw[y];exact qy e
 have L:l.length<=9223372036854775807:=by obtain⟨_,_,_,_,h,_⟩:=n;omega
 unfold fQ at a ⊢;generalize hH:fw (u64.wrap (l.length:Int))=H at a ⊢;rw[Ā,Ā]at a;refine sr<|mv rfl rfl<|mv rfl rfl<|yy (Y0.mo underlying46 rfl) rfl<|yy (Y0.conv underlying3 underlying250 rfl) rfl ?_
 refine WL.ö (S':=St w0 G0 G0 (gY f s xs.length++[])) (λw m=>m) ?_;refine ZV [] (wZ _ (pd _)) Zh rfl (YC.of ow rfl) (by rw[hH,Ā];omega) e trivial E (λF I r d=>?_);rw[hH]at d ⊢;refine nx<|sr<|mv rfl rfl<|yy (Y0.mo underlying46 rfl) rfl<|mv rfl rfl<|nx<|WC.block ?_
 refine WC.gX (X:=Nat×(ŀ Addr×Nat×ŀ Ow)×Mem) (λg=>match g with|⟨k,_,_⟩=>[(0,.pointer (some ⟨f,0,none⟩)),(2,.func (.func 169) #[.pointer (some ⟨f,0,none⟩)] #[]),(13,.slice p l.length c),(14,.int .i64 (l.length:Int)),(15,.int .i64 (k:Int))])
  (λg=>match g with|⟨k,s',G⟩=>k<=l.length/\Mem.le G0 G/\qX G s' (xs++H++(l.take k).flatMap fD))
  (λg=>match g with|⟨k,s',G⟩=>St w0 G0 G (gY f s' (xs++H++(l.take k).flatMap fD).length)) (λg=>l.length-g.1) ⟨0,F,I⟩ (fc rfl (fc rfl (fc rfl (fc rfl (fc rfl fn))))) ⟨Ĝ _,r,by rw[ř,ű,ę];exact d⟩ (λw m=>by show St _ _ _ (gY f F (xs++H++(l.take 0).flatMap fD).length) _;rw[ř,ű,ę];exact m) ?_
 rintro⟨k,s',G⟩ ⟨C,j,hr⟩;refine è ?_;intro hr;refine WC.eC (p:=(k:Int)<(l.length:Int)) rfl (λK=>?_) (λK=>?_)
 .have i:k<l.length:=by omega
  have D:(0:Int)<=(k:Int)/\l[(k:Int).toNat]? = some l[k]:=⟨by omega,by simp[i]⟩;have O:i64.wrap ((k:Int)+1)=((k+1:Nat):Int):=by rw[ĩ];omega
  have A:=L9 fD l (k+1);rw[yP fD i,Ā]at A;obtain⟨q,P,Q,R⟩:=AtK.sl (Η.at (n.mono j) D);refine WC.skip<|WE.then<|WC.seq<|WC.block<|sr<|yy (Y0.lN underlying46 kP (n.mono j) rfl rfl D) rfl<|yy (Y0.hP mw rfl Q) rfl ?_
  refine è ?_;intro hr;refine WL.ö (S':=St w0 G0 G (gY f s' (xs++H++(l.take k).flatMap fD).length++[])) (λw m=>m) ?_;refine ZV [] (UH l[k] q P) Zh rfl (YC.CP zS rfl rfl) (by simp only[Ā];omega) hr R E (λS J t v=>?_);refine WL.nil<|WE.inBlock<|WE.then<|WC.region<|yy (Y0.add rfl rfl) rfl ?_
  rw[O];rw[Đ (xs++H),<- yP fD i]at v ⊢;exact mv rfl rfl<|WL.nil<|WE.gH (x:=(k,s',G)) (k+1,S,J) ⟨by omega,Mem.le_trans j t,v⟩ (fc rfl (fc rfl (fc rfl (fc rfl (fc rfl fn))))) (λw m=>m) (by show l.length-(k+1)<l.length-k;omega)
 have B:k=l.length:=by omega
 subst B;rw[Ĥ,Đ]at hr ⊢;exact WC.exit<|WE.å<|WE.å<|WE.Í<|WE.iX<|WE.iH rfl ⟨rfl,s',rfl,hr⟩
theorem TR(l:Ŀ (Ŀ Za))(p:ŀ Addr)(c:Nat):ox 216 (λ_=>[.slice p l.length c]) (λG=>Η RP G (.slice p l.length c) l) (fQ l):=by
 intro j xs s e;refine Ξ ?_;intro w0 G0 _ f a g;refine WL.ö (S':=St w0 G0 G0 (gY j s xs.length++[])) (λw i=>i) ?_;refine ZV [] (ZyW l p c) Zh rfl (YC.of IH rfl) e a g (by rw[f];exact qy a) (λs' G' h d=>?_);exact WL.nil<|WE.iX<|WE.iH rfl ⟨rfl,s',rfl,d⟩
theorem Y4(k:Zb)(B:0<=k.n)(cs:Ŀ Value):ox 137 (λ_=>[.agg cs.toArray]) (λG=>tP.fh G cs k) (gV k):=by
 intro E xs s f;refine eO.enter (args:=[_,_]) (N:=16) func137 rfl rfl rfl (λw0 G0 j n=>?_);obtain⟨g,p⟩:=n;have r:w0.L.zero:=by rw[j];exact qy g
 unfold gV at f ⊢;simp only[Ā]at f;refine sr<|WL.box 3 Zh rfl rfl (λv=>nx ?_)
 refine WC.gx 3 rfl (by rw[j];rfl) (λt c q _=>?_);have l:At tP t v 0 k:=At.box q rfl (tP.mono c p);obtain⟨p1,x,p2,y,J,A,h2⟩:=Q5 l;refine WC.ö (S':=St w0 G0 t (gY E s xs.length++[])) (λw C=>C.weaken Gf) ?_;refine sr ?_;refine è ?_;refine ZV [] (S5 k.n B) Zh rfl (YC.of wF rfl) (by simp only[Ā];omega) (g.mono c) trivial r (λK F d h=>?_);refine è ?_;refine ZV [] (TR k.eqs p1 x) Zh rfl (YC.of zU rfl) (by simp only[Ā];omega) h (A.mono d) r (λL H m i=>?_);refine è ?_;refine ZV [] (TR k.δ p2 y) Zh rfl (YC.of zU rfl) (by simp only[Ā];omega) i (h2.mono (Mem.le_trans d m)) r (λD I u a=>?_);have e:xs++lq k.n++fQ k.eqs++fQ k.δ=xs++(lq k.n++fQ k.eqs++fQ k.δ):=by simp only[Đ]
 rw[e]at a ⊢;exact WL.nil<|WE.iX<|WE.iH rfl ⟨rfl,D,rfl,a⟩
theorem yx(k:Zb)(p1:ŀ Addr)(p:Nat)(p2:ŀ Addr)(s:Nat)(r:Ĳ)(hr:(vr k).Α r):Cr 77 #[.agg ([.int .i64 k.n,.slice p1 k.eqs.length p,.slice p2 k.δ.length s]).toArray] (λG=>Η RP G (.slice p1 k.eqs.length p) k.eqs/\Η RP G (.slice p2 k.δ.length s) k.δ) (λG v=>v=.string r):=by
 refine iJ.enter (args:=[_]) (N:=12) func77 rfl rfl rfl (λw0 G0 e g=>?_);obtain⟨A,h2⟩:=g;obtain⟨v,K,hr⟩:=hr;have y:∀ i,w0.L.get i=none:=λi=>by rw[e];rfl
 have L:w0.L.zero:=by rw[e];intro q J;cases J
 refine sr<|WL.box 1 Zh rfl rfl (λE=>?_)
 refine sg rfl rfl<|nx ?_
 refine WC.gx 1 rfl (y _) (λn a t _=>?_);have c:tP.fh n [.int .i64 k.n,.slice p1 k.eqs.length p,.slice p2 k.δ.length s] k:=⟨[_],[_,_],rfl,rfl,⟨[_],[_],rfl,⟨_,rfl,A.mono a⟩,⟨_,rfl,h2.mono a⟩⟩⟩;have B:∀ j u,([.int .i64 k.n,.slice p1 k.eqs.length p,.slice p2 k.δ.length s]:Ŀ Value)[j]? = some u->n E (0+j)=some u:=λj u h=>by rw[ō];exact t j u (by simpa[Value.cells]using h)
 refine WC.ö (S':=St w0 G0 n []) (λw x=>x.weaken ln) ?_;refine WC.seq<|sr<|yy (Y0.kN lC rfl c B) rfl ?_
 refine WL.gS Zh rfl (YC.of X5 rfl) (PR _ _ _ _ _ _ K) rfl ⟨A.mono a,h2.mono a⟩ ?_;refine è ?_;intro hr;refine WC.cond (b:=!v) rfl (λF=>?_) (λF=>?_)
 .have d:v=false:=by cases v <;> simp_all
  subst d;replace hr:_=r:=hr;subst hr;exact sr<|sg rfl rfl<|nx<|WC.ret<|WE.hJ<|WE.jQ rfl rfl rfl
 have d:v=true:=by cases v <;> simp_all
 subst d;obtain⟨⟨I,f⟩,hr⟩:=hr;replace hr:_=r:=hr;subst hr;refine WC.skip<|WE.then<|sr<|WL.alloc 6000 Zh z212 rfl (λD=>?_)
 refine WL.ö (S':=St w0 G0 n (gY D (none,0,none) ([]:Ŀ Int).length++[])) (λw x=>x.weaken (show Lo.sub [(6000,some ⟨D,.cells #[.slice none 0 0] 212 (0,0),0⟩),(5000,none)] _ from lc rfl (lw ln))) ?_;refine nx<|sr<|yy (Y0.kN lC rfl c B) rfl ?_
 refine ZV [] (Y4 k I _) Zh rfl (YC.of H4 rfl) f Γ.nil c L (λs' G' H l=>?_);refine nx<|sr<|yy (Y0.y6 rfl) rfl<|yy (Y0.Ò 6000 sN rfl rfl rfl) rfl ?_
 refine WL.jH 5000 l rfl (y _) (λO P C m _=>?_);refine yy (Y0.kK underlying32 underlying5 underlying9 m rfl) rfl<|sg rfl rfl<|nx<|WC.ret ?_
 exact WE.jQ rfl rfl rfl
instance dy'{t r}:a ((ZK t)) r (∀ {f e j h},Cl 128 #[.slice f j e,.func (.func 129) #[] #[]] [(5000,h)] (λG=>Γ c' 147 G (.slice f j e) t h) (λG L v=>∃ k,L=[(5000,k)]/\v=.tuple #[]/\Γ c' 147 G (.slice f j e) r k)):=.mk λhr {f e j h}=>by
 refine rh (args:=[_,_]) (N:=14) func128 z z z (λq A u m=>?_);have d:=m;have n:q.L.zero:=by rw[u];intro p o x B;simp only[Ď,ĝ,ţ]at o;subst o;exact BO d B
 refine sr<|ν z<|Δ (BT Q' d z)<|Ρ z<|w' ?_
 refine è ?_;intro _ hr _;refine oE hr λE l hr=>mP z z (x' Io z) (dJ'.h l) z (d) (lc z ln) n (λD s C y c=>?_);obtain⟨i,rfl,rfl,g⟩:=c;refine t'<|WE.iX ?_
 obtain rfl:_=r:=hr;refine mO (S':=St q A s [(5000,i)]) (w1 z)<|WE.iH z  ⟨_,z,z,g⟩
instance gN'{o r}:aa ((Jd o)) r (∀ {l h},Cl 72 #[.map (some l)] [(5500,h)] (λG=>Ø nY (pj ik G) (.map (some l)) o h) (λG L v=>L=[(5500,h)]/\(∃ zp zc,v=ε zp r zc/\sl c' G zp zc r))):=.mk λhr {l h}=>by
 refine rh (args:=[_]) (N:=28) func72 z z z (λw0 T D ak=>?_);have q:=ak;have hz:w0.L.zero:=by rw[D];intro p hp x hx;simp only[Ď,ĝ,ţ]at hp;subst hp;exact Ø.zero q hx
 refine sr<|Þ z<|nr<|ν z<|Δ (Y0.N5 5500 M5 q z z)<|oA hr λal hr=>WL.wc (r:=c') (e:=147) (n:=(o.length:Int)) 4008 z z Q' kX z (by decide) z z al λp1 aB ae av=>Ρ z<|o'<|sr<|ν z<|WL.xZ 5500 4010 z z M5 q z z λab Z ag=>nx<|nv (X:=(Ŀ Za)×ŀ Addr×Nat×ŀ Ow×Ŀ ((Fin 8->Int)×Zf)×ŀ Ow×Mem) hr (λ⟨s,C,B,m,a,P,A⟩=>⟨(s,a),[(3,ε C s B),(0,.map (some l)),(10,ab)],Mem.le T A/\Γ c' 147 A (ε C s B) s m/\fT nY (pj ik A) h ab a none P,St w0 T A [(4003,m),(5500,h),(4010,P)]⟩) (λ(⟨I,K,J,E,R⟩:(Ŀ Za)×ŀ Addr×Nat×ŀ Ow×Mem)=>⟨I,[(3,ε K I J),(0,.map (some l))],Mem.le T R/\Γ c' 147 R (ε K I J) I E,St w0 T R [(4003,E),(5500,h)]⟩) ⟨([]:Ŀ Za),p1,aB,ae,o,Z,T⟩ z (Æ z) ⟨mr,av,(fT.forget ag)⟩ ?_ ?_ ?_
 .intro w O;have O:=O.Ý (i:=4008) (j:=4003) z (by rw[D];rfl);exact O.weaken (lc z (lc z (lc z ln)))
 .rintro _ ⟨s,C,B,m,a,P,A⟩ ⟨F,M,am⟩ hr;refine sr<|WL.CM 5500 4010 z z am z z z (λRa k Rb U Y Q aN aP=>?_) (λY=>?_)
  .replace hr:=hr.2 _ _ _ Y;generalize Ra++Rb=R2 at hr Q;refine lM z<|nx<|o'<|nR z<|q'<|b'<|Y'<|sr<|WL.xP 5500 4010 z z Q z z z (λu1 az aS=>?_)
   obtain⟨aW,rfl,aC⟩:=az;obtain⟨c,g,f,d,rfl,y,t⟩:=Zve aC;refine lM z<|lM z<|W' 4 z z145 z λb1=>W' 5 z rl z λb2=>A' 4 z wy z z z (U' _ _ _) (U' _ _ _) (λu hu=>Rp.one (gf .i64 8) (G:=A) (x:=k.1) (cs:=Ö k.1) z u (by first|simpa using hu|simpa[Value.cells]using hu))<|gp 5 jW z ?_
   refine è ?_;intro _ hr _;refine I' hr z (λaD hr=>?_) (λaD hr=>?_)
   .refine w'<|ν z<|Δ (y' 5 mf z z z)<|Δ (y' 4 Gw z z (U' _ _ _))<|Δ (l4 (vs:=#[(0,.agg ((Υ k.2 c g f d)).toArray),(1,.agg (Ö k.1).toArray)]) (v:=.agg (((Υ k.2 c g f d):Ŀ Value)++(Ö k.1)).toArray) z z (λ_=>by kernel_rfl))<|mY (e:=147) (r:=c') (vs:=#[(0,.agg (((Υ k.2 c g f d):Ŀ Value)++(Ö k.1)).toArray)]) (cs:=(((Υ k.2 c g f d):Ŀ Value)++(Ö k.1))++([])) ([(Za.mk k.2 k.1)]:Ŀ Za) z z z z z (by decide) (λ_=>by kernel_rfl) ⟨((Υ k.2 c g f d):Ŀ Value)++(Ö k.1),[],z,⟨(Υ k.2 c g f d),Ö k.1,z,⟨(η k.2.num c g),(η k.2.den f d),z,⟨[.bool k.2.num.neg],[ε c k.2.num.χ g],z,z,⟨_,z,y⟩⟩,⟨[.bool k.2.den.neg],[ε f k.2.den.χ d],z,z,⟨_,z,t⟩⟩⟩,z⟩,z⟩ (key:=999) z (by rw[D];rfl) (λp2 an H ax=>?_)
    refine oA hr λaf hr=>GG (r:=c') (e:=147) 4003 z z Q' kX z (by decide) z z (M.mono H) z ax af λp3 ar ac aw=>Þ z<|t'<|E'<|N' ⟨(s++[(Za.mk k.2 k.1)]),p3,ar,ac,R2,U,an⟩ hr ⟨(mx F H),aw,(fT.forget (fT.pT Q H))⟩ (Æ z) (w3 z z z)
   refine q'<|E'<|N' ⟨s,C,B,m,R2,U,A⟩ hr ⟨F,M,(fT.forget Q)⟩ (Æ z) (w3 z z z)
  replace hr:=hr.1 Y;refine lM z<|nx<|o'<|tG z<|nw<|p'<|p'<|K'<|og ⟨s,C,B,m,A⟩ ⟨hr,F,M⟩ (Æ z) (w2 z z)
 rintro⟨I,K,J,E,R⟩ ⟨hr,aF,aj⟩;refine b'<|sr<|ν z<|oE hr λaV ah hr=>mm (λw O=>O.Ý (i:=4003) (j:=5000) z (by rw[D];rfl))<|mP z z (x' HY z) (dy'.h ah) z (aj) (lc z ln) hz (λaO aU aL aH S=>?_)
 obtain⟨au,rfl,rfl,V⟩:=S;refine mm (λw O=>O.Ý (i:=5000) (j:=4003) z (by rw[D];rfl))<|nr<|ν z<|Ρ z<|m' ?_
 obtain rfl:_=r:=hr;refine ux (r:=c') (e:=147) 4003 V z (by rw[D];rfl) λaR ao aE W aG=>mO (S':=St w0 T ao [(5500,h)]) (w1 z)<|j' z z ⟨z,⟨_,_,(qJ W),(rm W)⟩⟩
instance dp'{C l r}:u ((DZ C l)) r (∀ {B D},Cr 29 #[ε B C D,.agg (Ö l).toArray] (λG=>sl c' G B D C) (iy c' r)):=.mk λhr {B D}=>by
 refine Ξ ?_;intro T L x F b2 hr _;have hz:=tM (w0:=T);refine WC.mB hr [0,3,6,15] [3] [0,3] [3] (λ(⟨o,R⟩:Int×(Fin 8->Bool))=>⟨(o,R),[(16,i' o)],tr,[(6,ú b2 (õ Value.bool 8 R) 143)]⟩) (λ(_:Unit)=>⟨(.inr ()),[],tr,[]⟩) ⟨0,(λ_=>false)⟩ ?_;intro E _ hr K _;refine b'<|sr<|WL.makeMap (ky:=nY) (Rv:=pj ik E) 4033 z z λH U al=>?_
 refine Ξ ?_;intro hr;refine WC.mD hr [3,34,35,9] [3] [9] [] (λ(⟨n,P,q⟩:Int×(Ŀ ((Fin 8->Int)×Zf))×ŀ Ow)=>⟨(n,P),[(36,i' n)],λs=>Ø nY (pj ik s) (.map (some H)) P q,[(4033,q)]⟩) (λ(⟨a,J⟩:(Ŀ ((Fin 8->Int)×Zf))×ŀ Ow)=>⟨a,[],λW=>Ø nY (pj ik W) (.map (some H)) a J,[(4033,J)]⟩) ⟨0,[],U⟩ ?_ ?_
 .rintro _ s ⟨n,P,q⟩ y Z hr;refine Ξ ?_;intro _ g _ _ c _ e _ f _ d _ _ _ t b3 N hr v;refine WC.mB hr [3,11,12,34,35,36,41,9] [3,11,4033] [3,11,12,34,35,36,9] [3,11,4033] (λ(⟨m,I⟩:Int×(Fin 8->Int))=>⟨(m,I),[(42,i' m)],tr,[(12,ú N (Ö I) 145)]⟩) (λ(Q:(Fin 8->Int))=>⟨Q,[],tr,[(12,ú N (Ö Q) 145)]⟩) ⟨0,(λ_=>0)⟩ ?_;intro O Q hr A _;refine Ξ ?_;intro hr;obtain⟨⟨S,av⟩,hr⟩:=hr;exact WL.lO (Rv':=pj ik O) (k:=Q) (z:=g.c) 4033 z M5 (Ø.pT Z A) z z z z S ⟨(Υ g.c c e f d),z,⟨(η g.c.num c e),(η g.c.den f d),z,⟨[.bool g.c.num.neg],[ε c g.c.num.χ e],z,z,⟨_,z,(t.mono A)⟩⟩,⟨[.bool g.c.den.neg],[ε f g.c.den.χ d],z,z,⟨_,z,(v.mono A)⟩⟩⟩⟩ (λ_ _ _ _ h=>h) av λaw ar=>Ζ
 rintro W ⟨a,J⟩ hr aK X;refine b'<|sr<|ν z<|oE hr λaR V hr=>mm (λw p=>p.Ý (i:=4033) (j:=5500) z (by rw[x];rfl))<|WL.lH z z (x' X7 z) (gN'.h V) z (X) (lc z ln) (λi hi=>by simp only[Ġ,ő,Ď,ĝ,ţ]at hi;subst hi;exact z) hz (λaN aQ aL Y=>?_)
 obtain⟨aP,aM,rfl,aq⟩:=Y;refine mm (λw p=>p.Ý (i:=5500) (j:=4033) z (by rw[x];rfl))<|Þ z<|Ρ z<|m' ?_
 obtain rfl:_=r:=hr;exact um z z z ⟨_,_,z,aq⟩
theorem Ja(d:(Ŀ (Ŀ Za)))(k:(Fin 8->Int))(D:ŀ Addr)(C:Nat)(r:(Ŀ (Ŀ Za)))(hr:(An d k).Α r):Cr 76 #[ε D d C,.agg (Ö k).toArray] (λG=>sq G D C d) (fS (Rp.sl c') r):=by
 refine Ξ ?_;intro R A _ W O E J T hr _;refine WC.mD hr [3,5,11,12] [3] [5] [] (λ(⟨m,f,c⟩:(Ŀ (Ŀ Za))×ŀ Ow×Int)=>⟨(m,c),[(13,i' c)],λl=>Γ (Rp.sl c') 50 l (.slice E (d.length:Int).toNat ((d.length:Int).toNat)) m f,[(4010,f)]⟩) (λ(⟨B,h⟩:(Ŀ (Ŀ Za))×ŀ Ow)=>⟨B,[],λq=>Γ (Rp.sl c') 50 q (.slice E (d.length:Int).toNat ((d.length:Int).toNat)) B h,[(4010,h)]⟩) ⟨(List.replicate (d.length:Int).toNat []),J,0⟩ ?_ ?_
 .rintro _ l ⟨m,f,c⟩ g o hr;refine Ξ ?_;intro _ _ _ _ _ _ _ _ _ _ y _ U j v t x _ hr F;exact zz (r:=(Rp.sl c')) (e:=50) (cs':=[ε v y.1 t]) (i:=c) (z':=y.1) 4010 z pD z (o.mono j) z z z z ⟨_,z,x⟩ F λQ M=>Ζ
 rintro q ⟨B,h⟩ hr Z I;refine Ξ ?_;intro hr;obtain rfl:_=r:=hr;refine ux (r:=(Rp.sl c')) (e:=50) 4010 I z (by rw[W];rfl) λs p n u a=>j' z z ⟨_,_,(qJ u),(rm u)⟩
instance {d:(Ŀ (Ŀ Za))}{k:(Fin 8->Int)}{r:(Ŀ (Ŀ Za))}:c ((An d k)) r (∀ {D:ŀ Addr}{C:Nat},Cr 76 #[ε D d C,.agg (Ö k).toArray] (λG=>sq G D C d) (fS (Rp.sl c') r)):=⟨λa {D C}=>Ja _ _ D C _ a⟩
instance fe'{c r}:a ((I3 c)) r (∀ {f h},Cr 54 #[ε f c h] (λG=>Η (Rp.sl (Rp.sl c')) G (ε f c h) c) (fS (Rp.sl c') r)):=.mk λhr {f h}=>by
 refine Ξ ?_;intro O I K hr _;have A:=tM (w0:=O);refine WC.mB hr [0,9,10] [] [0] [] (λ(⟨t,y⟩:Int×Int)=>⟨(t,y),[(3,i' t),(11,i' y)],tr,[]⟩) (λ(D:Int)=>⟨D,[(3,i' D)],tr,[]⟩) ⟨0,0⟩ ?_;intro P D hr C _;refine b'<|sr<|ν z<|oE hr λp g hr=>mP z z (x' Yg z) (eR'.h g) z trivial ln A (λau M Z F L=>?_)
 obtain⟨Y,W,R,rfl,rfl,V⟩:=L;refine mm (λw Q=>Q.Ý (i:=7000) (j:=4024) z (by rw[K];rfl))<|Ρ z ?_
 refine è ?_;intro hr;refine nv (X:=(Ŀ (Ŀ Za))×ŀ Addr×Nat×ŀ Ow×Int×Mem) hr (λ⟨d,m,n,k,v,B⟩=>⟨(d,v),[(6,ε m d n),(25,ε f c h),(26,i' (c.length:Int)),(27,i' v)],Mem.le M B/\Γ (Rp.sl c') 50 B (ε m d n) d k,St O I B [(4006,k)]⟩) (λ(⟨l,q,s,o,J⟩:(Ŀ (Ŀ Za))×ŀ Addr×Nat×ŀ Ow×Mem)=>⟨l,[(6,ε q l s)],Mem.le M J/\Γ (Rp.sl c') 50 J (ε q l s) l o,St O I J [(4006,o)]⟩) ⟨p,Y,W,R,0,M⟩ z (Æ z) ⟨mr,V⟩ ?_ ?_ ?_
 .intro w Q;have Q:=Q.Ý (i:=4024) (j:=4006) z (by rw[K];rfl);exact Q.weaken (lc z ln)
 .rintro _ ⟨d,m,n,k,v,B⟩ ⟨x,u⟩ hr;exact Ζ
 rintro⟨l,q,s,o,J⟩ ⟨hr,T,E⟩;refine Ξ ?_;intro hr;obtain rfl:_=r:=hr;refine ux (r:=(Rp.sl c')) (e:=50) 4006 E z (by rw[K];rfl) λay H S U N=>j' z z ⟨_,_,z,U⟩
instance hy'{m r}:a ((Pw m)) r (∀ {e c},Cr 110 #[.agg ((η m e c)).toArray] (λG=>su G e c m.χ) (er r)):=.mk λhr {e c}=>Ζ
instance fj'{q r}:a ((wN q)) r (Cr 58 #[i' q] (λG=>True) (er r)):=.mk λhr=>Ζ
instance fl'{h r}:a ((DR h)) r (∀ {g c d f},Cr 57 #[.agg ((Υ h g c d f)).toArray] (λG=>su G g c h.num.χ/\su G d f h.den.χ) (fS c' r)):=.mk λhr {g c d f}=>Ζ
instance ip'{h m r}:a ((Kx h m)) r (∀ {e d},Cr 55 #[ε e h d,i' m] (λG=>sl c' G e d h) (λG v=>v=.bool r)):=.mk λhr {e d}=>Ζ
theorem Pr(o:Int)(j:(Ŀ (Ŀ Za)))(c:(Ŀ (Ŀ Za)))(p:ŀ Addr)(q:Nat)(d:ŀ Addr)(f:Nat)(r:Zb×Int)(hr:(Ec o j c).Α r):Cr 23 #[i' o,ε p j q,ε d c f] (λG=>sq G p q j/\sq G d f c) (lZ r):=by
 refine è ?_;intro w0 G0 _ X aw b1 hr av;refine WC.nB hr [0,1,2,6] [] (λ(⟨a,ac,aa,Q,P⟩:Zb×ŀ Addr×Nat×ŀ Addr×Nat)=>⟨[],Pq o j c a,λaX=>sq aX ac aa a.eqs/\sq aX Q P a.δ,[(6,ú b1 (Ã a ac aa Q P) 48)]⟩) ?_;rintro aX ⟨a,ac,aa,Q,P⟩ hr F ⟨bf,a1⟩;refine o'<|sr<|ν z<|ν z<|mY (e:=46) (r:=(Rp.sl (Rp.sl c'))) (vs:=#[(0,ε p j q),(1,ε d c f)]) (cs:=[ε p j q]++([ε d c f]++([]))) ([j,c]:Ŀ (Ŀ (Ŀ Za))) z z z z z (by decide) (λ_=>by kernel_rfl) ⟨[ε p j q],[ε d c f]++([]),z,⟨_,z,(aw.mono F)⟩,⟨[ε d c f],[],z,⟨_,z,(av.mono F)⟩,z⟩⟩ (key:=999) z (by rw[X];rfl) (λp1 c1 H cv=>?_)
 refine oE hr λbG bV hr=>gR z z (x' XX z) (fe'.h bV) z (cv) (λcR bl E ba=>?_);obtain⟨b6,bL,rfl,a2⟩:=ba;refine Δ (P' jL a2 z)<|ν z<|nx<|WC.mB (hH:=by exact⟨(bf.mono (mx H E)),(a1.mono (mx H E))⟩) hr [0,1,2,6,27,28] [] [0,1,2,6] [] (λ(⟨au,aF,M,I,C,A⟩:Int×Zb×ŀ Addr×Nat×ŀ Addr×Nat)=>⟨(au,aF),[(29,i' au)],λaE=>sq aE M I aF.eqs/\sq aE C A aF.δ,[(6,ú b1 (Ã aF M I C A) 48)]⟩) (λ(⟨N,l,k,g,h⟩:Zb×ŀ Addr×Nat×ŀ Addr×Nat)=>⟨(.inr N),[],λar=>sq ar l k N.eqs/\sq ar g h N.δ,[(6,ú b1 (Ã N l k g h) 48)]⟩) ⟨0,a,ac,aa,Q,P⟩ ?_
 rintro ar ⟨N,l,k,g,h⟩ hr U ⟨cd,cc⟩;refine Ξ ?_;intro hr;refine WC.mD (hH:=by exact⟨(X' _ _),kV⟩) hr [0,2,6,11,39,40] [6] [0,2,6,11] [6] (λ(⟨s,K,L,J,am⟩:(Ŀ (Ŀ Za))×ŀ Addr×Nat×ŀ Ow×Int)=>⟨(s,am),[(10,ε K s L),(41,i' am)],λaJ=>sq aJ K L s/\Tok 1 50 (ε K s L) s.length J,[(1010,J)]⟩) (λ(⟨O,S,R,ab⟩:(Ŀ (Ŀ Za))×ŀ Addr×Nat×ŀ Ow)=>⟨O,[(10,ε S O R)],λaB=>sq aB S R O/\Tok 1 50 (ε S O R) O.length ab,[(1010,ab)]⟩) ⟨[],none,0,none,0⟩ ?_ ?_
 .rintro _ aJ ⟨s,K,L,J,am⟩ ak ⟨aC,ap⟩ hr;refine Ξ ?_;intro _ _ _ _ _ _ _ _ _ _ _ aR _ aU _ _ _ _ _ aY cg hr _;refine oA hr λbS hr=>jN (r:=(Rp.sl c')) 1010 z z jL js z (by decide) z z (aC.mono (mx aU aY)) z (by rw[X];rfl) ap cg bS λp9 cp bP bZ bq ci bX=>Þ z<|t'<|E'<|b'<|w'<|iM z<|ν z<|t'<|N' ⟨bZ,(s++[aR]),p9,cp,bP,i64.wrap (am+1)⟩ hr ⟨(mx (mx (mx ak aU) aY) bq),ci,bX⟩ (Æ z) (w2 z z)
 rintro aB ⟨O,S,R,ab⟩ hr aL ⟨br,bd⟩;refine Ξ ?_;intro hr;refine WC.mD (hH:=by exact⟨br,bd,(X' _ _),kV⟩) hr [0,6,54,55] [6] [0,6] [6] (λ(⟨n,B,D,t,m,y,x,u,Z⟩:(Ŀ (Ŀ Za))×ŀ Addr×Nat×ŀ Ow×(Ŀ (Ŀ Za))×ŀ Addr×Nat×ŀ Ow×Int)=>⟨(n,m,Z),[(10,ε B n D),(11,ε y m x),(56,i' Z)],λaz=>sq az B D n/\Tok 1 50 (ε B n D) n.length t/\sq az y x m/\Tok 1 50 (ε y m x) m.length u,[(1010,t),(1011,u)]⟩) (λ(⟨V,aj,ai,aq,i,ah,al,ao⟩:(Ŀ (Ŀ Za))×ŀ Addr×Nat×ŀ Ow×(Ŀ (Ŀ Za))×ŀ Addr×Nat×ŀ Ow)=>⟨(V,i),[(10,ε aj V ai),(11,ε ah i al)],λaT=>sq aT aj ai V/\Tok 1 50 (ε aj V ai) V.length aq/\sq aT ah al i/\Tok 1 50 (ε ah i al) i.length ao,[(1010,aq),(1011,ao)]⟩) ⟨O,S,R,ab,[],none,0,none,0⟩ ?_ ?_
 .rintro _ az ⟨n,B,D,t,m,y,x,u,Z⟩ Y ⟨af,W,ae,T⟩ hr;refine sr<|kv z<|nx<|o'<|I' hr z (λct hr=>?_) (λct hr=>?_)
  .refine è ?_;intro _ _ _ _ _ _ _ _ hr _;refine I' hr z (λcz hr=>?_) (λcz hr=>?_)
   .refine Ξ ?_;intro _ _ _ aN _ _ _ _ _ _ aW _ aO _ _ _ _ _ aK cy hr _;refine oA hr λbN hr=>jN (r:=(Rp.sl c')) 1010 z z jL js z (by decide) z z (af.mono (mx (mx aN aO) aK)) z (by rw[X];rfl) W cy bN λp4 cn cb co a8 cm bK=>Þ z<|t'<|E'<|E'<|b'<|w'<|iM z<|ν z<|t'<|N' ⟨co,(n++[aW]),p4,cn,cb,m,y,x,u,i64.wrap (Z+1)⟩ hr ⟨(mx (mx (mx (mx Y aN) aO) aK) a8),cm,bK,(ae.mono (mx (mx (mx aN aO) aK) a8)),T⟩ (Æ z) (w3 z z z)
   refine Ξ ?_;intro _ _ _ aV _ ay _ _ _ _ _ aG cB hr _;refine oA hr λbY hr=>jN (r:=(Rp.sl c')) 1011 z z jL js z (by decide) z z (ae.mono (mx ay aG)) z (by rw[X];rfl) T cB bY λp6 ck bR b3 aS ch bM=>Þ z<|t'<|E'<|E'<|b'<|w'<|iM z<|ν z<|t'<|N' ⟨b3,n,B,D,t,(m++[aV]),p6,ck,bR,i64.wrap (Z+1)⟩ hr ⟨(mx (mx (mx Y ay) aG) aS),(af.mono (mx (mx ay aG) aS)),W,ch,bM⟩ (Æ z) (w3 z z z)
  exact Ζ
 rintro aT ⟨V,aj,ai,aq,i,ah,al,ao⟩ hr cF ⟨bm,ce,bs,cf⟩;refine b'<|sr<|ν z<|ν z<|oE hr λbE bW hr=>gR z z (x' OQ z) (Ps _ _ _ _ bW) z (bm) (λcQ c0 bA bi=>?_)
 obtain⟨bp,bj,rfl,bu⟩:=bi;refine ν z<|oE hr λbF b5 hr=>gR z z (x' OQ z) (Ps _ _ _ _ b5) z ((bs.mono bA)) (λcK cX a9 bg=>?_)
 obtain⟨bk,bt,rfl,bn⟩:=bg;refine Δ (l4 (vs:=#[(0,i' o),(1,ε bp bE bj),(2,ε bk bF bt)]) (v:=.agg ([i' o,ε bp bE bj,ε bk bF bt]).toArray) z z (λ_=>by kernel_rfl))<|W' 16 z rB z λb2=>gp 16 tH z<|nx<|o'<|sr<|Δ (M7 z)<|Δ (n' 16 jR z z z)<|Δ (P' jL (bu.mono a9) z)<|dE hr z (uo z z) z (λcD hr=>?_) (λcD hr=>?_)
 .exact Ζ
 exact Ζ
instance {o:Int}{j:(Ŀ (Ŀ Za))}{c:(Ŀ (Ŀ Za))}{r:Zb×Int}:e ((Ec o j c)) r (∀ {p:ŀ Addr}{q:Nat}{d:ŀ Addr}{f:Nat},Cr 23 #[i' o,ε p j q,ε d c f] (λG=>sq G p q j/\sq G d f c) (lZ r)):=⟨λa {p q d f}=>Pr _ _ _ p q d f _ a⟩
abbrev lS(f:Fin 8->Int):Array Value:=(õ (Value.int .i64) 8 f).toArray
theorem vD(f:Fin 8->Int){k:Nat}(h:k<8):(lS f)[k]? = some (.int .i64 (Ε f (k:Int))):=tv (Value.int .i64) 8 f (i:=(k:Int)) ⟨by omega,by omega⟩
theorem Zvl(b lo len cap:Nat)(f:Fin 8->Int)(h:lo+len<=8):Cl 136 #[.slice (some ⟨b,lo,none⟩) len cap] [(9003,some ⟨b,.cells (lS f) 71 (0,0),0⟩)] (λ_=>True)
  (λ_ L v=>v=.tuple #[]/\L=[(9003,some ⟨b,.cells (lS (oV f lo len (len / 2))) 71 (0,0),0⟩)]):=by
 refine eO.enter (args:=[_]) (N:=28) func136 rfl rfl rfl (λw0 G0 l _=>?_)
 have d:i64.wrap ((len:Int)-1)=(len:Int)-1-((0:Nat):Int):=by rw[ĩ];omega
 refine sr<|mv rfl rfl<|yy (Y0.mo underlying44 rfl) rfl<|yy (Y0.sub rfl rfl) rfl<|sg rfl rfl<|sg rfl rfl<|nx<|WC.block ?_
 refine WC.gX (X:=Nat) (λk=>[(0,.slice (some ⟨b,lo,none⟩) len cap),(2,.int .i64 (k:Int)),(3,.int .i64 ((len:Int)-1-(k:Int)))])
  (λk=>k<=len / 2) (λk=>St w0 G0 G0 [(9003,some ⟨b,.cells (lS (oV f lo len k)) 71 (0,0),0⟩)]) (λk=>len-k) 0 (fc rfl (fc rfl (fc (by show some (Value.int .i64 (i64.wrap ((len:Int)-1)))=_;rw[d]) fn))) (Ĝ _) (λw c=>c) ?_
 intro k r
 refine WC.seq<|sr<|mv rfl rfl ?_
 refine è ?_
 refine WC.eC (p:=(k:Int)<(len:Int)-1-(k:Int)) rfl (λn=>?_) (λn=>?_)
 .have j:(len:Int)-1-(k:Int)=((len-1-k:Nat):Int):=by omega
  have e:i64.wrap ((k:Int)+1)=((k+1:Nat):Int):=by rw[ĩ];omega
  have i:i64.wrap (((len-1-k:Nat):Int)-1)=(len:Int)-1-((k+1:Nat):Int):=by rw[ĩ];omega
  rw[j]
  generalize q:oV f lo len k=g
  refine WC.skip<|WE.then<|WC.seq<|WC.block ?_
  refine WC.drawn [false,false,true,true,false,false,false,false,false,false,false,false,false] eL (by kernel_rfl) (λm=>?_)
  refine cn (λ_ a=>Y0.move rfl)<|cn (λ_ a=>Y0.move rfl) ?_
  refine è ?_
  refine cn (λ_ a=>Y0.iR underlying44 jS rfl rfl (show len-1-k<len by omega))<|cn (λ_ a=>Y0.Ò 9003 eN rfl rfl (by rw[x5];exact vD g (show lo+(len-1-k)<8 by omega))) ?_
  refine è ?_
  refine cn (λ_ a=>Y0.iR underlying44 jS rfl rfl (show k<len by omega))<|cn (λ_ a=>Y0.Ò 9003 eN rfl rfl (by rw[x5];exact vD g (show lo+k<8 by omega))) ?_
  refine cn (λ_ a=>Y0.iR underlying44 jS rfl rfl (show k<len by omega))<|γ.mW m ?_
  refine WL.fL 9003 (lS (ζ g (lo+k) (Ε g ((lo+(len-1-k):Nat):Int)))) Zh jS rfl rfl rfl (by rw[x5,Zy];omega) rfl (by rw[x5];exact vx _ _ _ _ _) ?_
  refine yy (Y0.iR underlying44 jS rfl rfl (show len-1-k<len by omega)) rfl ?_
  refine WL.fL 9003 (lS (yd g (lo+k) (lo+(len-1-k)))) Zh jS rfl rfl rfl (by rw[x5,Zy];omega) rfl (by rw[x5];exact vx _ _ _ _ _) ?_
  refine WL.nil<|WE.nx<|WE.inBlock<|WE.then<|WC.region<|mv rfl rfl<|yy (Y0.add rfl rfl) rfl<|mv rfl rfl<|yy (Y0.sub rfl rfl) rfl ?_
  rw[e,i]
  refine sg rfl rfl<|sg rfl rfl<|WL.nil<|WE.gH (x:=k) (k+1) (by omega) (fc rfl (fc rfl (fc rfl fn))) (λw c=>c.weaken ?_) (by show len-(k+1)<len-k;omega)
  show Lo.sub [(9003,some ⟨b,.cells (lS (yd (oV f lo len k) (lo+k) (lo+(len-1-k)))) 71 (0,0),0⟩)] _
  rw[q]
  exact lc rfl ln
 have:k=len / 2:=by omega
 subst this
 exact WC.exit<|WE.å<|WE.å<|WE.Í<|WE.iX<|WE.iH rfl ⟨rfl,rfl⟩
theorem Zyb(n:Int):Cr 75 #[.int .i64 n] (λ_=>True) (λG v=>∃ b,v=.func (.func 135) #[] #[.pointer (some ⟨b,0,none⟩)]/\G b 0=some (.int .i64 n)):=by
 refine iJ.enter (args:=[_]) (N:=4) func75 rfl rfl rfl (λw0 G0 a _=>?_);refine sr<|WL.ic 1 rfl Zh rfl rfl (λb=>?_)
 refine sg rfl rfl<|WL.nil<|WE.then ?_
 refine WC.gx 1 rfl (by rw[a];rfl) (λe d c _=>?_);refine sr<|yy (Y0.makeFunc rfl rfl) rfl<|sg rfl rfl<|nx<|WC.ret ?_
 exact WE.jQ rfl rfl ⟨_,rfl,c 0 _ rfl⟩
theorem ZvA{n:Nat}(d:1<=n)(e:n<=4){j:Nat}{p:Fin 8->Int}(h:(Β n)[j]? = some p):(Β n)[j+1]? = n0 n p:=by
 have key:∀ n:Fin 4,∀ j:Fin 24,(match(Β (n.val+1))[j.val]? with|some p=>decide ((Β (n.val+1))[j.val+1]? = n0 (n.val+1) p)|none=>true)=true:=by decide +kernel
 have c:∀ n:Fin 4,(Β (n.val+1)).length<=24:=by decide +kernel
 obtain⟨m,rfl⟩:∃ m,n=m+1:=⟨n-1,by omega⟩;have a:j<24:=aao (Č.1 h).1 (c ⟨m,by omega⟩);have:=key ⟨m,by omega⟩ ⟨j,a⟩;dsimp only at this;rw[h]at this;exact ĥ this
def EM(n:Nat)(j:Nat)(u:Value)(_:Mem):Prop:=∃ p,(Β n)[j]? = some p/\u=.agg (lS p)
theorem Sr{p:Fin 8->Int}:∀ {k i:Nat},kH p k=some i->i<k/\Ε p (i:Int)<=Ε p ((i+1:Nat):Int)
 | 0,_,h=>by cases h
 | k+1,i,h=>by
  unfold kH at h;split at h
  .obtain⟨a,h2⟩:=Sr h;exact⟨by omega,h2⟩
  cases h;exact⟨Ũ _,by omega⟩
theorem ZwP(b n:Nat)(h1:1<=n)(h4:n<=4):rE prog 135 #[.pointer (some ⟨b,0,none⟩)] (Β n).length (EM n) (λG=>G b 0=some (.int .i64 (n:Int))):=by
 intro σ O I y pre C E hY s0 ab L;refine eO.enter (args:=[_,_]) (N:=61) func135 rfl rfl rfl (λw0 G0 ac hp=>?_);obtain⟨hb,Z⟩:=hp;have aa:w0.L.zero:=by rw[ac];exact L
 have ai:∀ (s:σ) (x:ŀ Ow),Lo.sub (y s) ((9003,x)::y s):=λs x i z h=>by rw[Lo.Zp,ā (λe=>by rw[<- e,C s 9003 (by omega)]at h;cases h)];exact h
 have J:∀ (s:σ) (x:ŀ Ow) (R:Lo),Lo.sub ((9003,x)::y s) ((9003,x)::((9003,R.get 9003)::y s)):=λs x R i z L=>by
  rw[Lo.Zp]at L ⊢;split at L
  .rename_i e;rw[ą e];exact L
  rename_i e;rw[ā e,Lo.Zp,ā e];exact L
 refine sr<|WL.alloc 9003 Zh u5 rfl (λt=>?_)
 refine nx ?_;refine è ?_;refine WC.block ?_;refine WC.gX (X:=Nat) (λk=>[(0,.func (.yield O) #[] #[]),(1,.pointer (some ⟨b,0,none⟩)),(3,.pointer (some ⟨t,0,none⟩)),(7,.int .i64 (k:Int))])
  (λk=>k<=8) (λk=>St w0 G0 G0 ((9003,some ⟨t,.cells (lS (λi=>if i.val<k then(i.val:Int)else 0)) 71 (0,0),0⟩)::y s0)) (λk=>8-k) 0 (fc rfl (fc rfl (fc rfl (fc rfl fn)))) (by omega) (λw d=>d) ?_
 .intro k hk;refine Ξ ?_;refine WC.eC (p:=(k:Int)<8) rfl (λu=>?_) (λu=>?_)
  .have hw:i64.wrap ((k:Int)+1)=((k+1:Nat):Int):=by rw[ĩ];omega
   have ak:ζ (λi:Fin 8=>if i.val<k then(i.val:Int)else 0) k (k:Int)=λi=>if i.val<k+1 then(i.val:Int)else 0:=by
    funext i;show(if i.val=k then(k:Int)else if i.val<k then(i.val:Int)else 0)=if i.val<k+1 then(i.val:Int)else 0;by_cases e:i.val=k
    .rw[ą e,ą (by omega),e]
    rw[ā e];by_cases e2:i.val<k
    .rw[ą e2,ą (by omega)]
    rw[ā e2,ā (by omega)]
   refine WC.skip<|WE.then<|WC.seq<|WC.block<|sr<|mv rfl rfl<|sg rfl rfl<|nx<|WC.region<|mv rfl rfl<|mv rfl rfl<|yy (Y0.ju underlying71 jS rfl rfl ⟨by omega,by omega⟩) rfl ?_
   refine WL.fL 9003 (lS (λi=>if i.val<k+1 then(i.val:Int)else 0)) Zh jS rfl rfl rfl (by rw[Zy];omega) rfl (by rw[<- ak];exact vx _ _ _ _ _) ?_;refine WL.nil<|WE.inBlock<|WE.then<|WC.region<|yy (Y0.add rfl rfl) rfl ?_
   rw[hw];exact mv rfl rfl<|WL.nil<|WE.gH (x:=k) (k+1) (by omega) (fc rfl (fc rfl (fc rfl (fc rfl fn)))) (λw d=>d.weaken (J s0 _ [(9003,_)])) (by show 8-(k+1)<8-k;omega)
  have:k=8:=by omega
  subst this;refine WC.exit<|WE.å<|WE.å<|WE.Í<|WE.then<|WC.block ?_
  have ae:(λi:Fin 8=>if i.val<8 then(i.val:Int)else 0)=λi=>(i.val:Int):=by funext i;rw[ą i.isLt]
  rw[ae];have aj:(Β n)[0]? = some λi=>(i.val:Int):=rfl;refine WC.gX (X:=Nat×(Fin 8->Int)×σ×Mem) (λK=>[(0,.func (.yield O) #[] #[]),(1,.pointer (some ⟨b,0,none⟩)),(3,.pointer (some ⟨t,0,none⟩))])
   (λK=>match K with|⟨j,p,s,G⟩=>(Β n)[j]? = some p/\I j s/\Mem.le G0 G/\pre s G) (λK=>match K with|⟨j,p,s,G⟩=>St w0 G0 G ((9003,some ⟨t,.cells (lS p) 71 (0,0),0⟩)::y s)) (λK=>(Β n).length-K.1) ⟨0,_,s0,G0⟩ (fc rfl (fc rfl (fc rfl fn))) ⟨aj,ab,Mem.le_refl _,Z⟩ (λw d=>d) ?_
  rintro⟨j,p,s,G⟩ ⟨A,hI,a,hp⟩;dsimp only at A hI a hp ⊢;have ag:j<(Β n).length:=(Č.1 A).1;have S:=ZvA h1 h4 A;refine WC.seq<|WC.seq<|WC.qe<|l1.y0 Zh (Y0.move rfl) (λc h=>by cases h) rfl<|l1.y0 Zh (Y0.eT 9003 lD rfl rfl (Zy _ _ _)) (λc h=>by cases h) rfl ?_
  refine l1.vM (R:=[(9003,_)]) Zh rfl rfl rfl (hY j _ s ag hI) ⟨hp,p,A,rfl⟩ aa (λi hi=>by simp only[Ġ,ő,Ĕ]at hi;subst hi;exact C s _ (by omega)) (λbb P L1 W l=>?_);obtain⟨rfl,s',Q,rfl,Y⟩:=l;have g:=Mem.le_trans a W;refine l1.nil<|WE.then<|WC.pJ rfl<|WC.skip<|WE.then<|WC.block ?_
  have al:i64.wrap ((n:Int)-2)=((n-1:Nat):Int)-1:=by rw[ĩ];omega
  have am:i64.wrap ((n:Int)-1)=((n-1:Nat):Int):=by rw[ĩ];omega
  refine sr<|yy (Y0.hP eN rfl (g _ _ _ hb)) rfl<|yy (Y0.sub rfl rfl) rfl ?_
  rw[al];refine sg rfl rfl<|nx<|WC.uV (X:=Nat) (λk=>[(0,.func (.yield O) #[] #[]),(1,.pointer (some ⟨b,0,none⟩)),(3,.pointer (some ⟨t,0,none⟩)),(5,.int .i64 ((k:Int)-1))])
   (λk=>k<=n-1/\((k=0/\kH p (n-1)=none)\/∃ i,k=i+1/\kH p (n-1)=some i)) (λ_=>St w0 G0 P ((9003,some ⟨t,.cells (lS p) 71 (0,0),0⟩)::y s')) ?_ ?_
  .refine WC.block<|WC.gX (X:=Nat) (λk=>[(0,.func (.yield O) #[] #[]),(1,.pointer (some ⟨b,0,none⟩)),(3,.pointer (some ⟨t,0,none⟩)),(5,.int .i64 ((k:Int)-1))])
    (λk=>k<=n-1/\kH p k=kH p (n-1)) (λ_=>St w0 G0 P ((9003,some ⟨t,.cells (lS p) 71 (0,0),0⟩)::y s')) (λk=>k) (n-1) (fc rfl (fc rfl (fc rfl (fc rfl fn)))) ⟨Ĉ _,rfl⟩ (λw d=>d) ?_
   rintro k ⟨hk,f⟩;refine WC.seq<|WC.seq ?_
   by_cases ah:k=0
   .subst ah;refine è ?_;intro _;exact WE.oQ 0 ⟨hk,.inl ⟨rfl,f.symm⟩⟩ (fc rfl (fc rfl (fc rfl (fc rfl fn)))) (λw d=>d)
   obtain⟨i,rfl⟩:∃ i,k=i+1:=⟨k-1,by omega⟩;have e1:((i+1:Nat):Int)-1=(i:Int):=by omega
   have e2:i64.wrap ((i:Int)+1)=((i+1:Nat):Int):=by rw[ĩ];omega
   have e3:i64.wrap ((i:Int)-1)=(i:Int)-1:=by rw[ĩ];omega
   rw[e1];refine WC.drawn [false,false,false,false,false,false,false,false,false,false,false] eL (by kernel_rfl) (λhb=>?_);refine cn (λ_ a=>Y0.move rfl)<|cn (λ_ a=>Y0.eq (Y0.geq rfl rfl) (đ Value.bool (ă (by omega)))) ?_
   refine è ?_;refine cy rfl rfl (λ_ a=>Y0.ju underlying71 jS rfl rfl ⟨by omega,by omega⟩)<|cy rfl rfl (λ_ a=>Y0.Ò 9003 eN rfl rfl (vD p (show i<8 by omega))) ?_
   refine cy rfl rfl (λ_ a=>Y0.move rfl)<|cy rfl rfl (λ_ a=>Y0.eq (Y0.add rfl rfl) (đ (Value.int .i64) e2))<|cy rfl rfl (λ_ a=>Y0.ju underlying71 jS rfl rfl ⟨by omega,by omega⟩)<|cy rfl rfl (λ_ a=>Y0.Ò 9003 eN rfl rfl (vD p (show i+1<8 by omega))) ?_
   refine è ?_;refine WC.eC (p:=Ε p ((i+1:Nat):Int)<Ε p (i:Int)) rfl (λu=>?_) (λu=>?_)
   .have D:kH p (i+1)=kH p i:=by show(if _ then _ else _)=_;rw[ą u]
    refine WC.skip<|WE.then<|WC.block<|WC.region<|mv rfl rfl<|yy (Y0.sub rfl rfl) rfl ?_
    rw[e3];exact sg rfl rfl<|WL.nil<|WE.inBlock<|WE.gH (x:=i+1) i ⟨by omega,by rw[<- D];exact f⟩ (fc rfl (fc rfl (fc rfl (fc rfl fn)))) (λw d=>d) (Ũ i)
   have D:kH p (i+1)=some i:=by show(if _ then _ else _)=_;rw[ā u]
   exact WC.exit<|WE.å<|WE.å<|WE.Í<|WE.oQ (i+1) ⟨hk,.inr ⟨i,rfl,by rw[<- f];exact D⟩⟩ (fc rfl (fc rfl (fc rfl (fc (by rw[e1];rfl) fn)))) (λw d=>d)
  rintro k ⟨hk,V⟩;refine Ξ ?_;refine WC.eC (p:=(k:Int)-1<0) rfl (λu=>?_) (λu=>?_)
  .have H:kH p (n-1)=none:=by
    rcases V with ⟨_,h⟩|⟨i,hi,_⟩
    .exact h
    omega
   have T:(Β n)[j+1]? = none:=by rw[S];unfold n0;rw[H]
   have U:(Β n).length=j+1:=by have:=aah.1 T;omega
   refine WC.ret<|WE.hJ<|WE.gv<|WE.hJ<|WE.gv ?_
   exact WE.ö (S':=St w0 G0 P (y s')) (λw d=>d.weaken (ai s' _)) (WE.iH rfl ⟨rfl,s',by rw[U];exact Q,rfl,Y⟩)
  obtain⟨i,rfl,f⟩:∃ i,k=i+1/\kH p (n-1)=some i:=by
   rcases V with ⟨h,_⟩|h
   .omega
   exact h
  have e1:((i+1:Nat):Int)-1=(i:Int):=by omega
  obtain⟨ap,an⟩:=Sr f;rw[e1];refine WC.skip<|WE.then<|sr<|yy (Y0.hP eN rfl (g _ _ _ hb)) rfl<|yy (Y0.sub rfl rfl) rfl ?_
  rw[am];refine sg rfl rfl<|nx<|WC.uV (X:=Nat) (λm=>[(0,.func (.yield O) #[] #[]),(1,.pointer (some ⟨b,0,none⟩)),(3,.pointer (some ⟨t,0,none⟩)),(5,.int .i64 (i:Int)),(6,.int .i64 (m:Int))])
   (λm=>m<=n-1/\vX p (Ε p (i:Int)) (n-1)=m) (λ_=>St w0 G0 P ((9003,some ⟨t,.cells (lS p) 71 (0,0),0⟩)::y s')) ?_ ?_
  .refine WC.block<|WC.gX (X:=Nat) (λm=>[(0,.func (.yield O) #[] #[]),(1,.pointer (some ⟨b,0,none⟩)),(3,.pointer (some ⟨t,0,none⟩)),(5,.int .i64 (i:Int)),(6,.int .i64 (m:Int))])
    (λm=>i+1<=m/\m<=n-1/\vX p (Ε p (i:Int)) (n-1)=vX p (Ε p (i:Int)) m) (λ_=>St w0 G0 P ((9003,some ⟨t,.cells (lS p) 71 (0,0),0⟩)::y s')) (λm=>m) (n-1) (fc rfl (fc rfl (fc rfl (fc rfl (fc rfl fn))))) ⟨by omega,Ĉ _,rfl⟩ (λw d=>d) ?_
   rintro m ⟨ao,hm,r⟩;obtain⟨m,rfl⟩:∃ q,m=q+1:=⟨m-1,by omega⟩;have e3:i64.wrap (((m+1:Nat):Int)-1)=(m:Int):=by rw[ĩ];omega
   refine WC.seq ?_;refine è ?_;intro _;refine cn (λ_ a=>Y0.ju underlying71 jS rfl rfl ⟨by omega,by omega⟩)<|cn (λ_ a=>Y0.Ò 9003 eN rfl rfl (vD p (show m+1<8 by omega))) ?_
   refine è ?_;refine cn (λ_ a=>Y0.ju underlying71 jS rfl rfl ⟨by omega,by omega⟩)<|cn (λ_ a=>Y0.Ò 9003 eN rfl rfl (vD p (show i<8 by omega))) ?_
   refine è ?_;refine WC.eC (p:=Ε p ((m+1:Nat):Int)<Ε p (i:Int)) rfl (λu=>?_) (λu=>?_)
   .have D:vX p (Ε p (i:Int)) (m+1)=vX p (Ε p (i:Int)) m:=by show(if _ then _ else _)=_;rw[ą u]
    have aq:i+1≠m+1:=λe=>by rw[<- e]at u;omega
    refine WC.skip<|WE.then<|WC.block<|WC.region<|mv rfl rfl<|yy (Y0.sub rfl rfl) rfl ?_
    rw[e3];exact sg rfl rfl<|WL.nil<|WE.inBlock<|WE.gH (x:=m+1) m ⟨by omega,by omega,by rw[r,D]⟩ (fc rfl (fc rfl (fc rfl (fc rfl (fc rfl fn))))) (λw d=>d) (Ũ m)
   have D:vX p (Ε p (i:Int)) (m+1)=m+1:=by show(if _ then _ else _)=_;rw[ā u]
   exact WC.exit<|WE.å<|WE.å<|WE.Í<|WE.oQ (m+1) ⟨hm,by rw[r,D]⟩ (fc rfl (fc rfl (fc rfl (fc rfl (fc rfl fn))))) (λw d=>d)
  rintro m ⟨hm,r⟩;have e4:i64.wrap ((i:Int)+1)=((i+1:Nat):Int):=by rw[ĩ];omega
  have F:(Β n)[j+1]? = some (oV (yd p i m) (i+1) (n-(i+1)) ((n-(i+1)) / 2)):=by rw[S];unfold n0;rw[f];dsimp only;rw[r]
  refine WC.seq<|WC.drawn [false,true,false,false,false,false,false,false,false] eL (by kernel_rfl) (λad=>?_)
  refine è ?_;refine cn (λ_ a=>Y0.ju underlying71 jS rfl rfl ⟨by omega,by omega⟩)<|cn (λ_ a=>Y0.Ò 9003 eN rfl rfl (vD p (show m<8 by omega))) ?_
  refine è ?_;refine cn (λ_ a=>Y0.ju underlying71 jS rfl rfl ⟨by omega,by omega⟩)<|cn (λ_ a=>Y0.Ò 9003 eN rfl rfl (vD p (show i<8 by omega)))<|cn (λ_ a=>Y0.ju underlying71 jS rfl rfl ⟨by omega,by omega⟩)<|γ.mW ad ?_
  refine WL.fL 9003 (lS (ζ p i (Ε p (m:Int)))) Zh jS rfl rfl rfl (by rw[Zy];omega) rfl (vx _ _ _ _ _) ?_;refine yy (Y0.ju underlying71 jS rfl rfl ⟨by omega,by omega⟩) rfl ?_;refine WL.fL 9003 (lS (yd p i m)) Zh jS rfl rfl rfl (by rw[Zy];omega) rfl (vx _ _ _ _ _) ?_;refine WL.nil<|WE.nx<|WE.then<|WC.region<|mv rfl rfl<|yy (Y0.eq (Y0.add rfl rfl) (đ (Value.int .i64) e4)) rfl<|yy (Y0.hP eN rfl (g _ _ _ hb)) rfl<|yy (Y0.C9 underlying71 jS rfl rfl rfl (show i+1<8 by omega) (show i+1<=n by omega) (show n<=8 by omega)) rfl ?_
  refine WL.jX Zh rfl (YC.of H3 rfl) (Zvl t (i+1) (n-(i+1)) (8-(i+1)) (yd p i m) (by omega)) rfl trivial (lc rfl ln) aa (λv G2 L2 B l=>?_);obtain⟨rfl,rfl⟩:=l;refine WL.nil<|WE.inBlock<|WE.gH (x:=(j,p,s,G)) (j+1,_,s',G2) ⟨F,Q,Mem.le_trans g B,E _ _ _ B Y⟩ (fc rfl (fc rfl (fc rfl fn))) (λw d=>d.weaken (λq z hq=>?_)) (by show(Β n).length-(j+1)<(Β n).length-j;omega)
  simp only[Lo.gn,Ġ,ő,ĸ,ļ,Lo.Zp]at hq ⊢;split at hq
  .rename_i e;rw[ą e];exact hq
  rename_i e;simp only[ā e];exact hq
abbrev r5(c:Zb)(q:ŀ Addr×Nat×ŀ Addr×Nat):Ŀ Value:=[.int .i64 c.n,.slice q.1 c.eqs.length q.2.1,.slice q.2.2.1 c.δ.length q.2.2.2]
abbrev wD:=Zb×(ŀ Addr×Nat×ŀ Addr×Nat)×(Fin 8->Int)×Ĳ
theorem PA(S:Zb)(O:ŀ Addr)(L:Nat)(D:ŀ Addr)(C:Nat)(r:Zb×(Fin 8->Int))(hr:(Ek S).Α r):Cr 31 #[.agg ([.int .i64 S.n,.slice O S.eqs.length L,.slice D S.δ.length C]).toArray] (λG=>Η RP G (.slice O S.eqs.length L) S.eqs/\Η RP G (.slice D S.δ.length C) S.δ)
  (λG v=>∃ W V R Q,v=.tuple #[.agg ([.int .i64 r.1.n,.slice W r.1.eqs.length V,.slice R r.1.δ.length Q]).toArray,.agg (õ (Value.int .i64) 8 r.2).toArray]/\Η RP G (.slice W r.1.eqs.length V) r.1.eqs/\Η RP G (.slice R r.1.δ.length Q) r.1.δ):=by
 obtain⟨⟨bh,bi⟩,aK,aA,hr⟩:=hr
 replace hr:_=r:=hr
 subst hr
 obtain⟨n,hn⟩:∃ n:Nat,S.n=n:=⟨S.n.toNat,by omega⟩
 rw[hn,Ē]at aA
 refine eO.sa (args:=[_]) (N:=45) func31 rfl rfl rfl (λw0 G0 aV aM=>?_)
 obtain⟨ax,ak⟩:=aM
 refine sr<|WL.box 1 Zh rfl rfl (λb1=>?_)
 refine WL.alloc 2 Zh rB rfl (λb2=>WL.alloc 3 Zh u5 rfl (λb3=>nr<|WL.alloc 4 Zh rB rfl (λb4=>nr<|WL.alloc 5 Zh u5 rfl (λb5=>nr<|WL.alloc 6 Zh z9 rfl (λb6=>?_)))))
 refine WL.fL 6 #[.string ByteArray.empty] Zh yf rfl rfl rfl aaS rfl rfl ?_
 refine nx<|WC.seq<|sr<|yy (Y0.Gl rfl) rfl<|yy (Y0.Ò 1 eN rfl rfl rfl) rfl ?_
 refine WL.call Zh rfl (YC.of X9 rfl) (Zyb S.n) rfl trivial (λv G1 aB X=>?_)
 obtain⟨bn,rfl,aL⟩:=X
 rw[hn]at aL
 refine nx ?_
 refine WC.n2 (t:=14) (f:=135) rfl H2 (λac d lp rec ha a9 aY ba aZ has aX=>?_)
 let Lc:wD->Lo:=λs=>[(8001,some ⟨lp,.loop rec,0⟩),(8002,some ⟨d,.deferred (some []),0⟩),(1,some ⟨b1,.cells ([.int .i64 S.n,.slice O S.eqs.length L,.slice D S.δ.length C]:Ŀ Value).toArray 48 (0,0),0⟩),(2,some ⟨b2,.cells (r5 ⟨0,[],[]⟩ (none,0,none,0)).toArray 48 (0,0),0⟩),(3,some ⟨b3,.cells (lS λ_=>0) 71 (0,0),0⟩),
  (4,some ⟨b4,.cells (r5 s.1 s.2.1).toArray 48 (0,0),0⟩),(5,some ⟨b5,.cells (lS s.2.2.1) 71 (0,0),0⟩),(6,some ⟨b6,.cells #[.string s.2.2.2] 9 (0,0),0⟩)]
 refine⟨_,Lc (⟨0,[],[]⟩,(none,0,none,0),λ_=>0,ByteArray.empty),_,lc rfl (lc rfl (lc rfl (lc rfl (lc rfl (lc rfl (lc rfl (lc rfl ln))))))),λi _=>by rw[aV];rfl,
  ZwP bn n (by omega) (by omega) lp (λj s=>(nd S ((Β n).drop j) (s.1,s.2.2)).Α aK) Lc (λs G=>Η RP G (.slice O S.eqs.length L) S.eqs/\Η RP G (.slice D S.δ.length C) S.δ/\Η RP G (.slice s.2.1.1 s.1.eqs.length s.2.1.2.1) s.1.eqs/\Η RP G (.slice s.2.1.2.2.1 s.1.δ.length s.2.1.2.2.2) s.1.δ)
   (λs i hi=>?_) (λG G' s m ⟨q1,q2,q3,q4⟩=>⟨q1.mono m,q2.mono m,q3.mono m,q4.mono m⟩) (λj u s hj hI=>?_) _ (by rw[abc];exact aA) ?_,⟨aL,ax.mono aB,ak.mono aB,Η.nil _ _,Η.nil _ _⟩,λG' L' v m X=>?_⟩
 .simp only[Lc]
  rw[Lo.Zp,ā (by omega),Lo.Zp,ā (by omega),Lo.Zp,ā (by omega),Lo.Zp,ā (by omega),Lo.Zp,ā (by omega),Lo.Zp,ā (by omega),Lo.Zp,ā (by omega),Lo.Zp,ā (by omega)];rfl
 .refine qx.Tc (N:=45) rfl a9 aY aZ (by rw[ba];exact ha.round (by decide)) (λbl G bg hG=>?_)
  obtain⟨⟨ai,aj,aF,aG⟩,p,hp,rfl⟩:=hG
  obtain⟨c,q,f,key⟩:=s
  dsimp only at hI aF aG ⊢
  rw[ĭ hj,show(Β n)[j]=p by rw[Ą hj]at hp;exact Ů hp]at hI
  obtain⟨ay,⟨ag,aQ,ah,aR,a,aS,hr⟩,aw⟩:=hI
  refine Gp has ?_
  refine fZ.region Rl rfl (WL.alloc 7 Zh u5 rfl (λb7=>?_))
  refine WL.fp 7 Zh oc rfl rfl rfl (Zy _ _ _) (Zy _ _ _) (λu Z=>y3 _ _ _ (λ_=>rfl) u (by simpa using Z))<|WL.nil (λa1 v1 aW aP=>⟨_,_,_,aW,aP,rfl,?_⟩)
  refine Gp aX ?_
  refine fZ.block<|fZ.seq ?_
  refine fZ.drawn (AG (xa xf)) rfl [false,false,false,false,false,false,false,false,false,false,false,false,false,true,false] eL (by kernel_rfl) (λhb=>?_)
  refine cn (λ_ m=>Y0.Gl rfl)<|cn (λ_ m=>Y0.Ò 1 eN rfl rfl rfl)<|cn (λ_ m=>Y0.Mp rfl)<|cn (λ_ m=>Y0.Ò 1 jR rfl rfl rfl)<|cn (λ_ m=>Y0.eT 7 lD rfl rfl (Zy _ _ _)) ?_
  refine γ.pF (post:=λG v=>∃ I H,v=.slice I ag.length H/\Η (Rp.sl Zk) G (.slice I ag.length H) ag) (λ_=>Zh) (λ_ _=>YC.of OT rfl) (Ja _ _ _ _ _ aQ) rfl (λG' m=>(ai.mono m)) (λv G1 G2 m h=>?_) ?_
  .obtain⟨I,H,rfl,ad⟩:=h
   exact⟨_,_,rfl,ad.mono m⟩
  refine cu (λ_ _ m=>Y0.Ml rfl)<|cu (λ_ _ m=>Y0.Ò 1 jR rfl rfl rfl)<|cu (λ_ _ m=>Y0.eT 7 lD rfl rfl (Zy _ _ _)) ?_
  refine γ.pF (post:=λG v=>∃ K J,v=.slice K ah.length J/\Η (Rp.sl Zk) G (.slice K ah.length J) ah) (λ_=>Zh) (λ_ _=>YC.of OT rfl) (Ja _ _ _ _ _ aR) rfl (λG' m=>(aj.mono m)) (λv G1 G2 m h=>?_) ?_
  .obtain⟨K,J,rfl,ae⟩:=h
   exact⟨_,_,rfl,ae.mono m⟩
  refine γ.rW (f:=23) (φ:=λG v=>∃ l k g e,v=.tuple #[.agg ([.int .i64 a.1.n,.slice l a.1.eqs.length k,.slice g a.1.δ.length e]).toArray,.int .i64 a.2]/\Η (Rp.sl Zk) G (.slice l a.1.eqs.length k) a.1.eqs/\Η (Rp.sl Zk) G (.slice g a.1.δ.length e) a.1.δ) (λ_=>Zh) (λv G1 G2 m h=>?_) (λu G' m Z=>?_) ?_
  .obtain⟨l,k,g,e,rfl,A,y⟩:=h
   exact⟨_,_,_,_,rfl,A.mono m,y.mono m⟩
  .obtain⟨⟨K,J,aI,ae⟩,⟨I,H,aH,ad⟩,_⟩:=(show(λG v=>∃ K J,v=.slice K ah.length J/\Η (Rp.sl Zk) G (.slice K ah.length J) ah) G'.m (u 25)/\(λG v=>∃ I H,v=.slice I ag.length H/\Η (Rp.sl Zk) G (.slice I ag.length H) ag) G'.m (u 21)/\True from Z)
   exact⟨_,_,_,λ_=>YC.of XK rfl,Pr _ _ _ _ _ _ _ _ aS,(by simp only[aI,aH] <;> rfl),⟨ad,ae⟩⟩
  refine γ.ym (φ:=λG v=>∃ p1 E p2 F,v=.tuple #[.agg ([.int .i64 a.1.n,.slice p1 a.1.eqs.length E,.slice p2 a.1.δ.length F]).toArray,.int .i64 a.2]/\Η (Rp.sl Zk) G (.slice p1 a.1.eqs.length E) a.1.eqs/\Η (Rp.sl Zk) G (.slice p2 a.1.δ.length F) a.1.δ) (λ_=>Zh) (λv G1 G2 m h=>?_) (λu G' m Z=>?_) ?_
  .obtain⟨p1,E,p2,F,rfl,al,am⟩:=h
   exact⟨_,_,_,_,rfl,al.mono m,am.mono m⟩
  .obtain⟨⟨l,k,g,e,aJ,A,y⟩,_,_,_⟩:=(show(λG v=>∃ l k g e,v=.tuple #[.agg ([.int .i64 a.1.n,.slice l a.1.eqs.length k,.slice g a.1.δ.length e]).toArray,.int .i64 a.2]/\Η (Rp.sl Zk) G (.slice l a.1.eqs.length k) a.1.eqs/\Η (Rp.sl Zk) G (.slice g a.1.δ.length e) a.1.δ) G'.m (u 26)/\True/\True/\True from Z)
   simp only[ς,aJ]
   exact⟨_,Y0.move rfl,l,k,g,e,rfl,A,y⟩
  refine γ.ym (φ:=λG v=>∃ p3 T p4 U,v=.agg ([.int .i64 a.1.n,.slice p3 a.1.eqs.length T,.slice p4 a.1.δ.length U]).toArray/\Η (Rp.sl Zk) G (.slice p3 a.1.eqs.length T) a.1.eqs/\Η (Rp.sl Zk) G (.slice p4 a.1.δ.length U) a.1.δ) (λ_=>Zh) (λv G1 G2 m h=>?_) (λu G' m Z=>?_) ?_
  .obtain⟨p3,T,p4,U,rfl,an,ao⟩:=h
   exact⟨_,_,_,_,rfl,an.mono m,ao.mono m⟩
  .obtain⟨⟨p1,E,p2,F,aa,al,am⟩,_,_,_,_⟩:=(show(λG v=>∃ p1 E p2 F,v=.tuple #[.agg ([.int .i64 a.1.n,.slice p1 a.1.eqs.length E,.slice p2 a.1.δ.length F]).toArray,.int .i64 a.2]/\Η (Rp.sl Zk) G (.slice p1 a.1.eqs.length E) a.1.eqs/\Η (Rp.sl Zk) G (.slice p2 a.1.δ.length F) a.1.δ) G'.m (u 15)/\True/\True/\True/\True from Z)
   simp only[ς,aa]
   exact⟨_,Y0.extract rfl rfl,p1,E,p2,F,rfl,al,am⟩
  refine γ.pO (c:=.int .i64 a.2) (λ_=>Zh) (λu G' m Z=>?_) ?_
  .obtain⟨_,⟨p1,E,p2,F,aa,al,am⟩,_,_,_,_⟩:=(show True/\(λG v=>∃ p1 E p2 F,v=.tuple #[.agg ([.int .i64 a.1.n,.slice p1 a.1.eqs.length E,.slice p2 a.1.δ.length F]).toArray,.int .i64 a.2]/\Η (Rp.sl Zk) G (.slice p1 a.1.eqs.length E) a.1.eqs/\Η (Rp.sl Zk) G (.slice p2 a.1.δ.length F) a.1.δ) G'.m (u 15)/\True/\True/\True/\True from Z)
   simp only[ς,aa]
   exact Y0.extract rfl rfl
  refine γ.alloc (λ_=>Zh) rB ?_
  refine γ.nt (λbm bf be bd bc bb X1 B az av au ar aq ap=>?_)
  obtain⟨b8,rfl,aU⟩:=az
  obtain⟨p3,T,p4,U,rfl,an,ao⟩:=av
  obtain⟨p1,E,p2,F,rfl,al,am⟩:=au
  obtain⟨l,k,g,e,rfl,A,y⟩:=ar
  obtain⟨K,J,rfl,ae⟩:=aq
  obtain⟨I,H,rfl,ad⟩:=ap
  refine WL.mI aU (WL.DA (show WL _ _ _ _ _ _ (St _ _ X1.m _)from ?_))
  refine WL.fp 8 Zh qU rfl rfl rfl rfl rfl (Ć.1 rfl) ?_
  refine sg rfl rfl<|WL.nil ?_
  refine WE.nx ?_
  refine fZ.then<|fZ.seq<|fZ.seq<|fZ.region (AG (AG (xa xf))) rfl<|mv rfl rfl<|yy (Y0.neq rfl rfl) rfl<|WL.nil<|fZ.then ?_
  refine fZ.eC (p:=¬ a.2=0) rfl (λaD=>?_) (λaD=>?_)
  .replace hr:=hr.pos aD
   replace hr:_=ay:=hr
   subst hr
   refine fZ.exit<|WE.å<|WE.Í ?_
   exact λa2 w2 _ Y=>⟨_,_,Lc (c,q,f,key),Y,rfl,lc rfl (lc rfl (lc rfl (lc rfl (lc rfl (lc rfl (lc rfl (lc rfl ln))))))),rfl,(c,q,f,key),aw,rfl,ai.mono B,aj.mono B,aF.mono B,aG.mono B⟩
  replace hr:=hr.neg aD
  obtain⟨ab,aT,hr⟩:=hr
  refine fZ.skip<|fZ.then<|fZ.seq<|fZ.region (AG (xa xf)) rfl<|yy (Y0.eT 8 lC rfl rfl rfl) rfl ?_
  refine WL.gS Zh rfl (YC.of yp rfl) (yx _ _ _ _ _ _ aT) rfl (⟨an,ao⟩) ?_
  refine sg rfl rfl<|WL.nil<|fZ.then<|fZ.seq<|fZ.region (AG (xa xf)) rfl<|yy (Y0.Ò 6 C7 rfl rfl rfl) rfl ?_
  refine WL.lI (p:=key=ByteArray.empty) Zh (Y0.uz underlying9 rfl rfl) rfl (λaC=>?_) (λaC=>?_)
  .replace hr:=hr.pos aC
   replace hr:_=ay:=hr
   subst hr
   refine mv rfl rfl<|sf rfl rfl rfl<|sf rfl rfl rfl<|sf rfl rfl rfl<|yy (Y0.pY rfl rfl) rfl<|WL.nil<|fZ.then ?_
   refine fZ.cond (b:=true) rfl (λ_=>?_) (λh=>by cases h)
   refine fZ.kL (xa xf) rfl [(7,some ⟨b7,.cells (lS p) 71 (0,0),0⟩)] (lc rfl ln) [false,true,true] eL (by kernel_rfl) (λhb=>?_)
   refine cn (λ_ m=>Y0.eT 8 lC rfl rfl rfl) ?_
   refine γ.iw Zh (Y0.eT 7 lD rfl rfl (Zy _ _ _))<|γ.iw Zh (Y0.move rfl) ?_
   refine γ.jE hb<|fz.one (λw P=>P.weaken (lc rfl ln)) ?_
   refine WL.fp 4 Zh qU rfl rfl rfl rfl rfl (Ć.1 rfl)<|fz.back<|fz.one (λw P=>P.weaken (lc rfl ln)) ?_
   refine WL.fp 5 Zh oc rfl rfl rfl (Zy _ _ _) (Zy _ _ _) (λu Z=>y3 _ _ _ (λ_=>rfl) u (by simpa using Z))<|fz.back ?_
   refine fz.fL (λw P=>P.weaken (lc rfl ln)) 6 #[.string ab] Zh yf rfl rfl rfl aaS rfl rfl<|fz.nil (λw P=>P.weaken (lc rfl ln))<|WE.nx<|WE.inBlock ?_
   exact λa2 w2 _ Y=>⟨_,_,Lc (a.1,(p3,T,p4,U),p,ab),Y,rfl,lc rfl (lc rfl (lc rfl (lc rfl (lc rfl (lc rfl (lc rfl (lc rfl ln))))))),rfl,(a.1,(p3,T,p4,U),p,ab),aw,rfl,ai.mono B,aj.mono B,an,ao⟩
  replace hr:=hr.neg aC
  refine mv rfl rfl<|gy rfl rfl (Y0.move rfl) rfl<|gy rfl rfl (Y0.Ò 6 C7 rfl rfl rfl) rfl<|gy rfl rfl (Y0.CJ rfl rfl) rfl<|yy (Y0.eW rfl rfl) rfl<|WL.nil<|fZ.then ?_
  refine fZ.cond (b:=Op.bytesLess ab.toList key.toList) rfl (λaE=>?_) (λaE=>?_)
  .replace hr:=hr.pos aE
   replace hr:_=ay:=hr
   subst hr
   refine fZ.kL (xa xf) rfl [(7,some ⟨b7,.cells (lS p) 71 (0,0),0⟩)] (lc rfl ln) [false,true,true] eL (by kernel_rfl) (λhb=>?_)
   refine cn (λ_ m=>Y0.eT 8 lC rfl rfl rfl) ?_
   refine γ.iw Zh (Y0.eT 7 lD rfl rfl (Zy _ _ _))<|γ.iw Zh (Y0.move rfl) ?_
   refine γ.jE hb<|fz.one (λw P=>P.weaken (lc rfl ln)) ?_
   refine WL.fp 4 Zh qU rfl rfl rfl rfl rfl (Ć.1 rfl)<|fz.back<|fz.one (λw P=>P.weaken (lc rfl ln)) ?_
   refine WL.fp 5 Zh oc rfl rfl rfl (Zy _ _ _) (Zy _ _ _) (λu Z=>y3 _ _ _ (λ_=>rfl) u (by simpa using Z))<|fz.back ?_
   refine fz.fL (λw P=>P.weaken (lc rfl ln)) 6 #[.string ab] Zh yf rfl rfl rfl aaS rfl rfl<|fz.nil (λw P=>P.weaken (lc rfl ln))<|WE.nx<|WE.inBlock ?_
   exact λa2 w2 _ Y=>⟨_,_,Lc (a.1,(p3,T,p4,U),p,ab),Y,rfl,lc rfl (lc rfl (lc rfl (lc rfl (lc rfl (lc rfl (lc rfl (lc rfl ln))))))),rfl,(a.1,(p3,T,p4,U),p,ab),aw,rfl,ai.mono B,aj.mono B,an,ao⟩
  replace hr:=hr.neg (ź.1 aE)
  replace hr:_=ay:=hr
  subst hr
  refine fZ.skip<|WE.inBlock ?_
  exact λa2 w2 _ Y=>⟨_,_,Lc (c,q,f,key),Y,rfl,lc rfl (lc rfl (lc rfl (lc rfl (lc rfl (lc rfl (lc rfl (lc rfl ln))))))),rfl,(c,q,f,key),aw,rfl,ai.mono B,aj.mono B,aF.mono B,aG.mono B⟩
 .intro q hq x hx
  simp only[Lc,Ď,ĝ,ţ]at hq
  rcases hq with rfl|rfl|rfl|rfl|rfl|rfl|rfl|rfl <;> cases hx <;> rfl
 obtain⟨rfl,⟨c,q,f,key⟩,hI,rfl,bj,bk,aN,aO⟩:=X
 dsimp only at hI aN aO
 rw[aag]at hI
 replace hI:(c,f,key)=aK:=hI
 subst hI
 refine⟨rfl,mG.seq<|mG.kL [(5,some ⟨b5,.cells (lS f) 71 (0,0),0⟩)] (lc rfl ln) [false,true] eL (by kernel_rfl) (λhb=>?_)⟩
 refine cn (λ_ m=>Y0.eT 4 lC rfl rfl rfl) ?_
 refine γ.iw Zh (Y0.eT 5 lD rfl rfl (Zy _ _ _)) ?_
 refine γ.jE hb<|fz.one (λw P=>P.weaken (lc rfl ln)) ?_
 refine WL.fp 2 Zh qU rfl rfl rfl rfl rfl (Ć.1 rfl)<|fz.back<|fz.one (λw P=>P.weaken (lc rfl ln)) ?_
 refine WL.fp 3 Zh oc rfl rfl rfl (Zy _ _ _) (Zy _ _ _) (λu Z=>y3 _ _ _ (λ_=>rfl) u (by simpa using Z))<|fz.back<|fz.nil (λw P=>P.weaken (lc rfl ln))<|WE.nx<|mG.then<|mG.ret ?_
 refine WE.C4 (rvs:=[.cell 2 48,.cell 3 71]) [] [.agg (r5 c q).toArray,.agg (lS f)] rfl rfl rfl (λi rv v e1 e2=>?_) ln ⟨_,_,_,_,rfl,aN,aO⟩
 match i with
 | 0=>simp at e1 e2;subst e1 e2;exact RV.pG (i:=2) lC rfl rfl rfl
 | 1=>simp at e1 e2;subst e1 e2;exact RV.pG (i:=3) lD rfl rfl (Zy _ _ _)
 | i+2=>simp at e1
theorem VH(n:Int):ox 168 (λ_=>[.int .i64 n]) (λ_=>True) (kx n):=by
 by_cases h:0<=n
 .rw[show kx n=lq n from ą h];exact S5 n h
 rw[show kx n=_ from ā h];intro j xs s d;refine è ?_;intro w0 G0 _ e a _;refine WC.eC (p:=(0:Int)<=n) rfl (λf=>absurd f h) (λf=>?_);refine è ?_;refine WL.ö (S':=St w0 G0 G0 (gY j s xs.length++[])) (λw i=>i) ?_;refine ZV [] (wZ _ (pd _)) Zh rfl (YC.of ow rfl) d a trivial (by rw[e];exact qy a) (λs' G' g c=>?_);exact WL.nil<|WE.iX<|WE.iH rfl ⟨rfl,s',rfl,c⟩
theorem Zz8(m:Fin 8->Int):∀ k j,k<=j->(fW m k).length<=(fW m j).length:=λk j h=>by
 induction j with
 | zero=>rw[show k=0 by omega];exact Ĉ _
 | succ j a=>
  by_cases e:k=j+1
  .rw[e];exact Ĉ _
  refine Ň (a (by omega)) ?_;show _<=(fW m j++_).length;rw[Ā];omega
theorem ZyX{a n:Nat}{s:ŀ Addr×Nat×ŀ Ow}{x:ŀ Ow}:Lo.sub (gY a s n++[]) ((3,x)::gY a s n):=
 show Lo.sub [(6000,some ⟨a,.cells #[.slice s.1 n s.2.1] 212 (0,0),0⟩),(5000,s.2.2)] _ from lc rfl (lc rfl ln)
theorem ZvQ(m:Fin 8->Int):ox 244 (λ_=>[.agg (õ (Value.int .i64) 8 m).toArray]) (λ_=>True) (fW m 8):=by
 intro h xs s e;refine eO.enter (args:=[_,_]) (N:=14) func244 rfl rfl rfl (λw0 G0 i f=>?_);obtain⟨a,_⟩:=f;have v:w0.L.zero:=by rw[i];exact qy a
 rw[Ā]at e;refine sr<|WL.box 3 Zh rfl rfl (λA=>nx ?_)
 refine sr<|yy (Y0.eT 3 lD rfl rfl (Zy _ _ _)) rfl<|mv rfl rfl<|nx<|WC.block ?_
 refine WC.ö (S':=St w0 G0 G0 (gY h s xs.length++[])) (λw d=>d.weaken ZyX) ?_;refine WC.gX (X:=Nat×(ŀ Addr×Nat×ŀ Ow)×Mem) (λc=>match c with|⟨k,_,_⟩=>[(0,.pointer (some ⟨h,0,none⟩)),(6,.agg (õ (Value.int .i64) 8 m).toArray),(7,.int .i64 (k:Int))])
  (λc=>match c with|⟨k,s',G⟩=>k<=8/\qX G s' (xs++fW m k))
  (λc=>match c with|⟨k,s',G⟩=>St w0 G0 G (gY h s' (xs++fW m k).length)) (λc=>8-c.1) ⟨0,s,G0⟩ (fc rfl (fc rfl (fc rfl fn))) ⟨by omega,by rw[show fW m 0=[]from rfl,ę];exact a⟩ (λw d=>by show St _ _ _ (gY h s (xs++fW m 0).length) _;rw[show fW m 0=[]from rfl,ę];exact d) ?_
 rintro⟨k,s',G⟩ ⟨r,hr⟩;dsimp only at r hr ⊢;refine sr ?_;refine è ?_;intro hr;refine WC.eC (p:=(k:Int)<8) rfl (λq=>?_) (λq=>?_)
 .have u:i64.wrap ((k:Int)+1)=((k+1:Nat):Int):=by rw[ĩ];omega
  have hi:(0:Int)<=(k:Int)/\(k:Int)<(8:Nat):=⟨by omega,by omega⟩;have B:=Zz8 m (k+1) 8 (by omega);have t:(fW m (k+1)).length=(fW m k).length+(kx (Ε m (k:Int))).length:=Ā;refine WC.skip<|WE.then<|WC.seq<|WC.block<|sr<|yy (Y0.index underlying71 eN jS rfl rfl hi (tv _ _ _ hi)) rfl ?_
  refine Ξ ?_;intro hr;refine WL.ö (S':=St w0 G0 G (gY h s' (xs++fW m k).length++[])) (λw d=>d) ?_;refine ZV [] (VH _) Zh rfl (YC.of wF rfl) (by rw[Ā,Ā];omega) hr trivial v (λy n l g=>?_);refine WL.nil<|WE.inBlock<|WE.then<|WC.region<|yy (Y0.add rfl rfl) rfl ?_
  rw[u];rw[Đ xs]at g ⊢;exact mv rfl rfl<|WL.nil<|WE.gH (x:=(k,s',G)) (k+1,y,n) ⟨by omega,g⟩ (fc rfl (fc rfl (fc rfl fn))) (λw d=>d) (by show 8-(k+1)<8-k;omega)
 have j:k=8:=by omega
 subst j;exact WC.exit<|WE.å<|WE.å<|WE.Í<|WE.iX<|WE.iH rfl ⟨rfl,s',rfl,hr⟩
theorem Y5(l:Ŀ (Fin 8->Int))(p:ŀ Addr)(c:Nat):ox 243 (λq=>[.slice p l.length c,.func (.func 244) #[.pointer (some ⟨q,0,none⟩)] #[]]) (λG=>Η (Rp.vec .i64 8) G (.slice p l.length c) l) (jz l):=by
 intro q xs s a;refine eO.enter (args:=[_,_,_]) (N:=23) func243 rfl rfl rfl (λw0 G0 A v=>?_);obtain⟨e,n⟩:=v;have F:w0.L.zero:=by rw[A];exact qy e
 have O:l.length<=9223372036854775807:=by obtain⟨_,_,_,_,h,_⟩:=n;omega
 unfold jz at a ⊢;generalize hH:fw (u64.wrap (l.length:Int))=H at a ⊢;rw[Ā,Ā]at a;refine sr<|mv rfl rfl<|mv rfl rfl<|yy (Y0.mo underlying51 rfl) rfl<|yy (Y0.conv underlying3 underlying250 rfl) rfl ?_
 refine WL.ö (S':=St w0 G0 G0 (gY q s xs.length++[])) (λw j=>j) ?_;refine ZV [] (wZ _ (pd _)) Zh rfl (YC.of ow rfl) (by rw[hH,Ā];omega) e trivial F (λI J r d=>?_);rw[hH]at d ⊢;refine nx<|sr<|mv rfl rfl<|yy (Y0.mo underlying51 rfl) rfl<|mv rfl rfl<|nx<|WC.block ?_
 refine WC.gX (X:=Nat×(ŀ Addr×Nat×ŀ Ow)×Mem) (λf=>match f with|⟨k,_,_⟩=>[(0,.pointer (some ⟨q,0,none⟩)),(2,.func (.func 244) #[.pointer (some ⟨q,0,none⟩)] #[]),(13,.slice p l.length c),(14,.int .i64 (l.length:Int)),(15,.int .i64 (k:Int))])
  (λf=>match f with|⟨k,s',G⟩=>k<=l.length/\Mem.le G0 G/\qX G s' (xs++H++(l.take k).flatMap λm=>fW m 8))
  (λf=>match f with|⟨k,s',G⟩=>St w0 G0 G (gY q s' (xs++H++(l.take k).flatMap λm=>fW m 8).length)) (λf=>l.length-f.1) ⟨0,I,J⟩ (fc rfl (fc rfl (fc rfl (fc rfl (fc rfl fn))))) ⟨Ĝ _,r,by rw[ř,ű,ę];exact d⟩ (λw j=>by show St _ _ _ (gY q I (xs++H++(l.take 0).flatMap λm=>fW m 8).length) _;rw[ř,ű,ę];exact j) ?_
 rintro⟨k,s',G⟩ ⟨D,i,hr⟩;refine è ?_;intro hr;refine WC.eC (p:=(k:Int)<(l.length:Int)) rfl (λL=>?_) (λL=>?_)
 .have g:k<l.length:=by omega
  have E:(0:Int)<=(k:Int)/\l[(k:Int).toNat]? = some l[k]:=⟨by omega,by simp[g]⟩;have Q:i64.wrap ((k:Int)+1)=((k+1:Nat):Int):=by rw[ĩ];omega
  have B:=L9 (λm=>fW m 8) l (k+1);rw[yP (λm=>fW m 8) g,Ā]at B;refine WC.skip<|WE.then<|WC.seq<|WC.block<|sr<|yy (Y0.lN underlying51 oc (n.mono i) rfl rfl E) rfl<|yy (Y0.jw _ lD rfl (Zy _ _ _) (AtK.vec (Η.at (n.mono i) E))) rfl ?_
  refine WL.alloc 7 Zh u5 rfl (λS=>?_);refine WL.fp 7 Zh oc rfl rfl rfl (Zy _ _ _) (Zy _ _ _) (λu P=>y3 _ _ _ (λ_=>rfl) u (by simpa using P)) ?_;refine WL.ö (λw j=>j.weaken UI) ?_;refine è ?_;intro hr;refine ZV [(7,_)] (ZvQ l[k]) Zh rfl (YC.CP Iy rfl rfl) (by simp only[Ā];omega) hr trivial F (λR K t y=>?_);refine WL.nil<|WE.inBlock<|WE.then<|WC.region<|yy (Y0.add rfl rfl) rfl ?_
  rw[Q];rw[Đ (xs++H),<- yP (λm=>fW m 8) g]at y ⊢;exact mv rfl rfl<|WL.nil<|WE.gH (x:=(k,s',G)) (k+1,R,K) ⟨by omega,Mem.le_trans i t,y⟩ (fc rfl (fc rfl (fc rfl (fc rfl (fc rfl fn))))) (λw j=>j.weaken TQ) (by show l.length-(k+1)<l.length-k;omega)
 have C:k=l.length:=by omega
 subst C;rw[Ĥ,Đ]at hr ⊢;exact WC.exit<|WE.å<|WE.å<|WE.Í<|WE.iX<|WE.iH rfl ⟨rfl,s',rfl,hr⟩
theorem ZyV(l:Ŀ (Fin 8->Int))(p:ŀ Addr)(c:Nat):ox 170 (λ_=>[.slice p l.length c]) (λG=>Η (Rp.vec .i64 8) G (.slice p l.length c) l) (jz l):=by
 intro j xs s e;refine Ξ ?_;intro w0 G0 _ f a g;refine WL.ö (S':=St w0 G0 G0 (gY j s xs.length++[])) (λw i=>i) ?_;refine ZV [] (Y5 l p c) Zh rfl (YC.of Ix rfl) e a g (by rw[f];exact qy a) (λs' G' h d=>?_);exact WL.nil<|WE.iX<|WE.iH rfl ⟨rfl,s',rfl,d⟩
theorem Kd(q:Zc)(p1:ŀ Addr)(p:Nat)(p2:ŀ Addr)(s:Nat)(r:Ĳ)(hr:(AQ q).Α r):Cr 94 #[.agg ([.int .i64 q.kind,.slice p1 q.p.length p,.slice p2 q.o.length s]).toArray] (λG=>Η Zk G (.slice p1 q.p.length p) q.p/\Η (Rp.vec .i64 8) G (.slice p2 q.o.length s) q.o) (λG v=>v=.string r):=by
 refine iJ.enter (args:=[_]) (N:=16) func94 rfl rfl rfl (λw0 G0 l m=>?_);obtain⟨I,h2⟩:=m;obtain⟨e,hr⟩:=hr;replace hr:_=r:=hr;subst hr;unfold oG at e ⊢;simp only[Ā]at e;have C:∀ i,w0.L.get i=none:=λi=>by rw[l];rfl
 have B:w0.L.zero:=by rw[l];intro q J;cases J
 refine sr<|WL.box 1 Zh rfl rfl (λH=>?_)
 refine sg rfl rfl<|nx ?_
 refine WC.gx 1 rfl (C _) (λt c y _=>?_);have x:∀ j u,([.int .i64 q.kind,.slice p1 q.p.length p,.slice p2 q.o.length s]:Ŀ Value)[j]? = some u->t H (0+j)=some u:=λj u h=>by rw[ō];exact y j u (by simpa[Value.cells]using h)
 refine WC.ö (S':=St w0 G0 t []) (λw A=>A.weaken ln) ?_;refine sr<|WL.alloc 6000 Zh z212 rfl (λF=>?_)
 refine WL.ö (S':=St w0 G0 t (gY F (none,0,none) ([]:Ŀ Int).length++[])) (λw A=>A.weaken (show Lo.sub [(6000,some ⟨F,.cells #[.slice none 0 0] 212 (0,0),0⟩),(5000,none)] _ from lc rfl (lw ln))) ?_;refine nx ?_;refine è ?_;refine yy (Y0.hP eN rfl (x 0 _ rfl)) rfl ?_;refine ZV [] (VH q.kind) Zh rfl (YC.of wF rfl) (by simp only[Ā,Ļ];omega) Γ.nil trivial B (λR L a f=>?_);refine è ?_;refine yy (Y0.hP mw rfl (a _ _ _ (x 1 _ rfl))) rfl ?_;refine ZV [] (UH q.p p1 p) Zh rfl (YC.of zS rfl) (by simp only[Ā,Ļ];omega) f ((I.mono c).mono a) B (λS O d g=>?_);refine è ?_;refine yy (Y0.hP sQ rfl (d _ _ _ (a _ _ _ (x 2 _ rfl)))) rfl ?_;refine ZV [] (ZyV q.o p2 s) Zh rfl (YC.of Ie rfl) (by simp only[Ā,Ļ];omega) g ((h2.mono c).mono (Mem.le_trans a d)) B (λT P D k=>?_);refine è ?_;refine WL.jH 5000 k rfl (C _) (λK Q E n _=>?_);refine yy (Y0.kK underlying32 underlying5 underlying9 n rfl) rfl ?_;refine è ?_;exact WE.jQ rfl rfl rfl
instance gt'{c r}:a ((cmp_isNaN_int c)) r (Cr 98 #[i' c] (λG=>True) (λG v=>v=.bool r)):=.mk λhr=>Ζ
instance V5{i c r}:a ((DV i c)) r (Cr 52 #[i' i,i' c] (λG=>True) (λG v=>v=i' r)):=.mk λhr=>Ζ
instance iB'{c r}:a ((Kl c)) r (∀ {g f},Cr 51 #[ε g c f] (λG=>sl (Rp.int .i64) G g f c) (λG v=>v=i' r)):=.mk λhr {g f}=>by refine Ξ ?_;intro o j _ hr _;refine WC.mA hr [3,6,7] [] [3] [] (λ(h:Int)=>⟨h,[(8,i' h)],tr,[]⟩) (λ(_:Unit)=>⟨(.inr ()),[],tr,[]⟩) 0
end Go.Proofs.YtepbagkffgddlaaGreat

