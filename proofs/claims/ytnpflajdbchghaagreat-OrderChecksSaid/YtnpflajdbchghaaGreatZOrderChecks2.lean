/- Parts of the proof of OrderChecks, one behind the other. Conditions: none. -/
import Derived.Tactics
import Derived.Test.YtnpflajdbchghaaGreatZOrderChecks1
set_option linter.unusedSimpArgs false
set_option linter.unusedVariables false
noncomputable section
namespace Go.Proofs.YtnpflajdbchghaaGreat.Ev
open Go
def gOf(ops:Array Oper)(ρ:Env)(o:Oper):Option (Option (Value×Bool)):=
 match o.guard with
 |none=>some none
 |some (g,want)=>match(ops[g]?).bind (·.dst)with
  |none=>none
  |some s=>match ρ s with
   |none=>none
   |some c=>some (some (c,want))
def evP(P:Program)(k:lJ)(w:World)(K:Value->World->Prop):Prop:=
 match k with
 | .val v=>K v w
 | .opt v=>mV v λv=>K v w
 | .pure m=>mV (ai P m) λv=>K v w
 | .read t x=>mV (gi P t x w) λv=>K v w
 | .tc m=>cP P m w K
 | .effU m=>ck P m w λa=>K undef a
 | .call g args=>aa P g args w K
 | .bad=>False
def evG(P:Program)(k:lJ)(c:Value)(want:Bool)(w:World)(K:Value->World->Prop):Prop:=
 match k with
 | .val v=>K (gv c want v) w
 | .opt v=>mV (gd c want v) λv=>K v w
 | .pure m=>mV (gd c want (ai P m)) λv=>K v w
 | .read t x=>mV (gd c want (gi P t x w)) λv=>K v w
 | .tc m=>gE c want (cP P m w) K w
 | .effU m=>gU c want (ck P m w) (λa=>K undef a) w
 | .call g args=>gE c want (aa P g args w) K w
 | .bad=>gE c want (λ_=>False) K w
def sY(P:Program)(g:Option (Option (Value×Bool)))(k:lJ)(w:World)(K:Value->World->Prop):Prop:=
 match g with
 |none=>False
 |some none=>evP P k w K
 |some (some (c,want))=>evG P k c want w K
def evOp(P:Program)(ent:FuncId->Bool)(n:Nat)(ops:Array Oper)(o:Oper)(ρ:Env)(w:World)(K:Env->World->Prop):Prop:=
 sY P (gOf ops ρ o) (sX ent ρ o) w λv a=>K (ij n o.dst v ρ) a
def evOps(P:Program)(ent:FuncId->Bool)(n:Nat)(ops:Array Oper):List Oper->Env->World->(Env->World->Prop)->Prop
 | [],ρ,w,K=>K ρ w
 |o::rest,ρ,w,K=>evOp P ent n ops o ρ w λa b=>evOps P ent n ops rest a b K
section
variable{P:Program}{ent:FuncId->Bool}{n:Nat}{ops:Array Oper}{ρ:Env}{a:Act}{w:World}{o:Oper}
theorem gOf_none(h:gOf ops ρ o=some none):Region.wanted o (yielded ops a.tmps)=true:=by
 unfold gOf at h;cases b:o.guard with
 |none=>simp[Region.wanted,b]
 |some f=>
  obtain⟨g,want⟩:=f;rw[b]at h;simp only at h;cases d:(ops[g]?).bind (·.dst)with
  |none=>rw[d]at h;cases h
  |some s=>
   rw[d]at h;simp only at h;cases e:ρ s with
   |none=>rw[e]at h;cases h
   |some c=>rw[e]at h;cases h
theorem gOf_some{c:Value}{want:Bool}(i:fB n ρ a)(h:gOf ops ρ o=some (some (c,want))):Region.wanted o (yielded ops a.tmps)=yes c want:=by
 unfold gOf at h;cases b:o.guard with
 |none=>rw[b]at h;cases h
 |some j=>
  obtain⟨g,d⟩:=j;rw[b]at h;simp only at h;cases e:(ops[g]?).bind (·.dst)with
  |none=>rw[e]at h;cases h
  |some s=>
   rw[e]at h;simp only at h;cases f:ρ s with
   |none=>rw[f]at h;cases h
   |some l=>
    rw[f]at h;cases h;have k:=i.2.2 s c f;simp only[Region.wanted,b,yielded,e,Option.bind_some,k,yes];cases c<;>simp
theorem evP_sound(l:EntOk P ent)(p:fB n ρ a){K:Value->World->Prop}{next:Act->World->Prop}{Q:Exit->Act->World->Prop}
  (d:∀v f,K v f->next (a.put o.dst v) f) (h:evP P (sX ent ρ o) w K):o.wp P a w next Q:=by
 have c:=opk_is (P:=P) l p o;unfold Oper.wp;unfold evP at h;cases b:sX ent ρ o with
 |val v=>
  rw[b]at h c;rw[c,Sem.run_pure];exact d _ _ h
 |opt v=>
  rw[b]at h c;obtain⟨u,i,j⟩:=gH.1 h;rw[c u i w];exact d _ _ j
 |pure m=>
  rw[b]at h c;obtain⟨u,i,j⟩:=gH.1 h;rw[c];simp only[Sem.run_bind,pureRun_spec i w,Result.andThen_ok,Sem.run_pure];exact d _ _ j
 |read t x=>
  rw[b]at h c;obtain⟨u,i,j⟩:=gH.1 h;rw[c];simp only[Sem.run_bind,ldv_spec i,Result.andThen_ok,Sem.run_pure];exact d _ _ j
 |tc m=>
  rw[b]at h c;rw[c];simp only[cP]at h;simp only[Sem.run_bind];cases k:m.run P w with
  |halt x f=>rw[k]at h;exact h.elim
  |ok v f=>rw[k]at h;simp only[Result.andThen_ok,Sem.run_pure];exact d _ _ h
 |effU m=>
  rw[b]at h c;rw[c];simp only[ck]at h;simp only[Sem.run_bind];cases k:m.run P w with
  |halt x f=>rw[k]at h;exact h.elim
  |ok v f=>rw[k]at h;simp only[Result.andThen_ok,Sem.run_pure];exact d _ _ h
 |call g args=>
  rw[b]at h c;rw[c w,Oper.upon_enter];exact Calls.mono h λe f ⟨v,l,q⟩=>by subst l;exact d _ _ q
 |bad=>rw[b]at h;exact h.elim
theorem sj{k:lJ}{c:Value}{want:Bool}{K:Value->World->Prop}(a:yes c want=true):evG P k c want w K=evP P k w K:=by
 cases k<;>simp only[evP,evG,gv,gd,gE,gU,a,cond_true]
theorem evG_no{k:lJ}{c:Value}{want:Bool}{K:Value->World->Prop}(a:yes c want=false)(h:evG P k c want w K):K undef w:=by
 cases k<;>simp only[evG,gv,gd,gE,gU,a,cond_false]at h<;>exact h
theorem tw(i:EntOk P ent)(f:fB n ρ a){K:Env->World->Prop}{next:Act->World->Prop}{Q:Exit->Act->World->Prop}
  (k:∀e a' d,fB n e a'->K e d->next a' d) (h:evOp P ent n ops o ρ w K):
  if Region.wanted o (yielded ops a.tmps)then o.wp P a w next Q\/(o.asks P a w/\LetsOut Q)else next (a.put o.dst undef) w:=by
 unfold evOp sY at h;have b:∀v d,K (ij n o.dst v ρ) d->next (a.put o.dst v) d:=λv d h=>k _ _ _ (f.put o.dst v) h
 cases g:gOf ops ρ o with
 |none=>rw[g]at h;exact h.elim
 |some l=>
  rw[g]at h;cases l with
  |none=>
   rw[bU (gOf_none g)];exact .inl (evP_sound i f b h)
  |some m=>
   obtain⟨c,want⟩:=m;simp only at h;rw[gOf_some f g];cases j:yes c want with
   |true=>rw[bU rfl];rw[sj j]at h;exact .inl (evP_sound i f b h)
   |false=>rw[bV (by simp)];exact b _ _ (evG_no j h)
theorem evP_mono{k:lJ}{K d:Value->World->Prop}(a:∀v e,K v e->d v e)(h:evP P k w K):evP P k w d:=by
 cases k<;>simp only[evP]at h⊢
 case val v=>exact a _ _ h
 case opt v=>obtain⟨u,b,h⟩:=gH.1 h;exact gH.2 ⟨u,b,a _ _ h⟩
 case pure m=>obtain⟨u,b,h⟩:=gH.1 h;exact gH.2 ⟨u,b,a _ _ h⟩
 case read t x=>obtain⟨u,b,h⟩:=gH.1 h;exact gH.2 ⟨u,b,a _ _ h⟩
 case tc m=>unfold cP at *;cases c:m.run P w<;>rw[c]at h<;>simp only at h ⊢;exact a _ _ h
 case effU m=>unfold ck at *;cases c:m.run P w<;>rw[c]at h<;>simp only at h ⊢;exact a _ _ h
 case call g args=>exact aa.mono h a
theorem evG_not{k:lJ}{c:Value}{want:Bool}{K:Value->World->Prop}(a:yes c want=false):evG P k c want w K<->True/\K undef w:=by
 cases k<;>simp[evG,gv,gd,gE,gU,a,mV]
theorem evX_bad{g:Option (Option (Value×Bool))}{w:World}{K:Value->World->Prop}:sY P g .bad w K<->∃c want,g=some (some (c,want))/\yes c want=false/\K undef w:=by
 unfold sY;match g with
 |none=>simp
 |some none=>simp[evP]
 |some (some (c,want))=>
  constructor
  ·intro h;cases a:yes c want with
   |true=>simp[evG,gE,a]at h
   |false=>simp only[evG,gE,a,cond_false]at h;exact⟨c,want,rfl,a,h⟩
  ·rintro⟨d,b,e,a,h⟩;cases e;simp only[evG,gE,a,cond_false];exact h
theorem mu{g:Option (Option (Value×Bool))}{k:lJ}{K b:Value->World->Prop}(a:∀v d,K v d->b v d)(h:sY P g k w K):sY P g k w b:=by
 unfold sY at h⊢;split at h
 ·exact h
 ·exact evP_mono a h
 ·rename_i c want;cases e:yes c want with
  |true=>rw[sj e]at h ⊢;exact evP_mono a h
  |false=>rw[evG_not e]at h ⊢;exact⟨h.1,a _ _ h.2⟩
theorem evOps_sound(f:EntOk P ent){Q:Exit->Act->World->Prop}{K:Env->World->Prop}(g:∀b a' c,fB n b a'->K b c->Q .normal a' c):
  ∀(l:List Oper) {ρ:Env} {a:Act} {w:World},fB n ρ a->evOps P ent n ops l ρ w K->wpList P ops Q l a w
 | [],_,_,_,d,h=>g _ _ _ d h
 |o::rest,ρ,a,w,d,h=>by
  unfold wpList;exact tw f d (λb a' c e i=>evOps_sound f g rest e i) h
end
inductive Kd where
 |pure|read|alloc|tc
def mK(o:Oper):Kd:=
 match o.op with
 | .move _| .assign _| .pick .. | .build .. | .nilCheck _| .binOp .. | .unOp .. | .makeInterface .. | .makeFunc .. | .slice .. | .fieldAddr .. | .field ..
 | .indexAddr .. | .index .. | .typeAssert .. | .extract .. => .pure
 | .convert s d _=>bif cvE s d then .tc else .pure
 | .load .. => .read
 | .alloc _| .box .. | .buildSlice .. | .makeSlice .. => .alloc
 | .call c=>match c.callee with
  | .builtin .len| .builtin .cap| .builtin .min| .builtin .max=> .pure
  |_=> .tc
 |_=> .tc
def isP:lJ->Bool
 | .val _| .opt _| .pure _| .bad=>true
 |_=>false
def isR:lJ->Bool
 | .read _ _| .bad=>true
 |_=>false
def iy(P:Program):lJ->Prop
 | .tc m=>∀w v a,m.run P w= .ok v a->Ext w a
 | .bad=>True
 |_=>False
theorem on1_ind{p:lJ->Prop}(hb:p .bad){o:Option Value}{f:Value->lJ}(h:∀v,p (f v)):p (on1 o f):=by cases o;exact hb;exact h _
theorem on2_ind{p:lJ->Prop}(hb:p .bad){o q:Option Value}{f:Value->Value->lJ}(h:∀v u,p (f v u)):p (on2 o q f):=by
 cases o;exact hb;cases q;exact hb;exact h _ _
theorem oq{α:Type}{p:lJ->Prop}(hb:p .bad){o:Option α}{f:α->lJ}(h:∀v,p (f v)):p (onL o f):=by cases o;exact hb;exact h _
theorem isP_of{ent:FuncId->Bool}{ρ:Env}{o:Oper}(h:mK o= .pure):isP (sX ent ρ o)=true:=by
 obtain⟨i,op,g,pos,e,guard⟩:=o;cases op<;>simp only[mK]at h<;>simp only[sX]<;>try cases h
 case call c=>
  obtain⟨a,args,l⟩:=c;cases a with
  |builtin b=>cases b<;>simp at h<;>exact oq (p:=λk=>isP k=true) rfl λvs=>rfl
  |value f=>simp at h
  |invoke r m=>simp at h
 case convert s d x=>
  cases j:cvE s d with
  |true=>rw[j]at h;cases h
  |false=>exact on1_ind (p:=λk=>isP k=true) rfl λv=>rfl
 all_goals
  first
  |exact on1_ind (p:=λk=>isP k=true) rfl λv=>rfl
  |exact on2_ind (p:=λk=>isP k=true) rfl λv u=>rfl
  |exact oq (p:=λk=>isP k=true) rfl λv=>rfl
  |exact oq (p:=λk=>isP k=true) rfl λv=>oq (p:=λk=>isP k=true) rfl λv=>rfl
  |exact on1_ind (p:=λk=>isP k=true) rfl λv=>oq (p:=λk=>isP k=true) rfl λv=>oq (p:=λk=>isP k=true) rfl λv=>oq (p:=λk=>isP k=true) rfl λv=>rfl
theorem isR_of{ent:FuncId->Bool}{ρ:Env}{o:Oper}(h:mK o= .read):isR (sX ent ρ o)=true:=by
 obtain⟨i,op,g,pos,e,guard⟩:=o;cases op<;>simp only[mK]at h<;>simp only[sX]<;>try cases h
 case call c=>
  obtain⟨a,args,l⟩:=c;cases a with
  |builtin b=>cases b<;>simp at h
  |value f=>simp at h
  |invoke r m=>simp at h
 case convert s d x=>cases j:cvE s d<;>rw[j]at h<;>cases h
 all_goals exact on1_ind (p:=λk=>isR k=true) rfl λv=>rfl
theorem ext_push(w:World)(o:Obj):Ext w {w with heap:=w.heap.push o}:=by
 intro a v h;unfold World.cell? at h⊢;have b:a.block<w.heap.size:=by
  rcases dh a.block w.heap.size with h1|h1
  ·exact h1
  ·simp[Array.getElem?_eq_none h1]at h
 simp only[Array.getElem?_push,bV (Nat.ne_of_lt b)];exact h
theorem allocM{P:Program}{m:Sem Value}(h:∀w v a,m.run P w= .ok v a->∃o,a={w with heap:=w.heap.push o}):iy P (.tc m):=
 λw v a b=>by obtain⟨o,rfl⟩:=h w v a b;exact ext_push w o
theorem ou{P:Program}{t:TypeId}{w:World}{x:TypeInfo}{a:World}(h:(typeInfo t).run P w= .ok x a):a=w:=by
 simp only[typeInfo,Sem.run_bind,run_program,Result.andThen_ok]at h;split at h
 ·simp at h;exact h.2.symm
 ·simp at h
theorem run_newVar'{P:Program}{t:TypeId}{v:Value}(w:World):(newVar t v).run P w= .ok ⟨w.heap.size,0,none⟩ {w with heap:=w.heap.push (.cells v.cells t)}:=rfl
theorem alloc_box{P:Program}{t:TypeId}{v:Value}:iy P (.tc (Instr.box t v)):=allocM λw u b h=>by
 simp only[Instr.box,Sem.run_bind,run_newVar',Result.andThen_ok,Sem.run_pure]at h;injection h with c a
 exact⟨_,a.symm⟩
theorem zero_same{P:Program}{t:TypeId}{w b:World}{z:Value}(h:(zeroValue t).run P w= .ok z b):b=w:=by
 simp only[zeroValue,Sem.run_bind]at h;cases a:(typeInfo t).run P w with
 |halt x w1=>rw[a]at h;simp at h
 |ok x w1=>
  rw[a]at h;have:=ou a;subst this;simp only[Result.andThen_ok]at h;split at h
  ·simp at h;exact h.2.symm
  ·simp at h
theorem alloc_alloc{P:Program}{t:TypeId}:iy P (.tc (Instr.alloc t true (.tuple #[]))):=allocM λw u c h=>by
 simp only[Instr.alloc,Sem.run_bind]at h;cases a:(zeroValue t).run P w with
 |halt x w1=>rw[a]at h;simp at h
 |ok x w1=>
  rw[a]at h;have:=zero_same a;subst this;simp only[Result.andThen_ok,run_newVar',Sem.run_pure]at h;injection h with d b
  exact⟨_,b.symm⟩
def dZ{α:Type}(P:Program)(m:Sem α):Prop:=∀w v a,m.run P w= .ok v a->a=w
theorem dZ.bind{α β:Type}{P:Program}{m:Sem α}{f:α->Sem β}(h:dZ P m)(d:∀a,dZ P (f a)):dZ P (m >>= f):=by
 intro w v e b;simp only[Sem.run_bind]at b;cases c:m.run P w with
 |halt x w1=>rw[c]at b;simp at b
 |ok x w1=>
  rw[c]at b;have:=h _ _ _ c;subst this;exact d _ _ _ _ b
theorem dZ.pure{α:Type}{P:Program}{a:α}:dZ P (Pure.pure a:Sem α):=λw v b h=>by simp at h;exact h.2.symm
theorem dZ.halt{α:Type}{P:Program}{x:Halt}:dZ P (.halt x:Sem α):=λw v a h=>by simp at h
theorem dZ.stuck{α:Type}{P:Program}{x:String}:dZ P (stuck x:Sem α):=λw v a h=>by simp at h
theorem dZ.unsupported{α:Type}{P:Program}{x:Unsupported}:dZ P (unsupported x:Sem α):=λw v a h=>by simp at h
theorem dZ.program{P:Program}:dZ P program:=λw v a h=>by simp at h;exact h.2.symm
theorem dZ.typeInfo{P:Program}{t:TypeId}:dZ P (typeInfo t):=λ_ _ _ h=>ou h
theorem dZ.underlying{P:Program}{t:TypeId}:dZ P (underlying t):=by
 unfold Go.underlying;refine dZ.program.bind λp=>?_;cases p.underlying t with
 |none=>exact .stuck
 |some d=>exact .pure
theorem dZ.sizeOf{P:Program}{t:TypeId}:dZ P (sizeOf t):=dZ.typeInfo.bind λ_=> .pure
theorem dZ.zero{P:Program}{t:TypeId}:dZ P (zeroValue t):=λ_ _ _ h=>zero_same h
theorem eJ{α:Type}{P:Program}{m:Sem α}{f:α->Sem Value}(h:dZ P m)(d:∀a,iy P (.tc (f a))):iy P (.tc (m >>= f)):=by
 intro w v e b;simp only[Sem.run_bind]at b;cases c:m.run P w with
 |halt x w1=>rw[c]at b;simp at b
 |ok x w1=>
  rw[c]at b;have:=h _ _ _ c;subst this;exact d _ _ _ _ b
theorem p9{P:Program}{x:Halt}:iy P (.tc (.halt x)):=λw v a h=>by simp at h
theorem sn{P:Program}{e:TypeId}{cs:Array Value}{f:Addr->Value}:iy P (.tc (do let a<-newRow e cs;Pure.pure (f a))):=allocM λw u c h=>by
 simp only[newRow,Sem.run_bind,run_newObj,Result.andThen_ok,Sem.run_pure]at h;injection h with d b
 exact⟨_,b.symm⟩
theorem alloc_buildSlice{P:Program}{t:TypeId}{k:Nat}{a:Array (Nat×Value)}:iy P (.tc (Instr.buildSlice t k a)):=by
 unfold Instr.buildSlice;refine eJ .underlying λd=>?_;split
 case h_2=>exact p9
 refine eJ .sizeOf λs=>?_;dsimp only;split
 ·intro w v b h;simp at h
 ·split
  ·refine eJ .pure λz=>?_;split
   ·exact sn
   ·exact p9
  ·refine eJ .zero λz=>eJ .pure λz=>?_;split
   ·exact sn
   ·exact p9
theorem dZ.asInt{P:Program}{v:Value}:dZ P (asInt v):=by
 unfold Go.asInt asIntOf;refine dZ.bind ?_ λ_=> .pure;split
 ·exact .pure
 ·exact .unsupported
 ·exact .stuck
theorem ow{α:Type}{P:Program}{e:RuntimeError}{w b:World}{v:α}(h:(runtimePanic e:Sem α).run P w= .ok v b):False:=by
 cases e<;>simp only[runtimePanic,Sem.run_bind,run_program,Result.andThen_ok]at h
 case typeAssertion i c a m=>
  revert h;generalize (elemOf P.rt.typeAssertionError).run P w=r;cases r<;>simp[newVar,newRow]
 case panicNil=>
  revert h;generalize (elemOf P.rt.panicNilError).run P w=r;cases r<;>simp[newVar,newRow]
 all_goals simp at h
theorem dZ.askRoom{P:Program}{k:Nat}:dZ P (askRoom k):=λw v a h=>by simp at h;exact h.symm
theorem alloc_makeSlice{P:Program}{t:TypeId}{l c:Value}:iy P (.tc (Instr.makeSlice t l c)):=by
 unfold Instr.makeSlice;refine eJ .underlying λd=>?_;split
 case h_2=>exact p9
 refine eJ .asInt λl=>eJ .asInt λc=>eJ .typeInfo λi=>?_;dsimp only;split
 ·intro w v w' h;exfalso;split at h
  ·simp only[Sem.run_bind]at h
   cases hr : (runtimePanic (.error "makeslice: cap out of range") : Sem PUnit).run P w with
   |ok v w1=>exact ow hr
   |halt x w1=>rw[hr]at h;simp at h
  ·split at h
   ·simp only[Sem.run_bind]at h
    cases hr : (runtimePanic (.error "makeslice: len out of range") : Sem PUnit).run P w with
    |ok v w1=>exact ow hr
    |halt x w1=>rw[hr]at h;simp at h
   ·simp only[Sem.run_bind]at h;revert h
    generalize (choose (.extern "makeslice.lenOrCap" 2)).run P w = r
    intro h;cases r with
    |halt x w1=>simp at h
    |ok k w1=>
     simp only[Result.andThen_ok]at h
     cases hr : (runtimePanic (.error (if (k == 1) = true then "makeslice: cap out of range" else "makeslice: len out of range")) : Sem PUnit).run P w1 with
     |ok v w1=>exact ow hr
     |halt x w1=>rw[hr]at h;simp at h
 ·refine eJ .askRoom λ_=>eJ .sizeOf λs=>?_;split
  ·exact eJ .pure λz=>sn
  ·exact eJ .zero λz=>eJ .pure λz=>sn
theorem allocK_of{P:Program}{ent:FuncId->Bool}{ρ:Env}{o:Oper}(h:mK o= .alloc):iy P (sX ent ρ o):=by
 obtain⟨i,op,g,pos,e,guard⟩:=o;cases op<;>simp only[mK]at h<;>simp only[sX]<;>try cases h
 case alloc t=>exact alloc_alloc
 case box t x=>exact on1_ind (p:=iy P) trivial λv=>alloc_box
 case buildSlice t k n=>exact oq (p:=iy P) trivial λv=>alloc_buildSlice
 case makeSlice t l c=>exact on2_ind (p:=iy P) trivial λv u=>alloc_makeSlice
 case convert s d x=>cases j:cvE s d<;>rw[j]at h<;>cases h
 case call c=>
  obtain⟨a,args,q⟩:=c;cases a with
  |builtin b=>cases b<;>simp at h
  |value f=>simp at h
  |invoke r m=>simp at h
noncomputable def pvX(P:Program)(g:Option (Option (Value×Bool)))(k:lJ):Option Value:=
 let x:Option (Option Value):=match k with| .val v=>some (some v)| .opt v=>some v| .pure m=>some (ai P m)| .bad=>some none|_=>none
 match g with
 |none=>none
 |some none=>x.bind id
 |some (some (c,want))=>x.bind λx=>gd c want x
theorem jJ{P:Program}{g:Option (Option (Value×Bool))}{k:lJ}(b:isP k=true){w:World}{K:Value->World->Prop}:sY P g k w K<->∃v,pvX P g k=some v/\K v w:=by
 unfold sY pvX;cases g with
 |none=>simp
 |some d=>
  cases d with
  |none=>cases k<;>simp[isP]at b<;>simp[evP,gH]
  |some e=>
   obtain⟨c,want⟩:=e;cases k<;>simp[isP]at b<;>simp[evG,gH]
   case bad=>cases a:yes c want<;>simp[gE,gd,a]
   case val v=>cases a:yes c want<;>simp[gv,gd,a]
def rvX(P:Program)(g:Option (Option (Value×Bool)))(k:lJ)(w:World):Option Value:=
 match g,k with
 |some none,.read t x=>gi P t x w
 |some (some (c,want)),.read t x=>gd c want (gi P t x w)
 |some (some (c,want)),.bad=>gd c want none
 |_,_=>none
theorem iY{P:Program}{g:Option (Option (Value×Bool))}{k:lJ}(a:isR k=true){w:World}{K:Value->World->Prop}:sY P g k w K<->∃v,rvX P g k w=some v/\K v w:=by
 unfold sY rvX;cases g with
 |none=>simp
 |some b=>
  cases b with
  |none=>cases k<;>simp[isR]at a<;>simp[evP,gH]
  |some d=>obtain⟨c,want⟩:=d;cases k<;>simp[isR]at a<;>simp[evG,gH];(cases e:yes c want<;>simp[gE,gd,e])
theorem rvX_ext{P:Program}{g:Option (Option (Value×Bool))}{k:lJ}{w b:World}(h:Ext w b){v:Value}(a:rvX P g k w=some v):rvX P g k b=some v:=by
 unfold rvX at a⊢;split at a
 ·exact ldv_ext h a
 ·rename_i c want t x;unfold gd at a⊢;cases d:yes c want with
  |true=>rw[d]at a;exact ldv_ext h a
  |false=>rw[d]at a;exact a
 ·exact a
 ·cases a
theorem evP_ex{P:Program}{k:lJ}{w:World}{K:Value->World->Prop}(h:evP P k w K):∃v a,K v a:=by
 cases k<;>simp only[evP]at h
 case val v=>exact⟨_,_,h⟩
 case opt v=>obtain⟨u,_,h⟩:=gH.1 h;exact⟨_,_,h⟩
 case pure m=>obtain⟨u,_,h⟩:=gH.1 h;exact⟨_,_,h⟩
 case read t x=>obtain⟨u,_,h⟩:=gH.1 h;exact⟨_,_,h⟩
 case tc m=>unfold cP at h;split at h;exact⟨_,_,h⟩;exact h.elim
 case effU m=>unfold ck at h;split at h;exact⟨_,_,h⟩;exact h.elim
 case call g args=>obtain⟨e,a,c,⟨v,_,b⟩,_⟩:=h [];exact⟨_,_,b⟩
theorem evX_ex{P:Program}{g:Option (Option (Value×Bool))}{k:lJ}{w:World}{K:Value->World->Prop}(h:sY P g k w K):∃v b,K v b:=by
 unfold sY at h;split at h
 ·exact h.elim
 ·exact evP_ex h
 ·rename_i c want;cases a:yes c want with
  |true=>rw[sj a]at h;exact evP_ex h
  |false=>exact⟨_,_,evG_no a h⟩
theorem Ext.refl(w:World):Ext w w:=λ_ _ h=>h
theorem evX_alloc{P:Program}{g:Option (Option (Value×Bool))}{k:lJ}(e:iy P k){w:World}{K:Value->World->Prop}(h:sY P g k w K):sY P g k w λv a=>Ext w a/\K v a:=by
 have plain:evP P k w K->evP P k w λv a=>Ext w a/\K v a:=by
  intro b;cases k with
  |tc m=>
   simp only[evP]at b⊢;unfold cP at*;cases d:m.run P w with
   |ok v a=>rw[d]at b;exact⟨e _ _ _ d,b⟩
   |halt x a=>rw[d]at b;exact b
  |bad=>exact b
  |_=>exact e.elim
 unfold sY at h⊢;split at h
 ·exact h
 ·exact plain h
 ·rename_i c want;cases f:yes c want with
  |true=>rw[sj f]at h ⊢;exact plain h
  |false=>rw[evG_not f]at h ⊢;exact⟨h.1,.refl w,h.2⟩
theorem evX_swap{P:Program}{j k:Option (Option (Value×Bool))}{d e:lJ}{w:World}{K:Value->Value->World->Prop}
  (l:isP d=true\/isP e=true\/(isR d=true/\isR e=true)\/(isR d=true/\iy P e))
  (h:sY P j d w λv w1=>sY P k e w1 λu w2=>K v u w2):sY P k e w λu w1=>sY P j d w1 λv w2=>K v u w2:=by
 rcases l with a|hi|⟨a,hi⟩|⟨a,hi⟩
 ·obtain⟨v,f,c⟩:=(jJ a).1 h;exact mu (λu w1 b=>(jJ a).2 ⟨v,f,b⟩) c
 ·obtain⟨v,w1,c⟩:=evX_ex h;obtain⟨u,i,_⟩:=(jJ hi).1 c;refine(jJ hi).2 ⟨u,i,mu (λv w1 b=>?_) h⟩;obtain⟨n,g,m⟩:=(jJ hi).1 b;rw[i]at g;cases g;exact m
 ·obtain⟨v,f,c⟩:=(iY a).1 h;obtain⟨u,i,b⟩:=(iY hi).1 c;exact(iY hi).2 ⟨u,i,(iY a).2 ⟨v,f,b⟩⟩
 ·obtain⟨v,f,c⟩:=(iY a).1 h;exact mu (λu w1 b=>(iY a).2 ⟨v,rvX_ext b.1 f,b.2⟩) (evX_alloc hi c)
theorem opv_upd{n:Nat}{ρ:Env}{d:Option Nat}{v:Value}{x:Operand}(h:∀e,d=some e->x≠ .tmp e):cm (ij n d v ρ) x=cm ρ x:=by
 cases d with
 |none=>rfl
 |some d=>
  cases x with
  |tmp t=>
   have a:t≠d:=λe=>h d rfl (e▸rfl);have:Nat.beq t d=false:=by
    cases hb:Nat.beq t d with
    |false=>rfl
    |true=>exact absurd (Nat.eq_of_beq_eq_true hb) a
   simp[cm,ij,upd,this]
  |_=>rfl
theorem qa{ρ a:Env}:∀{xs:List Operand},(∀ x∈xs,cm ρ x=cm a x)->pZ ρ xs=pZ a xs
 | [],_=>rfl
 |x::xs,h=>by
  have b:=qa (xs:=xs) λy c=>h y (List.mem_cons_of_mem _ c);simp only[pZ,h x (by simp),b]
theorem oO{ρ a:Env}:∀{xs:List (Nat×Operand)},(∀ x∈xs,cm ρ x.2=cm a x.2)->m3 ρ xs=m3 a xs
 | [],_=>rfl
 |(i,x)::xs,h=>by
  have b:=oO (xs:=xs) λy c=>h y (List.mem_cons_of_mem _ c);simp only[m3,h (i,x) (by simp),b]
theorem qX{ρ a:Env}{x:Option Operand}(h:∀y,x=some y->cm ρ y=cm a y):opmay ρ x=opmay a x:=by
 cases x with
 |none=>rfl
 |some x=>simp only[opmay,h x rfl]
theorem opk_congr{ent:FuncId->Bool}{ρ d:Env}(o:Oper)(h:∀x∈o.op.operands,cm ρ x=cm d x):sX ent ρ o=sX ent d o:=by
 obtain⟨j,op,g,pos,e,guard⟩:=o;cases op<;>simp only[Op.operands]at h<;>simp only[sX]
 case build t l=>rw[oO λx hx=>h x.2 (by simp;exact⟨x.1,Array.mem_toList_iff.1 hx⟩)]
 case buildSlice t k l=>rw[oO λx hx=>h x.2 (by simp;exact⟨x.1,Array.mem_toList_iff.1 hx⟩)]
 case makeFunc fn first cap=>
  rw[qa (xs:=first.toList) λx hx=>h x (by simp;exact .inl (by simpa using hx)),qa (xs:=cap.toList) λx hx=>h x (by simp;exact .inr (by simpa using hx))]
 case slice t x n p q=>
  rw[h x (by simp),qX (x:=n) λy hy=>h y (by simp[hy]),qX (x:=p) λy hy=>h y (by simp[hy]),qX (x:=q) λy hy=>h y (by simp[hy])]
 case call c=>
  obtain⟨a,args,s⟩:=c;simp only[Call.operands]at h;have i:pZ ρ args.toList=pZ d args.toList:=qa λx hx=>h x (by simp;exact .inr (by simpa using hx));cases a with
  |builtin b=>simp only[i]
  |value f=>simp only[i,h f (by simp)]
  |invoke r m=>rfl
 all_goals (first|rfl|(simp_all;done))
theorem gOf_upd{n:Nat}{ops:Array Oper}{ρ:Env}{o:Oper}{d:Option Nat}{v:Value}(h:∀e,d=some e->e∉o.looksAt ops):gOf ops (ij n d v ρ) o=gOf ops ρ o:=by
 unfold gOf;cases a:o.guard with
 |none=>rfl
 |some b=>
  obtain⟨g,want⟩:=b;simp only;cases c:(ops[g]?).bind (·.dst)with
  |none=>rfl
  |some s=>
   have f:cm (ij n d v ρ) (.tmp s)=cm ρ (.tmp s):=opv_upd λe i j=>by
    cases j;exact h s i (by simp[Oper.looksAt,a,c])
   have k:ij n d v ρ s=ρ s:=f;simp only[k]
theorem opk_upd{ent:FuncId->Bool}{n:Nat}{ops:Array Oper}{ρ:Env}{o:Oper}{d:Option Nat}{v:Value}(h:∀e,d=some e->e∉o.looksAt ops):sX ent (ij n d v ρ) o=sX ent ρ o:=
 opk_congr o λx b=>opv_upd λe c a=>h e c (by
  subst a;exact List.mem_append_left _ (List.mem_filterMap.2 ⟨.tmp e,by simpa using b,rfl⟩))
theorem updO_comm{n:Nat}{ρ:Env}{d e:Option Nat}{v u:Value}(h:∀x,d=some x->e≠some x):ij n d v (ij n e u ρ)=ij n e u (ij n d v ρ):=by
 cases d with
 |none=>rfl
 |some d=>
  cases e with
  |none=>rfl
  |some e=>
   have a:d≠e:=λb=>h d rfl (by rw[b]);funext i;simp only[ij,upd];cases c:Nat.beq i d with
   |false=>rfl
   |true=>
    cases f:Nat.beq i e with
    |false=>rfl
    |true=>exact absurd ((Nat.eq_of_beq_eq_true c).symm.trans (Nat.eq_of_beq_eq_true f)) a
def qG(P:Program)(ent:FuncId->Bool)(n:Nat)(ops:Array Oper):List Nat->Env->World->(Env->World->Prop)->Prop
 | [],ρ,w,K=>K ρ w
 |i::rest,ρ,w,K=>match ops[i]? with
  |none=>False
  |some o=>evOp P ent n ops o ρ w λa b=>qG P ent n ops rest a b K
def kdsOk:Kd->Kd->Bool
 | .pure,_|_,.pure| .read,.read| .read,.alloc=>true
 |_,_=>false
def canSwap(ops:Array Oper)(j i:Nat):Bool:=match ops[j]?,ops[i]? with
 |some a,some b=>kdsOk (mK a) (mK b)&&a.apart ops b
 |_,_=>false
section
variable{P:Program}{ent:FuncId->Bool}{n:Nat}{ops:Array Oper}
theorem evSeq_swap{i j:Nat}(e:canSwap ops j i=true){rest:List Nat}{ρ:Env}{w:World}{K:Env->World->Prop}(h:qG P ent n ops (j::i::rest) ρ w K):
  qG P ent n ops (i::j::rest) ρ w K:=by
 unfold canSwap at e;simp only[qG]at h⊢;cases f:ops[j]? with
 |none=>rw[f]at e;simp at e
 |some a=>
  cases l:ops[i]? with
  |none=>rw[f,l]at e;simp at e
  |some b=>
   rw[f,l]at e h;simp only[cZ]at e;obtain⟨m,g⟩:=e;obtain⟨o,q,p⟩:=Oper.apart_spec g;simp only[evOp]at h⊢;have r:∀v,gOf ops (ij n a.dst v ρ) b=gOf ops ρ b:=λv=>gOf_upd o;have s:∀v,sX ent (ij n a.dst v ρ) b=sX ent ρ b:=λv=>opk_upd o;have t:∀v,gOf ops (ij n b.dst v ρ) a=gOf ops ρ a:=λv=>gOf_upd p;have x:∀v,sX ent (ij n b.dst v ρ) a=sX ent ρ a:=λv=>opk_upd p;simp only[r,s]at h;simp only[t,x];have k:∀v u,ij n b.dst u (ij n a.dst v ρ)=ij n a.dst v (ij n b.dst u ρ):=λv u=>(updO_comm q).symm;simp only[k]at h;refine evX_swap (K:=λv u w2=>qG P ent n ops rest (ij n a.dst v (ij n b.dst u ρ)) w2 K) ?_ h;cases c:mK a<;>cases d:mK b<;>rw[c,d]at m<;>simp[kdsOk]at m<;>
    first
    |exact .inl (isP_of c)
    |exact .inr (.inl (isP_of d))
    |exact .inr (.inr (.inl ⟨isR_of c,isR_of d⟩))
    |exact .inr (.inr (.inr ⟨isR_of c,allocK_of d⟩))
theorem evOp_mono{o:Oper}{ρ:Env}{w:World}{K a:Env->World->Prop}(b:∀ρ w,K ρ w->a ρ w)(h:evOp P ent n ops o ρ w K):evOp P ent n ops o ρ w a:=
 mu (λ_ _ h=>b _ _ h) h
theorem evSeq_front{i:Nat}{rest:List Nat}{K:Env->World->Prop}:∀(l:List Nat) (ρ:Env) (w:World),(∀ j∈l,canSwap ops j i=true)->qG P ent n ops (l++i::rest) ρ w K->
  qG P ent n ops (i::(l++rest)) ρ w K
 | [],_,_,_,h=>h
 |j::l,ρ,w,b,h=>by
  have c:qG P ent n ops (j::i::(l++rest)) ρ w K:=by
   simp only[List.cons_append]at h;rw[qG]at h⊢;split at h
   ·exact h.elim
   ·exact evOp_mono (λa d e=>evSeq_front l a d (λk f=>b k (by simp[f])) e) h
  exact evSeq_swap (b j (by simp)) c
theorem evSeq_sound(s:EntOk P ent){Q:Exit->Act->World->Prop}{K:Env->World->Prop}(t:∀f a' m,fB n f a'->K f m->Q .normal a' m)(σ c:List Nat)
  (d:∀S i rest,σ=S++i::rest->∀j∈rest, [j,i].Sublist c->canSwap ops j i=true):
  ∀(rest S π:List Nat) (ρ:Env) (a:Act) (w:World),σ=S++rest->π.Perm rest->π.Sublist c->fB n ρ a->qG P ent n ops π ρ w K->wpOps P ops Q rest a w
 | [],S,π,ρ,a,w,_,hp,_,p,h=>by
  have:π= []:=List.perm_nil.1 hp;subst this;exact t _ _ _ p h
 |i::rest,S,π,ρ,a,w,k,hp,g,p,h=>by
  have v:i∈π:=hp.mem_iff.2 (by simp);obtain⟨l,r,rfl⟩:=List.append_of_mem v;have e:(l++r).Perm rest:=by
   have x:(i::(l++r)).Perm (i::rest):=(List.perm_middle.symm).trans hp;exact x.cons_inv
  have b:=evSeq_front (i:=i) (rest:=r) l ρ w (λj u=>d S i rest k j (e.mem_iff.1 (by simp[u])) (by
   refine List.Sublist.trans ?_ g;obtain⟨A,B,rfl⟩:=List.append_of_mem u;have: [j,i]= [j]++ [i]:=rfl;rw[this];refine List.Sublist.append ?_ ?_
   ·exact List.singleton_sublist.2 (by simp)
   ·exact List.singleton_sublist.2 (by simp))) h
  rw[qG]at b;rw[wpOps_cons];unfold wpOp;split at b
  ·exact b.elim
  ·rename_i o y;simp only[y];exact tw s p (λf a' m q z=>evSeq_sound s t σ c d rest (S++ [i]) (l++r) f a' m (by simp[k]) e
    (List.Sublist.trans (List.Sublist.append (List.Sublist.refl l) (List.sublist_cons_self i r)) g) q z) b
end
def CallX(P:Program)(f:FuncId)(args:List Value)(w:World)(K:Value->World->Prop):Prop:=aa P f args w λv a=>Ext w a/\K v a
def ExtD(D:Nat->Prop)(w b:World):Prop:=∀a v,¬D a.block->w.cell? a=some v->b.cell? a=some v
def offD(D:Nat->Prop)(x:Value):Prop:=match x with| .pointer (some a)=>¬D a.block|_=>True
def CallD(D:Nat->Prop)(P:Program)(f:FuncId)(args:List Value)(w:World)(K:Value->World->Prop):Prop:=aa P f args w λv a=>ExtD D w a/\K v a
def rdD(D:Nat->Prop)(x:Value)(p:Prop):Prop:=offD D x/\p
def rdG(D:Nat->Prop)(c:Value)(want:Bool)(x:Value)(p:Prop):Prop:=(yes c want=true->offD D x)/\p
def ExtO(D:Option (Nat->Prop))(w a:World):Prop:=match D with|none=>Ext w a|some D=>ExtD D w a
def CallO(D:Option (Nat->Prop))(P:Program)(f:FuncId)(args:List Value)(w:World)(K:Value->World->Prop):Prop:=match D with|none=>CallX P f args w K|some D=>CallD D P f args w K
theorem iN{D:Option (Nat->Prop)}{P:Program}{f:FuncId}{args:List Value}{w:World}{K:Value->World->Prop}:CallO D P f args w K<->aa P f args w λv a=>ExtO D w a/\K v a:=by
 cases D<;>exact Iff.rfl
theorem ExtO.refl(D:Option (Nat->Prop))(w:World):ExtO D w w:=by
 cases D with
 |none=>exact Ext.refl w
 |some D=>exact λ_ _ _ h=>h
theorem ExtO.of{D:Option (Nat->Prop)}{w b:World}(h:Ext w b):ExtO D w b:=by
 cases D with
 |none=>exact h
 |some D=>exact λa v _ c=>h a v c
theorem qY(a:Addr)(i:Nat):(a.add i).block=a.block:=by unfold Addr.add;split<;>rfl
theorem cellsAt_extD{D:Nat->Prop}{w c:World}(h:ExtD D w c){a:Addr}(d:¬D a.block):∀{n i:Nat} {l:List Value},gZ w a i n=some l->gZ c a i n=some l
 |0,_,_,b=>b
 |n+1,i,l,b=>by
  simp only[gZ]at b⊢;split at b
  ·rename_i v vs e f;cases b;rw[h _ _ (by rw[qY];exact d) e,cellsAt_extD h d f]
  ·cases b
theorem ldv_extD{P:Program}{D:Nat->Prop}{w g:World}(h:ExtD D w g){t:TypeId}{x v:Value}(j:offD D x)(c:gi P t x w=some v):gi P t x g=some v:=by
 unfold gi at c⊢;split at c
 case h_2=>cases c
 obtain⟨d,k,a⟩:=Option.bind_eq_some_iff.1 c;rw[k];simp only[Option.bind_some];cases b:iX d with
 |false=>rw[b]at a;exact h _ _ j a
 |true=>
  rw[b]at a;simp only[cond_true]at a⊢;obtain⟨i,m,f⟩:=Option.bind_eq_some_iff.1 a;obtain⟨l,f,e⟩:=dc.1 f;rw[m,Option.bind_some,cellsAt_extD h j f,Option.map_some,e]
def pe(D:Option (Nat->Prop))(P:Program)(g:Option (Option (Value×Bool)))(k:lJ)(w:World)(K:Value->World->Prop):Prop:=
 match k with
 | .call f args=>match g with
  |none=>False
  |some none=>CallO D P f args w K
  |some (some (c,want))=>gE c want (CallO D P f args w) K w
 | .read t x=>match D with
  |none=>sY P g (.read t x) w K
  |some D=>match g with
   |none=>False
   |some none=>rdD D x (evP P (.read t x) w K)
   |some (some (c,want))=>rdG D c want x (evG P (.read t x) c want w K)
 |k=>sY P g k w K
def isC:lJ->Bool
 | .call _ _| .bad=>true
 |_=>false
def okR(D:Option (Nat->Prop))(g:Option (Option (Value×Bool)))(k:lJ):Prop:=match D,g,k with
 |some D,some none,.read _ x=>offD D x
 |some D,some (some (c,want)),.read _ x=>yes c want=true->offD D x
 |_,_,_=>True
theorem rvX_extO{D:Option (Nat->Prop)}{P:Program}{g:Option (Option (Value×Bool))}{k:lJ}{w d:World}(h:ExtO D w d)(e:okR D g k){v:Value}(a:rvX P g k w=some v):rvX P g k d=some v:=by
 cases D with
 |none=>exact rvX_ext h a
 |some D=>
  unfold rvX at a⊢;split at a
  ·exact ldv_extD h e a
  ·rename_i c want t x;unfold gd at a⊢;cases b:yes c want with
   |true=>rw[b]at a;exact ldv_extD h (e b) a
   |false=>rw[b]at a;exact a
  ·exact a
  ·cases a
theorem jj{D:Option (Nat->Prop)}{P:Program}{g:Option (Option (Value×Bool))}{k:lJ}(f:isR k=true){w:World}{K:Value->World->Prop}:pe D P g k w K<->∃v,rvX P g k w=some v/\okR D g k/\K v w:=by
 cases k<;>simp[isR]at f
 case bad=>
  have e:pe D P g .bad w K=sY P g .bad w K:=rfl;rw[e,iY rfl];have:okR D g .bad=True:=by unfold okR;split<;>simp_all
  simp[this]
 case read t x=>
  cases D with
  |none=>
   have e:pe none P g (.read t x) w K=sY P g (.read t x) w K:=rfl;rw[e,iY rfl];have:okR none g (.read t x)=True:=rfl;simp[this]
  |some D=>
   cases g with
   |none=>simp[pe,rvX]
   |some i=>
    cases i with
    |none=>
     have e:pe (some D) P (some none) (.read t x) w K=(offD D x/\sY P (some none) (.read t x) w K):=rfl;rw[e,iY rfl];exact⟨fun⟨a,v,b,d⟩=>⟨v,b,a,d⟩,fun⟨v,b,a,d⟩=>⟨a,v,b,d⟩⟩
    |some j=>
     obtain⟨c,want⟩:=j;have e:pe (some D) P (some (some (c,want))) (.read t x) w K=((yes c want=true->offD D x)/\sY P (some (some (c,want))) (.read t x) w K):=rfl;rw[e,iY rfl];exact⟨fun⟨a,v,b,d⟩=>⟨v,b,a,d⟩,fun⟨v,b,a,d⟩=>⟨a,v,b,d⟩⟩
theorem evXX_not{D:Option (Nat->Prop)}{P:Program}{g:Option (Option (Value×Bool))}{k:lJ}{w:World}{K:Value->World->Prop}(h:∀f args,k≠ .call f args)(a:∀t x,k≠ .read t x):pe D P g k w K=sY P g k w K:=by
 unfold pe;split
 ·exact absurd rfl (h _ _)
 ·exact absurd rfl (a _ _)
 ·rfl
theorem notC_P{k:lJ}(h:isP k=true):∀f args,k≠ .call f args:=λ_ _ e=>by subst e;cases h
theorem notR_P{k:lJ}(h:isP k=true):∀t x,k≠ .read t x:=λ_ _ e=>by subst e;cases h
theorem sp{D:Option (Nat->Prop)}{P:Program}{g:Option (Option (Value×Bool))}{k:lJ}(a:isP k=true){w:World}{K:Value->World->Prop}:pe D P g k w K=sY P g k w K:=evXX_not (notC_P a) (notR_P a)
theorem evXX_weak{D:Option (Nat->Prop)}{P:Program}{g:Option (Option (Value×Bool))}{k:lJ}{w:World}{K:Value->World->Prop}(h:pe D P g k w K):sY P g k w λv b=>(isC k=true->ExtO D w b)/\K v b:=by
 cases k
 case call f args=>
  cases g with
  |none=>exact h
  |some i=>
   cases i with
   |none=>exact aa.mono (iN.1 h) λ_ _ h=>⟨λ_=>h.1,h.2⟩
   |some j=>
    obtain⟨c,want⟩:=j;have h:gE c want (CallO D P f args w) K w:=h;simp only[sY];cases a:yes c want with
    |true=>rw[sj a];simp only[gE,a,cond_true]at h;exact aa.mono (iN.1 h) λ_ _ h=>⟨λ_=>h.1,h.2⟩
    |false=>rw[evG_not a];simp only[gE,a,cond_false]at h;exact⟨trivial,λ_=>ExtO.refl D w,h⟩
 case bad=>
  obtain⟨c,want,l,a,h⟩:=evX_bad.1 (show sY P g .bad w K from h);exact evX_bad.2 ⟨c,want,l,a,λ_=>ExtO.refl D w,h⟩
 case read t x=>
  obtain⟨v,d,_,m⟩:=(jj (k:= .read t x) rfl).1 h;exact(iY rfl).2 ⟨v,d,λe=>(by cases e),m⟩
 all_goals exact mu (λv b d=>⟨λe=>(by cases e),d⟩) h
theorem sr{D:Option (Nat->Prop)}{P:Program}{g:Option (Option (Value×Bool))}{k:lJ}{w:World}{K b:Value->World->Prop}(a:∀v d,K v d->b v d)(h:pe D P g k w K):pe D P g k w b:=by
 cases k
 case call f args=>
  cases g with
  |none=>exact h
  |some i=>
   cases i with
   |none=>exact iN.2 (aa.mono (iN.1 h) λ_ _ h=>⟨h.1,a _ _ h.2⟩)
   |some j=>
    obtain⟨c,want⟩:=j;have h:gE c want (CallO D P f args w) K w:=h;show gE c want (CallO D P f args w) b w;cases e:yes c want with
    |true=>simp only[gE,e,cond_true]at h ⊢;exact iN.2 (aa.mono (iN.1 h) λ_ _ h=>⟨h.1,a _ _ h.2⟩)
    |false=>simp only[gE,e,cond_false]at h ⊢;exact a _ _ h
 case read t x=>
  obtain⟨v,l,m,n⟩:=(jj (k:= .read t x) rfl).1 h;exact(jj rfl).2 ⟨v,l,m,a _ _ n⟩
 all_goals exact mu a h
theorem evXX_ex{D:Option (Nat->Prop)}{P:Program}{g:Option (Option (Value×Bool))}{k:lJ}{w:World}{K:Value->World->Prop}(h:pe D P g k w K):∃v a,K v a:=by
 obtain⟨v,a,h⟩:=evX_ex (evXX_weak h);exact⟨v,a,h.2⟩
theorem evXX_ext{D:Option (Nat->Prop)}{P:Program}{g:Option (Option (Value×Bool))}{k:lJ}(hk:iy P k\/isC k=true){w:World}{K:Value->World->Prop}(h:pe D P g k w K):pe D P g k w λv a=>ExtO D w a/\K v a:=by
 cases k
 case call f args=>
  cases g with
  |none=>exact h
  |some d=>
   cases d with
   |none=>exact iN.2 (aa.mono (iN.1 h) λ_ _ h=>⟨h.1,h.1,h.2⟩)
   |some e=>
    obtain⟨c,want⟩:=e;have h:gE c want (CallO D P f args w) K w:=h;show gE c want (CallO D P f args w) (λv a=>ExtO D w a/\K v a) w;cases b:yes c want with
    |true=>simp only[gE,b,cond_true]at h ⊢;exact iN.2 (aa.mono (iN.1 h) λ_ _ h=>⟨h.1,h.1,h.2⟩)
    |false=>simp only[gE,b,cond_false]at h ⊢;exact⟨ExtO.refl D w,h⟩
 case bad=>
  obtain⟨c,want,i,b,h⟩:=evX_bad.1 (show sY P g .bad w K from h);exact evX_bad.2 ⟨c,want,i,b,ExtO.refl D w,h⟩
 case tc m=>
  rcases hk with hk|hk
  ·exact mu (λ_ _ h=>⟨ExtO.of h.1,h.2⟩) (evX_alloc hk (show sY P g (.tc m) w K from h))
  ·cases hk
 all_goals (rcases hk with hk|hk;exact hk.elim;cases hk)
theorem evXX_swap{D:Option (Nat->Prop)}{P:Program}{j k:Option (Option (Value×Bool))}{e d:lJ}{w:World}{K:Value->Value->World->Prop}
  (l:isP e=true\/isP d=true\/(isR e=true/\isR d=true)\/(isR e=true/\(iy P d\/isC d=true)))
  (h:pe D P j e w λv w1=>pe D P k d w1 λu w2=>K v u w2):pe D P k d w λu w1=>pe D P j e w1 λv w2=>K v u w2:=by
 rcases l with a|hi|⟨a,hi⟩|⟨a,hi⟩
 ·rw[sp a]at h;obtain⟨v,f,c⟩:=(jJ a).1 h;exact sr (λu w1 b=>by rw[sp a];exact(jJ a).2 ⟨v,f,b⟩) c
 ·obtain⟨v,w1,c⟩:=evXX_ex h;rw[sp hi]at c⊢;obtain⟨u,i,_⟩:=(jJ hi).1 c;refine(jJ hi).2 ⟨u,i,sr (λv w1 b=>?_) h⟩;rw[sp hi]at b;obtain⟨o,g,m⟩:=(jJ hi).1 b;rw[i]at g;cases g;exact m
 ·obtain⟨v,f,ov,c⟩:=(jj a).1 h;obtain⟨u,i,n,b⟩:=(jj hi).1 c;exact(jj hi).2 ⟨u,i,n,(jj a).2 ⟨v,f,ov,b⟩⟩
 ·obtain⟨v,f,ov,c⟩:=(jj a).1 h;exact sr (λu w1 b=>(jj a).2 ⟨v,rvX_extO b.1 ov f,ov,b.2⟩) (evXX_ext hi c)
def evOpX(D:Option (Nat->Prop))(P:Program)(ent:FuncId->Bool)(n:Nat)(ops:Array Oper)(o:Oper)(ρ:Env)(w:World)(K:Env->World->Prop):Prop:=
 pe D P (gOf ops ρ o) (sX ent ρ o) w λv a=>K (ij n o.dst v ρ) a
def kM(D:Option (Nat->Prop))(P:Program)(ent:FuncId->Bool)(n:Nat)(ops:Array Oper):List Nat->Env->World->(Env->World->Prop)->Prop
 | [],ρ,w,K=>K ρ w
 |i::rest,ρ,w,K=>match ops[i]? with
  |none=>False
  |some o=>evOpX D P ent n ops o ρ w λa b=>kM D P ent n ops rest a b K
def isCallV(o:Oper):Bool:=match o.op with| .call c=>(match c.callee with| .value _=>true|_=>false)|_=>false
section
def ef{α:Type}(P:Program)(m:Sem α):Prop:=∀w v a,m.run P w= .ok v a->Ext w a
theorem ef.bind{α β:Type}{P:Program}{m:Sem α}{f:α->Sem β}(h:ef P m)(d:∀a,ef P (f a)):ef P (m >>= f):=by
 intro w v g b;simp only[Sem.run_bind]at b;cases c:m.run P w with
 |halt x w1=>rw[c]at b;simp at b
 |ok x w1=>
  rw[c]at b;intro a u e;exact d _ _ _ _ b a u (h _ _ _ c a u e)
theorem ef.keeps{α:Type}{P:Program}{m:Sem α}(h:dZ P m):ef P m:=λw v b a=>by
 have:=h _ _ _ a;subst this;exact Ext.refl _
theorem ef.pure{α:Type}{P:Program}{a:α}:ef P (Pure.pure a:Sem α):= .keeps .pure
theorem ef.panic{α:Type}{P:Program}{e:RuntimeError}:ef P (runtimePanic e:Sem α):=λw v a h=>(ow h).elim
theorem ef.choose{P:Program}{q:Question}:ef P (choose q):=λw v c h=>by
 simp only[Go.choose,Sem.run]at h;split at h;all_goals first
  |(simp at h;done)
  |(simp at h;obtain⟨_,rfl⟩:=h;intro a u b;exact b)
  |skip
 all_goals trace_state
 all_goals omega
theorem ef.newRow{P:Program}{e:TypeId}{cs:Array Value}:ef P (newRow e cs):=λw v b h=>by
 simp only[Go.newRow,Sem.run_bind,run_newObj,Result.andThen_ok,Sem.run_pure]at h;injection h with c a
 rw[<- a];exact ext_push w _
theorem dZ.load{P:Program}{a:Addr}:dZ P (load a):=by
 intro w v d h;rw[run_load]at h;split at h
 ·injection h with c b;exact b.symm
 ·split at h
  ·injection h with c b;exact b.symm
  ·cases h
theorem dZ.loadCellsFrom{P:Program}{a:Addr}:∀{n i:Nat} {b:Array Value},dZ P (loadCellsFrom a i n b)
 |0,i,b=> .pure
 |n+1,i,b=>dZ.load.bind λv=>dZ.loadCellsFrom
theorem dZ.loadCells{P:Program}{a:Addr}{n:Nat}:dZ P (loadCells a n):=dZ.loadCellsFrom
theorem dZ.firstCells{P:Program}{s n:Nat}{x:Value}:dZ P (Builtin.firstCells s n x):=by
 unfold Builtin.firstCells;split
 ·exact .loadCells
 ·exact .pure
 ·exact .pure
 ·exact .stuck
theorem dZ.lenOf{P:Program}{x:Value}:dZ P (Builtin.lenOf x):=by
 unfold Builtin.lenOf;split
 ·exact .pure
 ·exact .pure
 ·exact .stuck
theorem ef.never{α β:Type}{P:Program}{m:Sem α}{f:α->Sem β}(h:∀a w v c,(f a).run P w≠ .ok v c):ef P (m >>= f):=by
 intro w v c b;simp only[Sem.run_bind]at b;cases d:m.run P w with
 |halt x w1=>rw[d]at b;simp at b
 |ok x w1=>rw[d]at b;exact absurd b (h x w1 v c)
theorem ef.ite{α:Type}{P:Program}{c:Prop} [Decidable c]{m k:Sem α}(h:ef P m)(a:ef P k):ef P (if c then m else k):=by split<;>assumption
theorem ef.append{P:Program}{ts:Array TypeId}{t:TypeId}{x:Value}:ef P (Builtin.append_ ts t #[.slice none 0 0,x]):=by
 unfold Builtin.append_;split
 case h_2=>exact .keeps .stuck
 rename_i tt sl y h3;refine ef.bind (.keeps .underlying) λd=>?_;split
 case h_2=>exact .keeps .stuck
 rename_i elem;split
 case h_2=>exact .keeps .stuck
 rename_i base sLen sCap;simp at h3;obtain⟨_,⟨rfl,rfl,rfl⟩,rfl⟩:=h3;refine ef.bind (.keeps .sizeOf) λsize=>?_
 extract_lets ju jp
 have hjp:∀z,ef P (jp z):=by
  intro z;dsimp -zeta only[jp]
  extract_lets jp2
  have hjp2:∀n,ef P (jp2 n):=by
   intro n;simp only[jp2];have ha:ef P (if(!z)=true then Builtin.firstCells size n x else if n*size=0 then Pure.pure #[]else(zeroValue elem >>= λzz=>Pure.pure (Builtin.zeroCells zz.cells n))):=ef.ite (.keeps .firstCells) (ef.ite .pure (ef.bind (.keeps .zero) λ_=> .pure));generalize (if(!z)=true then Builtin.firstCells size n x else if n*size=0 then Pure.pure #[]else(zeroValue elem >>= λzz=>Pure.pure (Builtin.zeroCells zz.cells n)))=app at*;refine ef.ite ?_ ?_
   ·exact ef.bind ha λ_=> .pure
   ·refine ef.bind (.keeps .typeInfo) λi=>?_;have last:ef P (do
      let mL<-Go.choose (Question.appendCap (0+n) 0 elem)
      let i<-typeInfo elem
      askRoom (mL*i.bytes)
      let old<-Builtin.firstCells size 0 (Value.slice none 0 0)
      let new<-app
      let zz<-zeroValue elem
      let a<-Go.newRow elem (old++new++Builtin.zeroCells zz.cells (mL-(0+n)))
      Pure.pure (Value.slice (some a) (0+n) mL)):=by
     refine ef.bind .choose λmL=>ef.bind (.keeps .typeInfo) λi=>ef.bind (.keeps .askRoom) λ_=>ef.bind (.keeps .firstCells) λold=>ef.bind ha λnew=>ef.bind (.keeps .zero) λzz=>ef.bind .newRow λa=> .pure
    have mid:∀u:Unit,ef P (do
      let i<-typeInfo elem
      if Builtin.nextslicecap (0+n) 0*i.bytes>2 ^ 48 then do
       let _ ← ((if z = true then (runtimePanic (RuntimeError.error "growslice: len out of range") : Sem Unit) else (Builtin.mayShare size 0 n none x >>= fun l => if (!l) = true then (mark Mark.noRoom >>= fun r => ju r) else ju ())) : Sem Unit)
       (do
      let mL<-Go.choose (Question.appendCap (0+n) 0 elem)
      let i<-typeInfo elem
      askRoom (mL*i.bytes)
      let old<-Builtin.firstCells size 0 (Value.slice none 0 0)
      let new<-app
      let zz<-zeroValue elem
      let a<-Go.newRow elem (old++new++Builtin.zeroCells zz.cells (mL-(0+n)))
      Pure.pure (Value.slice (some a) (0+n) mL))
      else(do
      let mL<-Go.choose (Question.appendCap (0+n) 0 elem)
      let i<-typeInfo elem
      askRoom (mL*i.bytes)
      let old<-Builtin.firstCells size 0 (Value.slice none 0 0)
      let new<-app
      let zz<-zeroValue elem
      let a<-Go.newRow elem (old++new++Builtin.zeroCells zz.cells (mL-(0+n)))
      Pure.pure (Value.slice (some a) (0+n) mL))):=by
     intro u;refine ef.bind (.keeps .typeInfo) λi=>ef.ite (ef.bind (ef.ite .panic (ef.never λl w v w'=>?_)) λ_=>last) last;split<;>simp[ju]
    exact ef.ite (ef.bind .panic λu=>mid u) (mid ())
  clear_value jp2
  refine ef.ite ?_ (ef.bind (.keeps .lenOf) λn=>hjp2 n);refine ef.bind (.keeps .asInt) λl=>?_;have k2:∀n:Nat,ef P (do let n<-Pure.pure n;jp2 n):=λn=>ef.bind .pure λn=>hjp2 n;have k1:∀l:Int,ef P (do
    let i<-typeInfo elem
    if l*i.bytes>2 ^ 48 then do
     let made ← Go.choose (Question.extern "append.ofMake.carriedOut" 2)
     let _ ← (runtimePanic (RuntimeError.error (if (made == 1) = true then "makeslice: len out of range" else "growslice: len out of range")) : Sem Unit)
     (do let n<-Pure.pure l.toNat;jp2 n)
    else(do let n<-Pure.pure l.toNat;jp2 n)):=λl=>ef.bind (.keeps .typeInfo) λi=>ef.ite (ef.bind .choose λ_=>ef.bind .panic λ_=>k2 _) (k2 _)
  exact ef.ite (ef.bind .panic λ_=>k1 _) (k1 _)
 clear_value jp
 split
 ·exact ef.bind (.keeps .underlying) λd=>ef.bind .pure λz=>hjp z
 ·exact ef.bind .pure λz=>hjp z
end
def qZ(o:Oper):Bool:=match o.op with
 | .call c=>(match c.callee,c.args.toList with| .builtin .append, [.const (.slice none 0 0),_]=>true|_,_=>false)
 |_=>false
theorem allocK_app{P:Program}{ent:FuncId->Bool}{ρ:Env}{o:Oper}(h:qZ o=true):iy P (sX ent ρ o):=by
 obtain⟨f,op,d,pos,b,guard⟩:=o;unfold qZ at h;cases op<;>simp only at h<;>try cases h
 case call c=>
  obtain⟨a,args,k⟩:=c;simp only at h;split at h
  ·rename_i x g;have e:pZ ρ args.toList=(cm ρ x).map λv=> [.slice none 0 0,v]:=by
    rw[g];show(match some (Value.slice none 0 0),(match cm ρ x,some []with|some v,some vs=>some (v::vs)|_,_=>none)with|some v,some vs=>some (v::vs)|_,_=>none)=_;cases cm ρ x<;>rfl
   simp only[sX,e];cases cm ρ x with
   |none=>exact trivial
   |some v=>exact λw u i j=>ef.append w u i j
  ·cases h
def kindX(o:Oper):Kd:=bif isCallV o then .alloc else bif qZ o then .alloc else mK o
def q6(ops:Array Oper)(j i:Nat):Bool:=match ops[j]?,ops[i]? with
 |some a,some b=>kdsOk (kindX a) (kindX b)&&a.apart ops b
 |_,_=>false
theorem isC_of{ent:FuncId->Bool}{ρ:Env}{o:Oper}(h:isCallV o=true):isC (sX ent ρ o)=true:=by
 obtain⟨j,op,i,pos,e,guard⟩:=o;unfold isCallV at h;cases op<;>simp only at h<;>try cases h
 case call c=>
  obtain⟨a,args,k⟩:=c;cases a with
  |value f=>
   simp only[sX];unfold nl;split
   ·rename_i g first d vs _ _
    cases ent g<;>rfl
   ·rfl
  |builtin b=>simp at h
  |invoke r m=>simp at h
theorem pf{o:Oper}{k:Kd}(h:kindX o=k)(a:k≠ .alloc):mK o=k:=by
 unfold kindX at h;cases b:isCallV o with
 |true=>rw[b]at h;exact absurd h.symm a
 |false=>
  rw[b]at h;cases c:qZ o with
  |true=>rw[c]at h;exact absurd h.symm a
  |false=>rw[c]at h;exact h
theorem kindX_alloc{P:Program}{ent:FuncId->Bool}{ρ:Env}{o:Oper}(h:kindX o= .alloc):iy P (sX ent ρ o)\/isC (sX ent ρ o)=true:=by
 unfold kindX at h;cases a:isCallV o with
 |true=>exact .inr (isC_of a)
 |false=>
  rw[a]at h;cases b:qZ o with
  |true=>exact .inl (allocK_app b)
  |false=>rw[b]at h;exact .inl (allocK_of h)
section
variable{D:Option (Nat->Prop)}{P:Program}{ent:FuncId->Bool}{n:Nat}{ops:Array Oper}
theorem evSeqX_swap{i j:Nat}(e:q6 ops j i=true){rest:List Nat}{ρ:Env}{w:World}{K:Env->World->Prop}(h:kM D P ent n ops (j::i::rest) ρ w K):
  kM D P ent n ops (i::j::rest) ρ w K:=by
 unfold q6 at e;simp only[kM]at h⊢;cases f:ops[j]? with
 |none=>rw[f]at e;simp at e
 |some a=>
  cases l:ops[i]? with
  |none=>rw[f,l]at e;simp at e
  |some b=>
   rw[f,l]at e h;simp only[cZ]at e;obtain⟨m,g⟩:=e;obtain⟨o,q,p⟩:=Oper.apart_spec g;simp only[evOpX]at h⊢;have r:∀v,gOf ops (ij n a.dst v ρ) b=gOf ops ρ b:=λv=>gOf_upd o;have s:∀v,sX ent (ij n a.dst v ρ) b=sX ent ρ b:=λv=>opk_upd o;have t:∀v,gOf ops (ij n b.dst v ρ) a=gOf ops ρ a:=λv=>gOf_upd p;have x:∀v,sX ent (ij n b.dst v ρ) a=sX ent ρ a:=λv=>opk_upd p;simp only[r,s]at h;simp only[t,x];have k:∀v u,ij n b.dst u (ij n a.dst v ρ)=ij n a.dst v (ij n b.dst u ρ):=λv u=>(updO_comm q).symm;simp only[k]at h;refine evXX_swap (D:=D) (K:=λv u w2=>kM D P ent n ops rest (ij n a.dst v (ij n b.dst u ρ)) w2 K) ?_ h;cases c:kindX a<;>cases d:kindX b<;>rw[c,d]at m<;>simp[kdsOk]at m<;>
    first
    |exact .inl (isP_of (pf c (by simp)))
    |exact .inr (.inl (isP_of (pf d (by simp))))
    |exact .inr (.inr (.inl ⟨isR_of (pf c (by simp)),isR_of (pf d (by simp))⟩))
    |exact .inr (.inr (.inr ⟨isR_of (pf c (by simp)),kindX_alloc d⟩))
theorem evOpX_mono{o:Oper}{ρ:Env}{w:World}{K a:Env->World->Prop}(b:∀ρ w,K ρ w->a ρ w)(h:evOpX D P ent n ops o ρ w K):evOpX D P ent n ops o ρ w a:=
 sr (λ_ _ h=>b _ _ h) h
theorem evSeqX_front{i:Nat}{rest:List Nat}{K:Env->World->Prop}:∀(l:List Nat) (ρ:Env) (w:World),(∀ j∈l,q6 ops j i=true)->kM D P ent n ops (l++i::rest) ρ w K->
  kM D P ent n ops (i::(l++rest)) ρ w K
 | [],_,_,_,h=>h
 |j::l,ρ,w,b,h=>by
  have c:kM D P ent n ops (j::i::(l++rest)) ρ w K:=by
   simp only[List.cons_append]at h;rw[kM]at h⊢;split at h
   ·exact h.elim
   ·exact evOpX_mono (λa d e=>evSeqX_front l a d (λk f=>b k (by simp[f])) e) h
  exact evSeqX_swap (b j (by simp)) c
theorem qb(s:EntOk P ent){Q:Exit->Act->World->Prop}{K:Env->World->Prop}(t:∀d a' k,fB n d a'->K d k->Q .normal a' k)(σ c:List Nat)
  (e:∀S i rest,σ=S++i::rest->∀j∈rest, [j,i].Sublist c->q6 ops j i=true):
  ∀(rest S π:List Nat) (ρ:Env) (a:Act) (w:World),σ=S++rest->π.Perm rest->π.Sublist c->fB n ρ a->kM D P ent n ops π ρ w K->wpOps P ops Q rest a w
 | [],S,π,ρ,a,w,_,hp,_,p,h=>by
  have:π= []:=List.perm_nil.1 hp;subst this;exact t _ _ _ p h
 |i::rest,S,π,ρ,a,w,m,hp,g,p,h=>by
  have v:i∈π:=hp.mem_iff.2 (by simp);obtain⟨l,r,rfl⟩:=List.append_of_mem v;have f:(l++r).Perm rest:=by
   have x:(i::(l++r)).Perm (i::rest):=(List.perm_middle.symm).trans hp;exact x.cons_inv
  have b:=evSeqX_front (i:=i) (rest:=r) l ρ w (λj u=>e S i rest m j (f.mem_iff.1 (by simp[u])) (by
   refine List.Sublist.trans ?_ g;have: [j,i]= [j]++ [i]:=rfl;rw[this];refine List.Sublist.append ?_ ?_
   ·exact List.singleton_sublist.2 u
   ·exact List.singleton_sublist.2 (by simp))) h
  rw[kM]at b;rw[wpOps_cons];unfold wpOp;split at b
  ·exact b.elim
  ·rename_i o y;simp only[y];refine tw s p (K:=λd k=>kM D P ent n ops (l++r) d k K) (λd a' k q z=>qb s t σ c e rest (S++ [i]) (l++r) d a' k (by simp[m]) f
    (List.Sublist.trans (List.Sublist.append (List.Sublist.refl l) (List.sublist_cons_self i r)) g) q z) ?_
   exact mu (λ_ _ h=>h.2) (evXX_weak b)
end
def rj(acc:List Nat)(o:Oper):Nat:=o.after.toList.foldr (λe s=>bif Region.binds .any e then(2 ^ e.on ||| acc.getD e.on 0) ||| s else s) 0
def rm:List Oper->List Nat->List Nat
 | [],a=>a
 |o::b,a=>rm b (a++ [rj a o])
def ancT(ops:Array Oper):List Nat:=rm ops.toList []
theorem mask_bit{acc:List Nat}{j:Nat}:∀{l:List Edge},(l.foldr (λe s=>bif Region.binds .any e then(2 ^ e.on ||| acc.getD e.on 0) ||| s else s) 0).testBit j=true->
  ∃e∈l,Region.binds .any e=true/\(e.on=j\/(acc.getD e.on 0).testBit j=true)
 | [],h=>by simp at h
 |e::l,h=>by
  simp only[List.foldr_cons]at h;cases hb:Region.binds .any e with
  |false=>
   rw[hb]at h;obtain⟨e',a,b⟩:=mask_bit (l:=l) h;exact⟨e',List.mem_cons_of_mem _ a,b⟩
  |true=>
   rw[hb]at h;simp only[cond_true,Nat.testBit_or,Bool.or_eq_true,Nat.testBit_two_pow,decide_eq_true_eq]at h;rcases h with(h|h)|h
   ·exact⟨e,by simp,hb,.inl h⟩
   ·exact⟨e,by simp,hb,.inr h⟩
   ·obtain⟨e',a,b⟩:=mask_bit (l:=l) h;exact⟨e',List.mem_cons_of_mem _ a,b⟩
theorem tx:∀(b:List Oper) (a:List Nat),(rm b a).take a.length=a
 | [],a=>by simp[rm]
 |o::b,a=>by
  have h:=tx b (a++ [rj a o]);simp only[rm];have c:=congrArg (List.take a.length) h;rw[List.take_take,Nat.min_eq_left (by simp)]at c;rw[c];simp
theorem ancGo_get:∀(b:List Oper) (a:List Nat) (k:Nat) (o:Oper),b[k]? =some o->∃pre,(rm b a).take pre.length=pre/\(rm b a).getD (a.length+k) 0=rj pre o
 | [],a,k,o,h=>by simp at h
 |o'::b,a,0,o,h=>by
  simp at h;subst h;refine⟨a,tx _ _,?_⟩;simp only[rm];have h:=tx b (a++ [rj a o']);have c:=congrArg (λl=>l.getD a.length 0) h;simp only[cq,List.length_singleton]at c;rw[Nat.add_zero];have d:((rm b (a++ [rj a o'])).take (a.length+1)).getD a.length 0=(rm b (a++ [rj a o'])).getD a.length 0:=by
   simp[cu]
  rw[<- d,c];simp[cu]
 |o'::b,a,k+1,o,h=>by
  have e:b[k]? =some o:=by simpa using h
  obtain⟨pre,c,d⟩:=ancGo_get b (a++ [rj a o']) k o e;refine⟨pre,c,?_⟩;rw[<- d];simp only[rm];congr 1;simp;omega
theorem anc_bit{ops:Array Oper}{i j:Nat}{o:Oper}(c:ops[i]? =some o)(h:((ancT ops).getD i 0).testBit j=true):
  ∃e∈o.after,Region.binds .any e=true/\(e.on=j\/((ancT ops).getD e.on 0).testBit j=true):=by
 obtain⟨pre,d,f⟩:=ancGo_get ops.toList [] i o (by simpa using c);have g:(ancT ops).getD i 0=rj pre o:=by simpa [ancT]using f
 rw[g]at h;obtain⟨e,k,hb,a⟩:=mask_bit h;refine⟨e,by simpa using k,hb,a.imp id λa=>?_⟩;have:pre.getD e.on 0=(ancT ops).getD e.on 0\/pre.getD e.on 0=0:=by
  by_cases b:e.on<pre.length
  ·left;have l:((ancT ops).take pre.length).getD e.on 0=pre.getD e.on 0:=by rw[show(ancT ops).take pre.length=pre from d]
   rw[<- l];simp[cu,b]
  ·right;simp[cu,List.getElem?_eq_none (Nat.le_of_not_lt b)]
 rcases this with h5|h5
 ·rw[<- h5];exact a
 ·rw[h5]at a;simp at a
def Lin(ops:Array Oper)(σ:List Nat):Prop:=∀S i rest,σ=S++i::rest->∃o,ops[i]? =some o/\∀e∈o.after,Region.binds .any e=true->e.on∈S
theorem lin_anc{ops:Array Oper}{σ:List Nat}(h:Lin ops σ):∀(k:Nat) (S:List Nat) (i:Nat) (rest:List Nat),S.length=k->σ=S++i::rest->∀j,((ancT ops).getD i 0).testBit j=true->j∈S:=by
 intro k;induction k using Nat.strongRecOn with
 |_ k f=>
  intro S i rest g a j l;obtain⟨o,m,b⟩:=h S i rest a;obtain⟨e,n,hb,hd⟩:=anc_bit m l;have c:=b e n hb;rcases hd with rfl|hd
  ·exact c
  ·obtain⟨d,p,rfl⟩:=List.append_of_mem c;have:=f d.length (by rw[<- g];simp) d e.on (p++i::rest) rfl (by rw[a];simp) j hd;simp[this]
theorem go_props{ops:Array Oper}:∀(fuel t:Nat) (a:Array Bool),a.size=ops.size->
  (∀ S i rest,Region.linearise.go .any ops fuel t a []=S++i::rest->∃o,ops[i]? =some o/\∀e∈o.after,Region.binds .any e=true->a.getD e.on false=true\/e.on∈S)/\
  (Region.linearise.go .any ops fuel t a []).Nodup/\(∀ i∈Region.linearise.go .any ops fuel t a [],a.getD i true=false)/\
  (∀ i,a.getD i true=false->i∈Region.linearise.go .any ops fuel t a []\/fuel<=(Region.linearise.go .any ops fuel t a []).length\/
   ∃L:Array Bool,L.size=ops.size/\Region.ready .any ops L= []/\L.getD i true=false)
 |0,t,a,d=>by
  simp[Region.linearise.go]
 |fuel+1,t,a,d=>by
  have g:Region.linearise.go .any ops (fuel+1) t a []=(match(Region.ready .any ops a)[t%(Region.ready .any ops a).length]? with
   |some i=>Region.linearise.go .any ops fuel (t/(Region.ready .any ops a).length) (a.setIfInBounds i true) [i]
   |none=> []):=rfl
  rw[g];cases q:(Region.ready .any ops a)[t%(Region.ready .any ops a).length]? with
  |none=>
   have j:Region.ready .any ops a= []:=by
    cases y:Region.ready .any ops a with
    |nil=>rfl
    |cons x xs=>
     rw[y]at q;have l:t%(x::xs).length<(x::xs).length:=Nat.mod_lt _ (by simp);simp only[List.getElem?_eq_none_iff]at q;omega
   refine⟨λS i rest h=>by simp at h,List.nodup_nil,λi h=>by simp at h,λi h=> .inr (.inr ⟨a,d,j,h⟩)⟩
  |some i=>
   simp only;rw[linearise_go_acc];simp only[List.reverse_singleton,List.singleton_append];have m:=cD q;obtain⟨r,o,w,n⟩:=mem_ready.1 m;have l:i<a.size:=by rw[d];exact(Array.getElem?_eq_some_iff.1 w).1
   obtain⟨p1,p2,p3,p4⟩:=go_props (ops:=ops) fuel (t/(Region.ready .any ops a).length) (a.setIfInBounds i true) (by simp[d]);have f:∀k,k≠i->(a.setIfInBounds i true).getD k true=a.getD k true:=λk hk=>getD_set_ne true (Ne.symm hk);have b:(a.setIfInBounds i true).getD i true=true:=by simp[l]
   refine⟨?_,?_,?_,?_⟩
   ·intro S k rest h;cases S with
    |nil=>
     simp at h;obtain⟨rfl,_⟩:=h;exact⟨o,w,λe u hb=> .inl (n e u hb)⟩
    |cons s S=>
     simp only[List.cons_append,List.cons.injEq]at h;obtain⟨rfl,h⟩:=h;obtain⟨ok,v,hk⟩:=p1 S k rest h;refine⟨ok,v,λe u hb=>?_⟩;by_cases p:e.on=i
     ·right;simp[p]
     ·rcases hk e u hb with h2|h2
      ·left;rwa[getD_set_ne false (Ne.symm p)]at h2
      ·right;simp[h2]
   ·refine List.nodup_cons.2 ⟨λz=>?_,p2⟩;have:=p3 i z;rw[b]at this;cases this
   ·intro k hk;rcases cV.1 hk with rfl|hk
    ·exact r
    ·have:=p3 k hk;by_cases c:k=i
     ·subst c;rw[b]at this;cases this
     ·rwa[f k c]at this
   ·intro k hk;by_cases c:k=i
    ·left;simp[c]
    ·rcases p4 k (by rw[f k c];exact hk)with h2|h2|h2
     ·left;simp[h2]
     ·right;left;simp;exact h2
     ·right;right;exact h2
def ss(ops:Array Oper):Bool:=ops.toList.zipIdx.all fun(o,i)=>o.after.toList.all λe=> !Region.binds .any e||Nat.blt e.on i
theorem edgesOk_spec{ops:Array Oper}(h:ss ops=true){i:Nat}{o:Oper}(b:ops[i]? =some o):∀e∈o.after,Region.binds .any e=true->e.on<i:=by
 intro e c hb;unfold ss at h;rw[List.all_eq_true]at h;have a:=h (o,i) (by rw[List.mem_zipIdx_iff_getElem?];simpa using b);simp only[List.all_eq_true]at a;have d:=a e (by simpa using c);simpa [hb,Nat.blt_eq]using d
theorem ready_ne{ops:Array Oper}(g:ss ops=true){L:Array Bool}(j:L.size=ops.size)(k:Region.ready .any ops L= []):∀i,L.getD i true=true:=by
 intro i;induction i using Nat.strongRecOn with
 |_ i l=>
  cases d:L.getD i true with
  |true=>rfl
  |false=>
   exfalso;have b:i<ops.size:=by
    rw[<- j];rcases dh i L.size with h|h
    ·exact h
    ·simp[Array.getElem?_eq_none h]at d
   have a:i∈Region.ready .any ops L:=mem_ready.2 ⟨d,ops[i],by simp[b],λe c hb=>by
    have m:=edgesOk_spec g (o:=ops[i]) (i:=i) (by simp[b]) e c hb;have f:=l e.on m;have n:e.on<L.size:=dB;simp[n]at f⊢;exact f⟩
   rw[k]at a;cases a
theorem nodup_len:∀(k:Nat) (l:List Nat),l.Nodup->(∀ i∈l,i<k)->l.length<=k
 |0,l,_,h=>by
  cases l with
  |nil=>simp
  |cons x xs=>exact absurd (h x (by simp)) dB
 |k+1,l,a,h=>by
  have e:=nodup_len k (l.erase k) (a.erase k) λi c=>by
   have:=(a.mem_erase_iff).1 c;have d:=h i this.2;have f:=this.1;omega
  have d:l.length<=(l.erase k).length+1:=by
   by_cases b:k∈l
   ·rw[List.length_erase_of_mem b];omega
   ·rw[List.erase_of_not_mem b];omega
  omega
theorem mem_of_full{k:Nat}{l:List Nat}(b:l.Nodup)(h:∀i,i∈l->i<k)(d:k<=l.length){i:Nat}(c:i<k):i∈l:=by
 refine Classical.byContradiction λa=>?_;have:=nodup_len k (i::l) (List.nodup_cons.2 ⟨a,b⟩) λj hj=>by
  rcases cV.1 hj with rfl|hj
  ·exact c
  ·exact h j hj
 simp at this;omega
theorem linearise_props{ops:Array Oper}(d:ss ops=true)(t:Nat):Lin ops (Region.linearise .any ops t)/\(List.range ops.size).Perm (Region.linearise .any ops t):=by
 obtain⟨p1,p2,p3,p4⟩:=go_props (ops:=ops) ops.size t (Array.replicate ops.size false) (by simp);have c:∀i,(Array.replicate ops.size false).getD i true=false<->i<ops.size:=λi=>by
  by_cases h:i<ops.size<;>simp[h]
 have a:∀i,i∈Region.linearise.go .any ops ops.size t (Array.replicate ops.size false) []->i<ops.size:=λi b=>(c i).1 (p3 i b);have k:∀i,(Array.replicate ops.size false).getD i false=false:=λi=>by
  by_cases h:i<ops.size<;>simp[h]
 refine⟨λS i rest h=>?_,?_⟩
 ·obtain⟨o,l,m⟩:=p1 S i rest h;refine⟨o,l,λe d hb=>(m e d hb).resolve_left ?_⟩;rw[k];simp
 ·refine(List.perm_ext_iff_of_nodup List.nodup_range p2).2 λi=>⟨λb=>?_,λb=>by simpa using a i b⟩
  rcases p4 i ((c i).2 (by simpa using b))with h|h|⟨L,n,p,g⟩
  ·exact h
  . -- as j as f q: r
   exact mem_of_full p2 a h (by simpa using b)
  ·have:=ready_ne d n p i;rw[this]at g;cases g
end Go.Proofs.YtnpflajdbchghaaGreat.Ev
