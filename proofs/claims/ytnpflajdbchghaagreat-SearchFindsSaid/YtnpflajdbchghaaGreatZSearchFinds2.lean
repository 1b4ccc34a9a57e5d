/- Parts of the proof of SearchFinds, one behind the other. Conditions: none. -/
import Derived.Tactics
import Derived.Test.YtnpflajdbchghaaGreatZSearchFinds1
set_option linter.unusedSimpArgs false
set_option linter.unusedVariables false
noncomputable section
namespace Go.Proofs.YtnpflajdbchghaaGreat.Ev
open Go
def gOf(ops:Array Oper)(ρ:Env)(o:Oper):Option (Option (Value×Bool)):=
 match o.guard with
 |none=>some none
 |some (g,want)=>match(ops[g]?).bind (·.dst)with
  |none=>none
  |some s=>match ρ s with
   |none=>none
   |some c=>some (some (c,want))
def evP(P:Program)(k:lW)(w:World)(K:Value->World->Prop):Prop:=
 match k with
 | .val v=>K v w
 | .opt v=>nP v λv=>K v w
 | .pure m=>nP (ai P m) λv=>K v w
 | .read t x=>nP (fR P t x w) λv=>K v w
 | .tI m=>dF P m w K
 | .effU m=>dE P m w λa=>K undef a
 | .call g args=>aa P g args w K
 | .bad=>False
def evG(P:Program)(k:lW)(c:Value)(want:Bool)(w:World)(K:Value->World->Prop):Prop:=
 match k with
 | .val v=>K (gv c want v) w
 | .opt v=>nP (gd c want v) λv=>K v w
 | .pure m=>nP (gd c want (ai P m)) λv=>K v w
 | .read t x=>nP (gd c want (fR P t x w)) λv=>K v w
 | .tI m=>gE c want (dF P m w) K w
 | .effU m=>gU c want (dE P m w) (λa=>K undef a) w
 | .call g args=>gE c want (aa P g args w) K w
 | .bad=>gE c want (λ_=>False) K w
def tA(P:Program)(g:Option (Option (Value×Bool)))(k:lW)(w:World)(K:Value->World->Prop):Prop:=
 match g with
 |none=>False
 |some none=>evP P k w K
 |some (some (c,want))=>evG P k c want w K
def evOp(P:Program)(ent:FuncId->Bool)(n:Nat)(ops:Array Oper)(o:Oper)(ρ:Env)(w:World)(K:Env->World->Prop):Prop:=
 tA P (gOf ops ρ o) (tz ent ρ o) w λv a=>K (iA n o.dst v ρ) a
def evOps(P:Program)(ent:FuncId->Bool)(n:Nat)(ops:Array Oper):List Oper->Env->World->(Env->World->Prop)->Prop
 | [],ρ,w,K=>K ρ w
 |o::rest,ρ,w,K=>evOp P ent n ops o ρ w λa b=>evOps P ent n ops rest a b K
section
variable{P:Program}{ent:FuncId->Bool}{n:Nat}{ops:Array Oper}{ρ:Env}{a:Act}{w:World}{o:Oper}
theorem gOf_none(h:gOf ops ρ o=some none):Region.wanted o (yielded ops a.tmps)=true:=by
 unfold gOf at h;cases b:o.guard with
 |none=>simp[Region.wanted,b]
 |some f=>
  obtain⟨g,want⟩:=f;rw[b]at h;simp only at h;cases d:(ops[g]?).bind (·.dst)with
  |none=>rw[d]at h;cases h
  |some s=>
   rw[d]at h;simp only at h;cases e:ρ s with
   |none=>rw[e]at h;cases h
   |some c=>rw[e]at h;cases h
theorem gOf_some{c:Value}{want:Bool}(i:fK n ρ a)(h:gOf ops ρ o=some (some (c,want))):Region.wanted o (yielded ops a.tmps)=yes c want:=by
 unfold gOf at h;cases b:o.guard with
 |none=>rw[b]at h;cases h
 |some j=>
  obtain⟨g,d⟩:=j;rw[b]at h;simp only at h;cases e:(ops[g]?).bind (·.dst)with
  |none=>rw[e]at h;cases h
  |some s=>
   rw[e]at h;simp only at h;cases f:ρ s with
   |none=>rw[f]at h;cases h
   |some l=>
    rw[f]at h;cases h;have k:=i.2.2 s c f;simp only[Region.wanted,b,yielded,e,Option.bind_some,k,yes];cases c<;>simp
theorem evP_sound(l:EntOk P ent)(p:fK n ρ a){K:Value->World->Prop}{next:Act->World->Prop}{Q:Exit->Act->World->Prop}
  (d:∀v f,K v f->next (a.put o.dst v) f) (h:evP P (tz ent ρ o) w K):o.wp P a w next Q:=by
 have c:=opk_is (P:=P) l p o;unfold Oper.wp;unfold evP at h;cases b:tz ent ρ o with
 |val v=>
  rw[b]at h c;rw[c,Sem.run_pure];exact d _ _ h
 |opt v=>
  rw[b]at h c;obtain⟨u,i,j⟩:=gN.1 h;rw[c u i w];exact d _ _ j
 |pure m=>
  rw[b]at h c;obtain⟨u,i,j⟩:=gN.1 h;rw[c];simp only[Sem.run_bind,pureRun_spec i w,Result.andThen_ok,Sem.run_pure];exact d _ _ j
 |read t x=>
  rw[b]at h c;obtain⟨u,i,j⟩:=gN.1 h;rw[c];simp only[Sem.run_bind,ldv_spec i,Result.andThen_ok,Sem.run_pure];exact d _ _ j
 |tI m=>
  rw[b]at h c;rw[c];simp only[dF]at h;simp only[Sem.run_bind];cases k:m.run P w with
  |halt x f=>rw[k]at h;exact h.elim
  |ok v f=>rw[k]at h;simp only[Result.andThen_ok,Sem.run_pure];exact d _ _ h
 |effU m=>
  rw[b]at h c;rw[c];simp only[dE]at h;simp only[Sem.run_bind];cases k:m.run P w with
  |halt x f=>rw[k]at h;exact h.elim
  |ok v f=>rw[k]at h;simp only[Result.andThen_ok,Sem.run_pure];exact d _ _ h
 |call g args=>
  rw[b]at h c;rw[c w,Oper.upon_enter];exact Calls.mono h λe f ⟨v,l,hv⟩=>by subst l;exact d _ _ hv
 |bad=>rw[b]at h;exact h.elim
theorem evG_yes{k:lW}{c:Value}{want:Bool}{K:Value->World->Prop}(a:yes c want=true):evG P k c want w K=evP P k w K:=by
 cases k<;>simp only[evP,evG,gv,gd,gE,gU,a,cond_true]
theorem evG_no{k:lW}{c:Value}{want:Bool}{K:Value->World->Prop}(a:yes c want=false)(h:evG P k c want w K):K undef w:=by
 cases k<;>simp only[evG,gv,gd,gE,gU,a,cond_false]at h<;>exact h
theorem tZ(i:EntOk P ent)(f:fK n ρ a){K:Env->World->Prop}{next:Act->World->Prop}{Q:Exit->Act->World->Prop}
  (k:∀e a' d,fK n e a'->K e d->next a' d) (h:evOp P ent n ops o ρ w K):
  if Region.wanted o (yielded ops a.tmps)then o.wp P a w next Q\/(o.asks P a w/\LetsOut Q)else next (a.put o.dst undef) w:=by
 unfold evOp tA at h;have b:∀v d,K (iA n o.dst v ρ) d->next (a.put o.dst v) d:=λv d h=>k _ _ _ (f.put o.dst v) h
 cases g:gOf ops ρ o with
 |none=>rw[g]at h;exact h.elim
 |some l=>
  rw[g]at h;cases l with
  |none=>
   rw[bX (gOf_none g)];exact .inl (evP_sound i f b h)
  |some m=>
   obtain⟨c,want⟩:=m;simp only at h;rw[gOf_some f g];cases j:yes c want with
   |true=>rw[bX rfl];rw[evG_yes j]at h;exact .inl (evP_sound i f b h)
   |false=>rw[bY (by simp)];exact b _ _ (evG_no j h)
theorem evP_mono{k:lW}{K d:Value->World->Prop}(a:∀v e,K v e->d v e)(h:evP P k w K):evP P k w d:=by
 cases k<;>simp only[evP]at h⊢
 case val v=>exact a _ _ h
 case opt v=>obtain⟨u,b,h⟩:=gN.1 h;exact gN.2 ⟨u,b,a _ _ h⟩
 case pure m=>obtain⟨u,b,h⟩:=gN.1 h;exact gN.2 ⟨u,b,a _ _ h⟩
 case read t x=>obtain⟨u,b,h⟩:=gN.1 h;exact gN.2 ⟨u,b,a _ _ h⟩
 case tI m=>unfold dF at *;cases c:m.run P w<;>rw[c]at h<;>simp only at h ⊢;exact a _ _ h
 case effU m=>unfold dE at *;cases c:m.run P w<;>rw[c]at h<;>simp only at h ⊢;exact a _ _ h
 case call g args=>exact aa.mono h a
theorem evG_not{k:lW}{c:Value}{want:Bool}{K:Value->World->Prop}(a:yes c want=false):evG P k c want w K<->True/\K undef w:=by
 cases k<;>simp[evG,gv,gd,gE,gU,a,nP]
theorem evX_bad{g:Option (Option (Value×Bool))}{w:World}{K:Value->World->Prop}:tA P g .bad w K<->∃c want,g=some (some (c,want))/\yes c want=false/\K undef w:=by
 unfold tA;match g with
 |none=>simp
 |some none=>simp[evP]
 |some (some (c,want))=>
  constructor
  ·intro h;cases a:yes c want with
   |true=>simp[evG,gE,a]at h
   |false=>simp only[evG,gE,a,cond_false]at h;exact⟨c,want,rfl,a,h⟩
  ·rintro⟨d,b,e,a,h⟩;cases e;simp only[evG,gE,a,cond_false];exact h
theorem mH{g:Option (Option (Value×Bool))}{k:lW}{K b:Value->World->Prop}(a:∀v d,K v d->b v d)(h:tA P g k w K):tA P g k w b:=by
 unfold tA at h⊢;split at h
 ·exact h
 ·exact evP_mono a h
 ·rename_i c want;cases e:yes c want with
  |true=>rw[evG_yes e]at h ⊢;exact evP_mono a h
  |false=>rw[evG_not e]at h ⊢;exact⟨h.1,a _ _ h.2⟩
theorem evOps_sound(f:EntOk P ent){Q:Exit->Act->World->Prop}{K:Env->World->Prop}(g:∀b a' c,fK n b a'->K b c->Q .normal a' c):
  ∀(l:List Oper) {ρ:Env} {a:Act} {w:World},fK n ρ a->evOps P ent n ops l ρ w K->wpList P ops Q l a w
 | [],_,_,_,d,h=>g _ _ _ d h
 |o::rest,ρ,a,w,d,h=>by
  unfold wpList;exact tZ f d (λb a' c e i=>evOps_sound f g rest e i) h
end
inductive Kd where
 |pure|read|alloc|tI
def mY(o:Oper):Kd:=
 match o.op with
 | .move _| .assign _| .pick .. | .build .. | .nilCheck _| .binOp .. | .unOp .. | .makeInterface .. | .makeFunc .. | .slice .. | .fieldAddr .. | .field ..
 | .indexAddr .. | .index .. | .typeAssert .. | .extract .. => .pure
 | .convert s d _=>bif cvE s d then .tI else .pure
 | .load .. => .read
 | .alloc _| .box .. | .buildSlice .. | .makeSlice .. => .alloc
 | .call c=>match c.callee with
  | .builtin .len| .builtin .cap| .builtin .min| .builtin .max=> .pure
  |_=> .tI
 |_=> .tI
def isP:lW->Bool
 | .val _| .opt _| .pure _| .bad=>true
 |_=>false
def isR:lW->Bool
 | .read _ _| .bad=>true
 |_=>false
def iG(P:Program):lW->Prop
 | .tI m=>∀w v a,m.run P w= .ok v a->Ext w a
 | .bad=>True
 |_=>False
theorem on1_ind{p:lW->Prop}(hb:p .bad){o:Option Value}{f:Value->lW}(h:∀v,p (f v)):p (on1 o f):=by cases o;exact hb;exact h _
theorem on2_ind{p:lW->Prop}(hb:p .bad){o q:Option Value}{f:Value->Value->lW}(h:∀v u,p (f v u)):p (on2 o q f):=by
 cases o;exact hb;cases q;exact hb;exact h _ _
theorem oN{α:Type}{p:lW->Prop}(hb:p .bad){o:Option α}{f:α->lW}(h:∀v,p (f v)):p (onL o f):=by cases o;exact hb;exact h _
theorem isP_of{ent:FuncId->Bool}{ρ:Env}{o:Oper}(h:mY o= .pure):isP (tz ent ρ o)=true:=by
 obtain⟨i,op,g,pos,e,guard⟩:=o;cases op<;>simp only[mY]at h<;>simp only[tz]<;>try cases h
 case call c=>
  obtain⟨a,args,l⟩:=c;cases a with
  |builtin b=>cases b<;>simp at h<;>exact oN (p:=λk=>isP k=true) rfl λvs=>rfl
  |value f=>simp at h
  |invoke r m=>simp at h
 case convert s d x=>
  cases j:cvE s d with
  |true=>rw[j]at h;cases h
  |false=>exact on1_ind (p:=λk=>isP k=true) rfl λv=>rfl
 all_goals
  first
  |exact on1_ind (p:=λk=>isP k=true) rfl λv=>rfl
  |exact on2_ind (p:=λk=>isP k=true) rfl λv u=>rfl
  |exact oN (p:=λk=>isP k=true) rfl λv=>rfl
  |exact oN (p:=λk=>isP k=true) rfl λv=>oN (p:=λk=>isP k=true) rfl λv=>rfl
  |exact on1_ind (p:=λk=>isP k=true) rfl λv=>oN (p:=λk=>isP k=true) rfl λv=>oN (p:=λk=>isP k=true) rfl λv=>oN (p:=λk=>isP k=true) rfl λv=>rfl
theorem isR_of{ent:FuncId->Bool}{ρ:Env}{o:Oper}(h:mY o= .read):isR (tz ent ρ o)=true:=by
 obtain⟨i,op,g,pos,e,guard⟩:=o;cases op<;>simp only[mY]at h<;>simp only[tz]<;>try cases h
 case call c=>
  obtain⟨a,args,l⟩:=c;cases a with
  |builtin b=>cases b<;>simp at h
  |value f=>simp at h
  |invoke r m=>simp at h
 case convert s d x=>cases j:cvE s d<;>rw[j]at h<;>cases h
 all_goals exact on1_ind (p:=λk=>isR k=true) rfl λv=>rfl
theorem ext_push(w:World)(o:Obj):Ext w {w with heap:=w.heap.push o}:=by
 intro a v h;unfold World.cell? at h⊢;have b:a.block<w.heap.size:=by
  rcases cZ a.block w.heap.size with h1|h1
  ·exact h1
  ·simp[Array.getElem?_eq_none h1]at h
 simp only[Array.getElem?_push,bY (Nat.ne_of_lt b)];exact h
theorem allocM{P:Program}{m:Sem Value}(h:∀w v a,m.run P w= .ok v a->∃o,a={w with heap:=w.heap.push o}):iG P (.tI m):=
 λw v a b=>by obtain⟨o,rfl⟩:=h w v a b;exact ext_push w o
theorem oO{P:Program}{t:TypeId}{w:World}{x:TypeInfo}{a:World}(h:(typeInfo t).run P w= .ok x a):a=w:=by
 simp only[typeInfo,Sem.run_bind,run_program,Result.andThen_ok]at h;split at h
 ·simp at h;exact h.2.symm
 ·simp at h
theorem run_newVar'{P:Program}{t:TypeId}{v:Value}(w:World):(newVar t v).run P w= .ok ⟨w.heap.size,0,none⟩ {w with heap:=w.heap.push (.cells v.cells t)}:=rfl
theorem alloc_box{P:Program}{t:TypeId}{v:Value}:iG P (.tI (Instr.box t v)):=allocM λw u b h=>by
 simp only[Instr.box,Sem.run_bind,run_newVar',Result.andThen_ok,Sem.run_pure]at h;injection h with c a
 exact⟨_,a.symm⟩
theorem zero_same{P:Program}{t:TypeId}{w b:World}{z:Value}(h:(zeroValue t).run P w= .ok z b):b=w:=by
 simp only[zeroValue,Sem.run_bind]at h;cases a:(typeInfo t).run P w with
 |halt x w1=>rw[a]at h;simp at h
 |ok x w1=>
  rw[a]at h;have:=oO a;subst this;simp only[Result.andThen_ok]at h;split at h
  ·simp at h;exact h.2.symm
  ·simp at h
theorem alloc_alloc{P:Program}{t:TypeId}:iG P (.tI (Instr.alloc t true (.tuple #[]))):=allocM λw u c h=>by
 simp only[Instr.alloc,Sem.run_bind]at h;cases a:(zeroValue t).run P w with
 |halt x w1=>rw[a]at h;simp at h
 |ok x w1=>
  rw[a]at h;have:=zero_same a;subst this;simp only[Result.andThen_ok,run_newVar',Sem.run_pure]at h;injection h with d b
  exact⟨_,b.symm⟩
def ej{α:Type}(P:Program)(m:Sem α):Prop:=∀w v a,m.run P w= .ok v a->a=w
theorem ej.bind{α β:Type}{P:Program}{m:Sem α}{f:α->Sem β}(h:ej P m)(d:∀a,ej P (f a)):ej P (m >>= f):=by
 intro w v e b;simp only[Sem.run_bind]at b;cases c:m.run P w with
 |halt x w1=>rw[c]at b;simp at b
 |ok x w1=>
  rw[c]at b;have:=h _ _ _ c;subst this;exact d _ _ _ _ b
theorem ej.pure{α:Type}{P:Program}{a:α}:ej P (Pure.pure a:Sem α):=λw v b h=>by simp at h;exact h.2.symm
theorem ej.halt{α:Type}{P:Program}{x:Halt}:ej P (.halt x:Sem α):=λw v a h=>by simp at h
theorem ej.stuck{α:Type}{P:Program}{x:String}:ej P (stuck x:Sem α):=λw v a h=>by simp at h
theorem ej.unsupported{α:Type}{P:Program}{x:Unsupported}:ej P (unsupported x:Sem α):=λw v a h=>by simp at h
theorem ej.program{P:Program}:ej P program:=λw v a h=>by simp at h;exact h.2.symm
theorem ej.typeInfo{P:Program}{t:TypeId}:ej P (typeInfo t):=λ_ _ _ h=>oO h
theorem ej.underlying{P:Program}{t:TypeId}:ej P (underlying t):=by
 unfold Go.underlying;refine ej.program.bind λp=>?_;cases p.underlying t with
 |none=>exact .stuck
 |some d=>exact .pure
theorem ej.sizeOf{P:Program}{t:TypeId}:ej P (sizeOf t):=ej.typeInfo.bind λ_=> .pure
theorem ej.zero{P:Program}{t:TypeId}:ej P (zeroValue t):=λ_ _ _ h=>zero_same h
theorem eQ{α:Type}{P:Program}{m:Sem α}{f:α->Sem Value}(h:ej P m)(d:∀a,iG P (.tI (f a))):iG P (.tI (m >>= f)):=by
 intro w v e b;simp only[Sem.run_bind]at b;cases c:m.run P w with
 |halt x w1=>rw[c]at b;simp at b
 |ok x w1=>
  rw[c]at b;have:=h _ _ _ c;subst this;exact d _ _ _ _ b
theorem qj{P:Program}{x:Halt}:iG P (.tI (.halt x)):=λw v a h=>by simp at h
theorem sR{P:Program}{e:TypeId}{cs:Array Value}{f:Addr->Value}:iG P (.tI (do let a<-newRow e cs;Pure.pure (f a))):=allocM λw u c h=>by
 simp only[newRow,Sem.run_bind,run_newObj,Result.andThen_ok,Sem.run_pure]at h;injection h with d b
 exact⟨_,b.symm⟩
theorem alloc_buildSlice{P:Program}{t:TypeId}{k:Nat}{a:Array (Nat×Value)}:iG P (.tI (Instr.buildSlice t k a)):=by
 unfold Instr.buildSlice;refine eQ .underlying λd=>?_;split
 case h_2=>exact qj
 refine eQ .sizeOf λs=>?_;dsimp only;split
 ·intro w v b h;simp at h
 ·split
  ·refine eQ .pure λz=>?_;split
   ·exact sR
   ·exact qj
  ·refine eQ .zero λz=>eQ .pure λz=>?_;split
   ·exact sR
   ·exact qj
theorem ej.asInt{P:Program}{v:Value}:ej P (asInt v):=by
 unfold Go.asInt asIntOf;refine ej.bind ?_ λ_=> .pure;split
 ·exact .pure
 ·exact .unsupported
 ·exact .stuck
theorem oP{α:Type}{P:Program}{e:RuntimeError}{w b:World}{v:α}(h:(runtimePanic e:Sem α).run P w= .ok v b):False:=by
 cases e<;>simp only[runtimePanic,Sem.run_bind,run_program,Result.andThen_ok]at h
 case typeAssertion i c a m=>
  revert h;generalize (elemOf P.rt.typeAssertionError).run P w=r;cases r<;>simp[newVar,newRow]
 case panicNil=>
  revert h;generalize (elemOf P.rt.panicNilError).run P w=r;cases r<;>simp[newVar,newRow]
 all_goals simp at h
theorem ej.askRoom{P:Program}{k:Nat}:ej P (askRoom k):=λw v a h=>by simp at h;exact h.symm
theorem alloc_makeSlice{P:Program}{t:TypeId}{l c:Value}:iG P (.tI (Instr.makeSlice t l c)):=by
 unfold Instr.makeSlice;refine eQ .underlying λd=>?_;split
 case h_2=>exact qj
 refine eQ .asInt λl=>eQ .asInt λc=>eQ .typeInfo λi=>?_;dsimp only;split
 ·intro w v w' h;exfalso;split at h
  ·simp only[Sem.run_bind]at h
   cases hr : (runtimePanic (.error "makeslice: cap out of range") : Sem PUnit).run P w with
   |ok v w1=>exact oP hr
   |halt x w1=>rw[hr]at h;simp at h
  ·split at h
   ·simp only[Sem.run_bind]at h
    cases hr : (runtimePanic (.error "makeslice: len out of range") : Sem PUnit).run P w with
    |ok v w1=>exact oP hr
    |halt x w1=>rw[hr]at h;simp at h
   ·simp only[Sem.run_bind]at h;revert h
    generalize (choose (.extern "makeslice.lenOrCap" 2)).run P w = r
    intro h;cases r with
    |halt x w1=>simp at h
    |ok k w1=>
     simp only[Result.andThen_ok]at h
     cases hr : (runtimePanic (.error (if (k == 1) = true then "makeslice: cap out of range" else "makeslice: len out of range")) : Sem PUnit).run P w1 with
     |ok v w1=>exact oP hr
     |halt x w1=>rw[hr]at h;simp at h
 ·refine eQ .askRoom λ_=>eQ .sizeOf λs=>?_;split
  ·exact eQ .pure λz=>sR
  ·exact eQ .zero λz=>eQ .pure λz=>sR
theorem allocK_of{P:Program}{ent:FuncId->Bool}{ρ:Env}{o:Oper}(h:mY o= .alloc):iG P (tz ent ρ o):=by
 obtain⟨i,op,g,pos,e,guard⟩:=o;cases op<;>simp only[mY]at h<;>simp only[tz]<;>try cases h
 case alloc t=>exact alloc_alloc
 case box t x=>exact on1_ind (p:=iG P) trivial λv=>alloc_box
 case buildSlice t k n=>exact oN (p:=iG P) trivial λv=>alloc_buildSlice
 case makeSlice t l c=>exact on2_ind (p:=iG P) trivial λv u=>alloc_makeSlice
 case convert s d x=>cases j:cvE s d<;>rw[j]at h<;>cases h
 case call c=>
  obtain⟨a,args,q⟩:=c;cases a with
  |builtin b=>cases b<;>simp at h
  |value f=>simp at h
  |invoke r m=>simp at h
noncomputable def pvX(P:Program)(g:Option (Option (Value×Bool)))(k:lW):Option Value:=
 let x:Option (Option Value):=match k with| .val v=>some (some v)| .opt v=>some v| .pure m=>some (ai P m)| .bad=>some none|_=>none
 match g with
 |none=>none
 |some none=>x.bind id
 |some (some (c,want))=>x.bind λx=>gd c want x
theorem jW{P:Program}{g:Option (Option (Value×Bool))}{k:lW}(b:isP k=true){w:World}{K:Value->World->Prop}:tA P g k w K<->∃v,pvX P g k=some v/\K v w:=by
 unfold tA pvX;cases g with
 |none=>simp
 |some d=>
  cases d with
  |none=>cases k<;>simp[isP]at b<;>simp[evP,gN]
  |some e=>
   obtain⟨c,want⟩:=e;cases k<;>simp[isP]at b<;>simp[evG,gN]
   case bad=>cases a:yes c want<;>simp[gE,gd,a]
   case val v=>cases a:yes c want<;>simp[gv,gd,a]
def rvX(P:Program)(g:Option (Option (Value×Bool)))(k:lW)(w:World):Option Value:=
 match g,k with
 |some none,.read t x=>fR P t x w
 |some (some (c,want)),.read t x=>gd c want (fR P t x w)
 |some (some (c,want)),.bad=>gd c want none
 |_,_=>none
theorem jr{P:Program}{g:Option (Option (Value×Bool))}{k:lW}(a:isR k=true){w:World}{K:Value->World->Prop}:tA P g k w K<->∃v,rvX P g k w=some v/\K v w:=by
 unfold tA rvX;cases g with
 |none=>simp
 |some b=>
  cases b with
  |none=>cases k<;>simp[isR]at a<;>simp[evP,gN]
  |some d=>obtain⟨c,want⟩:=d;cases k<;>simp[isR]at a<;>simp[evG,gN];(cases e:yes c want<;>simp[gE,gd,e])
theorem rvX_ext{P:Program}{g:Option (Option (Value×Bool))}{k:lW}{w a:World}(h:Ext w a){v:Value}(hv:rvX P g k w=some v):rvX P g k a=some v:=by
 unfold rvX at hv⊢;split at hv
 ·exact ldv_ext h hv
 ·rename_i c want t x;unfold gd at hv⊢;cases b:yes c want with
  |true=>rw[b]at hv;exact ldv_ext h hv
  |false=>rw[b]at hv;exact hv
 ·exact hv
 ·cases hv
theorem evP_ex{P:Program}{k:lW}{w:World}{K:Value->World->Prop}(h:evP P k w K):∃v a,K v a:=by
 cases k<;>simp only[evP]at h
 case val v=>exact⟨_,_,h⟩
 case opt v=>obtain⟨u,_,h⟩:=gN.1 h;exact⟨_,_,h⟩
 case pure m=>obtain⟨u,_,h⟩:=gN.1 h;exact⟨_,_,h⟩
 case read t x=>obtain⟨u,_,h⟩:=gN.1 h;exact⟨_,_,h⟩
 case tI m=>unfold dF at h;split at h;exact⟨_,_,h⟩;exact h.elim
 case effU m=>unfold dE at h;split at h;exact⟨_,_,h⟩;exact h.elim
 case call g args=>obtain⟨e,a,b,⟨v,_,hv⟩,_⟩:=h [];exact⟨_,_,hv⟩
theorem evX_ex{P:Program}{g:Option (Option (Value×Bool))}{k:lW}{w:World}{K:Value->World->Prop}(h:tA P g k w K):∃v b,K v b:=by
 unfold tA at h;split at h
 ·exact h.elim
 ·exact evP_ex h
 ·rename_i c want;cases a:yes c want with
  |true=>rw[evG_yes a]at h;exact evP_ex h
  |false=>exact⟨_,_,evG_no a h⟩
theorem Ext.refl(w:World):Ext w w:=λ_ _ h=>h
theorem evX_alloc{P:Program}{g:Option (Option (Value×Bool))}{k:lW}(e:iG P k){w:World}{K:Value->World->Prop}(h:tA P g k w K):tA P g k w λv a=>Ext w a/\K v a:=by
 have plain:evP P k w K->evP P k w λv a=>Ext w a/\K v a:=by
  intro b;cases k with
  |tI m=>
   simp only[evP]at b⊢;unfold dF at*;cases d:m.run P w with
   |ok v a=>rw[d]at b;exact⟨e _ _ _ d,b⟩
   |halt x a=>rw[d]at b;exact b
  |bad=>exact b
  |_=>exact e.elim
 unfold tA at h⊢;split at h
 ·exact h
 ·exact plain h
 ·rename_i c want;cases f:yes c want with
  |true=>rw[evG_yes f]at h ⊢;exact plain h
  |false=>rw[evG_not f]at h ⊢;exact⟨h.1,.refl w,h.2⟩
theorem evX_swap{P:Program}{i j:Option (Option (Value×Bool))}{d e:lW}{w:World}{K:Value->Value->World->Prop}
  (k:isP d=true\/isP e=true\/(isR d=true/\isR e=true)\/(isR d=true/\iG P e))
  (h:tA P i d w λv w1=>tA P j e w1 λu w2=>K v u w2):tA P j e w λu w1=>tA P i d w1 λv w2=>K v u w2:=by
 rcases k with a|hi|⟨a,hi⟩|⟨a,hi⟩
 ·obtain⟨v,hv,c⟩:=(jW a).1 h;exact mH (λu w1 b=>(jW a).2 ⟨v,hv,b⟩) c
 ·obtain⟨v,w1,c⟩:=evX_ex h;obtain⟨u,g,_⟩:=(jW hi).1 c;refine(jW hi).2 ⟨u,g,mH (λv w1 b=>?_) h⟩;obtain⟨m,f,l⟩:=(jW hi).1 b;rw[g]at f;cases f;exact l
 ·obtain⟨v,hv,c⟩:=(jr a).1 h;obtain⟨u,g,b⟩:=(jr hi).1 c;exact(jr hi).2 ⟨u,g,(jr a).2 ⟨v,hv,b⟩⟩
 ·obtain⟨v,hv,c⟩:=(jr a).1 h;exact mH (λu w1 b=>(jr a).2 ⟨v,rvX_ext b.1 hv,b.2⟩) (evX_alloc hi c)
theorem opv_upd{n:Nat}{ρ:Env}{d:Option Nat}{v:Value}{x:Operand}(h:∀e,d=some e->x≠ .tmp e):dB (iA n d v ρ) x=dB ρ x:=by
 cases d with
 |none=>rfl
 |some d=>
  cases x with
  |tmp t=>
   have a:t≠d:=λe=>h d rfl (e▸rfl);have:Nat.beq t d=false:=by
    cases hb:Nat.beq t d with
    |false=>rfl
    |true=>exact absurd (Nat.eq_of_beq_eq_true hb) a
   simp[dB,iA,upd,this]
  |_=>rfl
theorem qk{ρ a:Env}:∀{xs:List Operand},(∀ x∈xs,dB ρ x=dB a x)->qg ρ xs=qg a xs
 | [],_=>rfl
 |x::xs,h=>by
  have b:=qk (xs:=xs) λy c=>h y (List.mem_cons_of_mem _ c);simp only[qg,h x (by simp),b]
theorem pe{ρ a:Env}:∀{xs:List (Nat×Operand)},(∀ x∈xs,dB ρ x.2=dB a x.2)->nt ρ xs=nt a xs
 | [],_=>rfl
 |(i,x)::xs,h=>by
  have b:=pe (xs:=xs) λy c=>h y (List.mem_cons_of_mem _ c);simp only[nt,h (i,x) (by simp),b]
theorem rD{ρ a:Env}{x:Option Operand}(h:∀y,x=some y->dB ρ y=dB a y):opmay ρ x=opmay a x:=by
 cases x with
 |none=>rfl
 |some x=>simp only[opmay,h x rfl]
theorem opk_congr{ent:FuncId->Bool}{ρ d:Env}(o:Oper)(h:∀x∈o.op.operands,dB ρ x=dB d x):tz ent ρ o=tz ent d o:=by
 obtain⟨l,op,i,pos,e,guard⟩:=o;cases op<;>simp only[Op.operands]at h<;>simp only[tz]
 case build t n=>rw[pe λx hx=>h x.2 (by simp;exact⟨x.1,Array.mem_toList_iff.1 hx⟩)]
 case buildSlice t k n=>rw[pe λx hx=>h x.2 (by simp;exact⟨x.1,Array.mem_toList_iff.1 hx⟩)]
 case makeFunc fn first g=>
  rw[qk (xs:=first.toList) λx hx=>h x (by simp;exact .inl (by simpa using hx)),qk (xs:=g.toList) λx hx=>h x (by simp;exact .inr (by simpa using hx))]
 case slice t x p q s=>
  rw[h x (by simp),rD (x:=p) λy hy=>h y (by simp[hy]),rD (x:=q) λy hy=>h y (by simp[hy]),rD (x:=s) λy hy=>h y (by simp[hy])]
 case call c=>
  obtain⟨a,args,u⟩:=c;simp only[Call.operands]at h;have j:qg ρ args.toList=qg d args.toList:=qk λx hx=>h x (by simp;exact .inr (by simpa using hx));cases a with
  |builtin b=>simp only[j]
  |value f=>simp only[j,h f (by simp)]
  |invoke r m=>rfl
 all_goals (first|rfl|(simp_all;done))
theorem gOf_upd{n:Nat}{ops:Array Oper}{ρ:Env}{o:Oper}{d:Option Nat}{v:Value}(h:∀e,d=some e->e∉o.looksAt ops):gOf ops (iA n d v ρ) o=gOf ops ρ o:=by
 unfold gOf;cases a:o.guard with
 |none=>rfl
 |some b=>
  obtain⟨g,want⟩:=b;simp only;cases c:(ops[g]?).bind (·.dst)with
  |none=>rfl
  |some s=>
   have f:dB (iA n d v ρ) (.tmp s)=dB ρ (.tmp s):=opv_upd λe i j=>by
    cases j;exact h s i (by simp[Oper.looksAt,a,c])
   have k:iA n d v ρ s=ρ s:=f;simp only[k]
theorem opk_upd{ent:FuncId->Bool}{n:Nat}{ops:Array Oper}{ρ:Env}{o:Oper}{d:Option Nat}{v:Value}(h:∀e,d=some e->e∉o.looksAt ops):tz ent (iA n d v ρ) o=tz ent ρ o:=
 opk_congr o λx b=>opv_upd λe c a=>h e c (by
  subst a;exact List.mem_append_left _ (List.mem_filterMap.2 ⟨.tmp e,by simpa using b,rfl⟩))
theorem updO_comm{n:Nat}{ρ:Env}{d e:Option Nat}{v u:Value}(h:∀x,d=some x->e≠some x):iA n d v (iA n e u ρ)=iA n e u (iA n d v ρ):=by
 cases d with
 |none=>rfl
 |some d=>
  cases e with
  |none=>rfl
  |some e=>
   have a:d≠e:=λb=>h d rfl (by rw[b]);funext i;simp only[iA,upd];cases c:Nat.beq i d with
   |false=>rfl
   |true=>
    cases f:Nat.beq i e with
    |false=>rfl
    |true=>exact absurd ((Nat.eq_of_beq_eq_true c).symm.trans (Nat.eq_of_beq_eq_true f)) a
def qV(P:Program)(ent:FuncId->Bool)(n:Nat)(ops:Array Oper):List Nat->Env->World->(Env->World->Prop)->Prop
 | [],ρ,w,K=>K ρ w
 |i::rest,ρ,w,K=>match ops[i]? with
  |none=>False
  |some o=>evOp P ent n ops o ρ w λa b=>qV P ent n ops rest a b K
def kdsOk:Kd->Kd->Bool
 | .pure,_|_,.pure| .read,.read| .read,.alloc=>true
 |_,_=>false
def canSwap(ops:Array Oper)(j i:Nat):Bool:=match ops[j]?,ops[i]? with
 |some a,some b=>kdsOk (mY a) (mY b)&&a.apart ops b
 |_,_=>false
section
variable{P:Program}{ent:FuncId->Bool}{n:Nat}{ops:Array Oper}
theorem evSeq_swap{i j:Nat}(e:canSwap ops j i=true){rest:List Nat}{ρ:Env}{w:World}{K:Env->World->Prop}(h:qV P ent n ops (j::i::rest) ρ w K):
  qV P ent n ops (i::j::rest) ρ w K:=by
 unfold canSwap at e;simp only[qV]at h⊢;cases f:ops[j]? with
 |none=>rw[f]at e;simp at e
 |some a=>
  cases l:ops[i]? with
  |none=>rw[f,l]at e;simp at e
  |some b=>
   rw[f,l]at e h;simp only[de]at e;obtain⟨m,g⟩:=e;obtain⟨o,q,p⟩:=Oper.apart_spec g;simp only[evOp]at h⊢;have r:∀v,gOf ops (iA n a.dst v ρ) b=gOf ops ρ b:=λv=>gOf_upd o;have s:∀v,tz ent (iA n a.dst v ρ) b=tz ent ρ b:=λv=>opk_upd o;have t:∀v,gOf ops (iA n b.dst v ρ) a=gOf ops ρ a:=λv=>gOf_upd p;have x:∀v,tz ent (iA n b.dst v ρ) a=tz ent ρ a:=λv=>opk_upd p;simp only[r,s]at h;simp only[t,x];have k:∀v u,iA n b.dst u (iA n a.dst v ρ)=iA n a.dst v (iA n b.dst u ρ):=λv u=>(updO_comm q).symm;simp only[k]at h;refine evX_swap (K:=λv u w2=>qV P ent n ops rest (iA n a.dst v (iA n b.dst u ρ)) w2 K) ?_ h;cases c:mY a<;>cases d:mY b<;>rw[c,d]at m<;>simp[kdsOk]at m<;>
    first
    |exact .inl (isP_of c)
    |exact .inr (.inl (isP_of d))
    |exact .inr (.inr (.inl ⟨isR_of c,isR_of d⟩))
    |exact .inr (.inr (.inr ⟨isR_of c,allocK_of d⟩))
theorem evOp_mono{o:Oper}{ρ:Env}{w:World}{K a:Env->World->Prop}(b:∀ρ w,K ρ w->a ρ w)(h:evOp P ent n ops o ρ w K):evOp P ent n ops o ρ w a:=
 mH (λ_ _ h=>b _ _ h) h
theorem evSeq_front{i:Nat}{rest:List Nat}{K:Env->World->Prop}:∀(l:List Nat) (ρ:Env) (w:World),(∀ j∈l,canSwap ops j i=true)->qV P ent n ops (l++i::rest) ρ w K->
  qV P ent n ops (i::(l++rest)) ρ w K
 | [],_,_,_,h=>h
 |j::l,ρ,w,b,h=>by
  have c:qV P ent n ops (j::i::(l++rest)) ρ w K:=by
   simp only[List.cons_append]at h;rw[qV]at h⊢;split at h
   ·exact h.elim
   ·exact evOp_mono (λa d e=>evSeq_front l a d (λk f=>b k (by simp[f])) e) h
  exact evSeq_swap (b j (by simp)) c
theorem evSeq_sound(s:EntOk P ent){Q:Exit->Act->World->Prop}{K:Env->World->Prop}(t:∀f a' m,fK n f a'->K f m->Q .normal a' m)(σ c:List Nat)
  (d:∀S i rest,σ=S++i::rest->∀j∈rest, [j,i].Sublist c->canSwap ops j i=true):
  ∀(rest S π:List Nat) (ρ:Env) (a:Act) (w:World),σ=S++rest->π.Perm rest->π.Sublist c->fK n ρ a->qV P ent n ops π ρ w K->wpOps P ops Q rest a w
 | [],S,π,ρ,a,w,_,hp,_,p,h=>by
  have:π= []:=List.perm_nil.1 hp;subst this;exact t _ _ _ p h
 |i::rest,S,π,ρ,a,w,k,hp,g,p,h=>by
  have v:i∈π:=hp.mem_iff.2 (by simp);obtain⟨l,r,rfl⟩:=List.append_of_mem v;have e:(l++r).Perm rest:=by
   have x:(i::(l++r)).Perm (i::rest):=(List.perm_middle.symm).trans hp;exact x.cons_inv
  have b:=evSeq_front (i:=i) (rest:=r) l ρ w (λj u=>d S i rest k j (e.mem_iff.1 (by simp[u])) (by
   refine List.Sublist.trans ?_ g;obtain⟨A,B,rfl⟩:=List.append_of_mem u;have: [j,i]= [j]++ [i]:=rfl;rw[this];refine List.Sublist.append ?_ ?_
   ·exact List.singleton_sublist.2 (by simp)
   ·exact List.singleton_sublist.2 (by simp))) h
  rw[qV]at b;rw[wpOps_cons];unfold wpOp;split at b
  ·exact b.elim
  ·rename_i o y;simp only[y];exact tZ s p (λf a' m q z=>evSeq_sound s t σ c d rest (S++ [i]) (l++r) f a' m (by simp[k]) e
    (List.Sublist.trans (List.Sublist.append (List.Sublist.refl l) (List.sublist_cons_self i r)) g) q z) b
end
def CallX(P:Program)(f:FuncId)(args:List Value)(w:World)(K:Value->World->Prop):Prop:=aa P f args w λv a=>Ext w a/\K v a
def ExtD(D:Nat->Prop)(w b:World):Prop:=∀a v,¬D a.block->w.cell? a=some v->b.cell? a=some v
def offD(D:Nat->Prop)(x:Value):Prop:=match x with| .pointer (some a)=>¬D a.block|_=>True
def CallD(D:Nat->Prop)(P:Program)(f:FuncId)(args:List Value)(w:World)(K:Value->World->Prop):Prop:=aa P f args w λv a=>ExtD D w a/\K v a
def rdD(D:Nat->Prop)(x:Value)(p:Prop):Prop:=offD D x/\p
def rdG(D:Nat->Prop)(c:Value)(want:Bool)(x:Value)(p:Prop):Prop:=(yes c want=true->offD D x)/\p
def ExtO(D:Option (Nat->Prop))(w a:World):Prop:=match D with|none=>Ext w a|some D=>ExtD D w a
def CallO(D:Option (Nat->Prop))(P:Program)(f:FuncId)(args:List Value)(w:World)(K:Value->World->Prop):Prop:=match D with|none=>CallX P f args w K|some D=>CallD D P f args w K
theorem iY{D:Option (Nat->Prop)}{P:Program}{f:FuncId}{args:List Value}{w:World}{K:Value->World->Prop}:CallO D P f args w K<->aa P f args w λv a=>ExtO D w a/\K v a:=by
 cases D<;>exact Iff.rfl
theorem ExtO.refl(D:Option (Nat->Prop))(w:World):ExtO D w w:=by
 cases D with
 |none=>exact Ext.refl w
 |some D=>exact λ_ _ _ h=>h
theorem ExtO.of{D:Option (Nat->Prop)}{w b:World}(h:Ext w b):ExtO D w b:=by
 cases D with
 |none=>exact h
 |some D=>exact λa v _ hv=>h a v hv
theorem rE(a:Addr)(i:Nat):(a.add i).block=a.block:=by unfold Addr.add;split<;>rfl
theorem cellsAt_extD{D:Nat->Prop}{w c:World}(h:ExtD D w c){a:Addr}(d:¬D a.block):∀{n i:Nat} {l:List Value},hZ w a i n=some l->hZ c a i n=some l
 |0,_,_,b=>b
 |n+1,i,l,b=>by
  simp only[hZ]at b⊢;split at b
  ·rename_i v vs e f;cases b;rw[h _ _ (by rw[rE];exact d) e,cellsAt_extD h d f]
  ·cases b
theorem ldv_extD{P:Program}{D:Nat->Prop}{w g:World}(h:ExtD D w g){t:TypeId}{x v:Value}(j:offD D x)(c:fR P t x w=some v):fR P t x g=some v:=by
 unfold fR at c⊢;split at c
 case h_2=>cases c
 obtain⟨d,k,a⟩:=Option.bind_eq_some_iff.1 c;rw[k];simp only[Option.bind_some];cases b:jq d with
 |false=>rw[b]at a;exact h _ _ j a
 |true=>
  rw[b]at a;simp only[cond_true]at a⊢;obtain⟨i,m,f⟩:=Option.bind_eq_some_iff.1 a;obtain⟨l,f,e⟩:=dc.1 f;rw[m,Option.bind_some,cellsAt_extD h j f,Option.map_some,e]
def pD(D:Option (Nat->Prop))(P:Program)(g:Option (Option (Value×Bool)))(k:lW)(w:World)(K:Value->World->Prop):Prop:=
 match k with
 | .call f args=>match g with
  |none=>False
  |some none=>CallO D P f args w K
  |some (some (c,want))=>gE c want (CallO D P f args w) K w
 | .read t x=>match D with
  |none=>tA P g (.read t x) w K
  |some D=>match g with
   |none=>False
   |some none=>rdD D x (evP P (.read t x) w K)
   |some (some (c,want))=>rdG D c want x (evG P (.read t x) c want w K)
 |k=>tA P g k w K
def isC:lW->Bool
 | .call _ _| .bad=>true
 |_=>false
def okR(D:Option (Nat->Prop))(g:Option (Option (Value×Bool)))(k:lW):Prop:=match D,g,k with
 |some D,some none,.read _ x=>offD D x
 |some D,some (some (c,want)),.read _ x=>yes c want=true->offD D x
 |_,_,_=>True
theorem rvX_extO{D:Option (Nat->Prop)}{P:Program}{g:Option (Option (Value×Bool))}{k:lW}{w b:World}(h:ExtO D w b)(d:okR D g k){v:Value}(hv:rvX P g k w=some v):rvX P g k b=some v:=by
 cases D with
 |none=>exact rvX_ext h hv
 |some D=>
  unfold rvX at hv⊢;split at hv
  ·exact ldv_extD h d hv
  ·rename_i c want t x;unfold gd at hv⊢;cases a:yes c want with
   |true=>rw[a]at hv;exact ldv_extD h (d a) hv
   |false=>rw[a]at hv;exact hv
  ·exact hv
  ·cases hv
theorem jG{D:Option (Nat->Prop)}{P:Program}{g:Option (Option (Value×Bool))}{k:lW}(f:isR k=true){w:World}{K:Value->World->Prop}:pD D P g k w K<->∃v,rvX P g k w=some v/\okR D g k/\K v w:=by
 cases k<;>simp[isR]at f
 case bad=>
  have e:pD D P g .bad w K=tA P g .bad w K:=rfl;rw[e,jr rfl];have:okR D g .bad=True:=by unfold okR;split<;>simp_all
  simp[this]
 case read t x=>
  cases D with
  |none=>
   have e:pD none P g (.read t x) w K=tA P g (.read t x) w K:=rfl;rw[e,jr rfl];have:okR none g (.read t x)=True:=rfl;simp[this]
  |some D=>
   cases g with
   |none=>simp[pD,rvX]
   |some i=>
    cases i with
    |none=>
     have e:pD (some D) P (some none) (.read t x) w K=(offD D x/\tA P (some none) (.read t x) w K):=rfl;rw[e,jr rfl];exact⟨fun⟨a,v,b,d⟩=>⟨v,b,a,d⟩,fun⟨v,b,a,d⟩=>⟨a,v,b,d⟩⟩
    |some j=>
     obtain⟨c,want⟩:=j;have e:pD (some D) P (some (some (c,want))) (.read t x) w K=((yes c want=true->offD D x)/\tA P (some (some (c,want))) (.read t x) w K):=rfl;rw[e,jr rfl];exact⟨fun⟨a,v,b,d⟩=>⟨v,b,a,d⟩,fun⟨v,b,a,d⟩=>⟨a,v,b,d⟩⟩
theorem evXX_not{D:Option (Nat->Prop)}{P:Program}{g:Option (Option (Value×Bool))}{k:lW}{w:World}{K:Value->World->Prop}(h:∀f args,k≠ .call f args)(a:∀t x,k≠ .read t x):pD D P g k w K=tA P g k w K:=by
 unfold pD;split
 ·exact absurd rfl (h _ _)
 ·exact absurd rfl (a _ _)
 ·rfl
theorem notC_P{k:lW}(h:isP k=true):∀f args,k≠ .call f args:=λ_ _ e=>by subst e;cases h
theorem notR_P{k:lW}(h:isP k=true):∀t x,k≠ .read t x:=λ_ _ e=>by subst e;cases h
theorem sS{D:Option (Nat->Prop)}{P:Program}{g:Option (Option (Value×Bool))}{k:lW}(a:isP k=true){w:World}{K:Value->World->Prop}:pD D P g k w K=tA P g k w K:=evXX_not (notC_P a) (notR_P a)
theorem evXX_weak{D:Option (Nat->Prop)}{P:Program}{g:Option (Option (Value×Bool))}{k:lW}{w:World}{K:Value->World->Prop}(h:pD D P g k w K):tA P g k w λv b=>(isC k=true->ExtO D w b)/\K v b:=by
 cases k
 case call f args=>
  cases g with
  |none=>exact h
  |some e=>
   cases e with
   |none=>exact aa.mono (iY.1 h) λ_ _ h=>⟨λ_=>h.1,h.2⟩
   |some i=>
    obtain⟨c,want⟩:=i;have h:gE c want (CallO D P f args w) K w:=h;simp only[tA];cases a:yes c want with
    |true=>rw[evG_yes a];simp only[gE,a,cond_true]at h;exact aa.mono (iY.1 h) λ_ _ h=>⟨λ_=>h.1,h.2⟩
    |false=>rw[evG_not a];simp only[gE,a,cond_false]at h;exact⟨trivial,λ_=>ExtO.refl D w,h⟩
 case bad=>
  obtain⟨c,want,j,a,h⟩:=evX_bad.1 (show tA P g .bad w K from h);exact evX_bad.2 ⟨c,want,j,a,λ_=>ExtO.refl D w,h⟩
 case read t x=>
  obtain⟨v,hv,_,l⟩:=(jG (k:= .read t x) rfl).1 h;exact(jr rfl).2 ⟨v,hv,λd=>(by cases d),l⟩
 all_goals exact mH (λv b hv=>⟨λd=>(by cases d),hv⟩) h
theorem sU{D:Option (Nat->Prop)}{P:Program}{g:Option (Option (Value×Bool))}{k:lW}{w:World}{K b:Value->World->Prop}(a:∀v d,K v d->b v d)(h:pD D P g k w K):pD D P g k w b:=by
 cases k
 case call f args=>
  cases g with
  |none=>exact h
  |some i=>
   cases i with
   |none=>exact iY.2 (aa.mono (iY.1 h) λ_ _ h=>⟨h.1,a _ _ h.2⟩)
   |some j=>
    obtain⟨c,want⟩:=j;have h:gE c want (CallO D P f args w) K w:=h;show gE c want (CallO D P f args w) b w;cases e:yes c want with
    |true=>simp only[gE,e,cond_true]at h ⊢;exact iY.2 (aa.mono (iY.1 h) λ_ _ h=>⟨h.1,a _ _ h.2⟩)
    |false=>simp only[gE,e,cond_false]at h ⊢;exact a _ _ h
 case read t x=>
  obtain⟨v,hv,l,m⟩:=(jG (k:= .read t x) rfl).1 h;exact(jG rfl).2 ⟨v,hv,l,a _ _ m⟩
 all_goals exact mH a h
theorem evXX_ex{D:Option (Nat->Prop)}{P:Program}{g:Option (Option (Value×Bool))}{k:lW}{w:World}{K:Value->World->Prop}(h:pD D P g k w K):∃v a,K v a:=by
 obtain⟨v,a,h⟩:=evX_ex (evXX_weak h);exact⟨v,a,h.2⟩
theorem evXX_ext{D:Option (Nat->Prop)}{P:Program}{g:Option (Option (Value×Bool))}{k:lW}(hk:iG P k\/isC k=true){w:World}{K:Value->World->Prop}(h:pD D P g k w K):pD D P g k w λv a=>ExtO D w a/\K v a:=by
 cases k
 case call f args=>
  cases g with
  |none=>exact h
  |some d=>
   cases d with
   |none=>exact iY.2 (aa.mono (iY.1 h) λ_ _ h=>⟨h.1,h.1,h.2⟩)
   |some e=>
    obtain⟨c,want⟩:=e;have h:gE c want (CallO D P f args w) K w:=h;show gE c want (CallO D P f args w) (λv a=>ExtO D w a/\K v a) w;cases b:yes c want with
    |true=>simp only[gE,b,cond_true]at h ⊢;exact iY.2 (aa.mono (iY.1 h) λ_ _ h=>⟨h.1,h.1,h.2⟩)
    |false=>simp only[gE,b,cond_false]at h ⊢;exact⟨ExtO.refl D w,h⟩
 case bad=>
  obtain⟨c,want,i,b,h⟩:=evX_bad.1 (show tA P g .bad w K from h);exact evX_bad.2 ⟨c,want,i,b,ExtO.refl D w,h⟩
 case tI m=>
  rcases hk with hk|hk
  ·exact mH (λ_ _ h=>⟨ExtO.of h.1,h.2⟩) (evX_alloc hk (show tA P g (.tI m) w K from h))
  ·cases hk
 all_goals (rcases hk with hk|hk;exact hk.elim;cases hk)
theorem evXX_swap{D:Option (Nat->Prop)}{P:Program}{i j:Option (Option (Value×Bool))}{e d:lW}{w:World}{K:Value->Value->World->Prop}
  (k:isP e=true\/isP d=true\/(isR e=true/\isR d=true)\/(isR e=true/\(iG P d\/isC d=true)))
  (h:pD D P i e w λv w1=>pD D P j d w1 λu w2=>K v u w2):pD D P j d w λu w1=>pD D P i e w1 λv w2=>K v u w2:=by
 rcases k with a|hi|⟨a,hi⟩|⟨a,hi⟩
 ·rw[sS a]at h;obtain⟨v,hv,c⟩:=(jW a).1 h;exact sU (λu w1 b=>by rw[sS a];exact(jW a).2 ⟨v,hv,b⟩) c
 ·obtain⟨v,w1,c⟩:=evXX_ex h;rw[sS hi]at c⊢;obtain⟨u,g,_⟩:=(jW hi).1 c;refine(jW hi).2 ⟨u,g,sU (λv w1 b=>?_) h⟩;rw[sS hi]at b;obtain⟨n,f,l⟩:=(jW hi).1 b;rw[g]at f;cases f;exact l
 ·obtain⟨v,hv,ov,c⟩:=(jG a).1 h;obtain⟨u,g,m,b⟩:=(jG hi).1 c;exact(jG hi).2 ⟨u,g,m,(jG a).2 ⟨v,hv,ov,b⟩⟩
 ·obtain⟨v,hv,ov,c⟩:=(jG a).1 h;exact sU (λu w1 b=>(jG a).2 ⟨v,rvX_extO b.1 ov hv,ov,b.2⟩) (evXX_ext hi c)
def evOpX(D:Option (Nat->Prop))(P:Program)(ent:FuncId->Bool)(n:Nat)(ops:Array Oper)(o:Oper)(ρ:Env)(w:World)(K:Env->World->Prop):Prop:=
 pD D P (gOf ops ρ o) (tz ent ρ o) w λv a=>K (iA n o.dst v ρ) a
def k0(D:Option (Nat->Prop))(P:Program)(ent:FuncId->Bool)(n:Nat)(ops:Array Oper):List Nat->Env->World->(Env->World->Prop)->Prop
 | [],ρ,w,K=>K ρ w
 |i::rest,ρ,w,K=>match ops[i]? with
  |none=>False
  |some o=>evOpX D P ent n ops o ρ w λa b=>k0 D P ent n ops rest a b K
def isCallV(o:Oper):Bool:=match o.op with| .call c=>(match c.callee with| .value _=>true|_=>false)|_=>false
section
def eA{α:Type}(P:Program)(m:Sem α):Prop:=∀w v a,m.run P w= .ok v a->Ext w a
theorem eA.bind{α β:Type}{P:Program}{m:Sem α}{f:α->Sem β}(h:eA P m)(d:∀a,eA P (f a)):eA P (m >>= f):=by
 intro w v g b;simp only[Sem.run_bind]at b;cases c:m.run P w with
 |halt x w1=>rw[c]at b;simp at b
 |ok x w1=>
  rw[c]at b;intro a u e;exact d _ _ _ _ b a u (h _ _ _ c a u e)
theorem eA.keeps{α:Type}{P:Program}{m:Sem α}(h:ej P m):eA P m:=λw v b a=>by
 have:=h _ _ _ a;subst this;exact Ext.refl _
theorem eA.pure{α:Type}{P:Program}{a:α}:eA P (Pure.pure a:Sem α):= .keeps .pure
theorem eA.panic{α:Type}{P:Program}{e:RuntimeError}:eA P (runtimePanic e:Sem α):=λw v a h=>(oP h).elim
theorem eA.choose{P:Program}{q:Question}:eA P (choose q):=λw v c h=>by
 simp only[Go.choose,Sem.run]at h;split at h;all_goals first
  |(simp at h;done)
  |(simp at h;obtain⟨_,rfl⟩:=h;intro a u b;exact b)
  |skip
 all_goals trace_state
 all_goals omega
theorem eA.newRow{P:Program}{e:TypeId}{cs:Array Value}:eA P (newRow e cs):=λw v b h=>by
 simp only[Go.newRow,Sem.run_bind,run_newObj,Result.andThen_ok,Sem.run_pure]at h;injection h with c a
 rw[<- a];exact ext_push w _
theorem ej.load{P:Program}{a:Addr}:ej P (load a):=by
 intro w v d h;rw[run_load]at h;split at h
 ·injection h with c b;exact b.symm
 ·split at h
  ·injection h with c b;exact b.symm
  ·cases h
theorem ej.loadCellsFrom{P:Program}{a:Addr}:∀{n i:Nat} {b:Array Value},ej P (loadCellsFrom a i n b)
 |0,i,b=> .pure
 |n+1,i,b=>ej.load.bind λv=>ej.loadCellsFrom
theorem ej.loadCells{P:Program}{a:Addr}{n:Nat}:ej P (loadCells a n):=ej.loadCellsFrom
theorem ej.firstCells{P:Program}{s n:Nat}{x:Value}:ej P (Builtin.firstCells s n x):=by
 unfold Builtin.firstCells;split
 ·exact .loadCells
 ·exact .pure
 ·exact .pure
 ·exact .stuck
theorem ej.lenOf{P:Program}{x:Value}:ej P (Builtin.lenOf x):=by
 unfold Builtin.lenOf;split
 ·exact .pure
 ·exact .pure
 ·exact .stuck
theorem eA.never{α β:Type}{P:Program}{m:Sem α}{f:α->Sem β}(h:∀a w v c,(f a).run P w≠ .ok v c):eA P (m >>= f):=by
 intro w v c b;simp only[Sem.run_bind]at b;cases d:m.run P w with
 |halt x w1=>rw[d]at b;simp at b
 |ok x w1=>rw[d]at b;exact absurd b (h x w1 v c)
theorem eA.ite{α:Type}{P:Program}{c:Prop} [Decidable c]{m k:Sem α}(h:eA P m)(a:eA P k):eA P (if c then m else k):=by split<;>assumption
theorem eA.append{P:Program}{ts:Array TypeId}{t:TypeId}{x:Value}:eA P (Builtin.append_ ts t #[.slice none 0 0,x]):=by
 unfold Builtin.append_;split
 case h_2=>exact .keeps .stuck
 rename_i tt sl y h3;refine eA.bind (.keeps .underlying) λd=>?_;split
 case h_2=>exact .keeps .stuck
 rename_i elem;split
 case h_2=>exact .keeps .stuck
 rename_i base sLen sCap;simp at h3;obtain⟨_,⟨rfl,rfl,rfl⟩,rfl⟩:=h3;refine eA.bind (.keeps .sizeOf) λsize=>?_
 extract_lets ju jp
 have hjp:∀z,eA P (jp z):=by
  intro z;dsimp -zeta only[jp]
  extract_lets jp2
  have hjp2:∀n,eA P (jp2 n):=by
   intro n;simp only[jp2];have ha:eA P (if(!z)=true then Builtin.firstCells size n x else if n*size=0 then Pure.pure #[]else(zeroValue elem >>= λzz=>Pure.pure (Builtin.zeroCells zz.cells n))):=eA.ite (.keeps .firstCells) (eA.ite .pure (eA.bind (.keeps .zero) λ_=> .pure));generalize (if(!z)=true then Builtin.firstCells size n x else if n*size=0 then Pure.pure #[]else(zeroValue elem >>= λzz=>Pure.pure (Builtin.zeroCells zz.cells n)))=app at*;refine eA.ite ?_ ?_
   ·exact eA.bind ha λ_=> .pure
   ·refine eA.bind (.keeps .typeInfo) λi=>?_;have last:eA P (do
      let mZ<-Go.choose (Question.appendCap (0+n) 0 elem)
      let i<-typeInfo elem
      askRoom (mZ*i.bytes)
      let old<-Builtin.firstCells size 0 (Value.slice none 0 0)
      let new<-app
      let zz<-zeroValue elem
      let a<-Go.newRow elem (old++new++Builtin.zeroCells zz.cells (mZ-(0+n)))
      Pure.pure (Value.slice (some a) (0+n) mZ)):=by
     refine eA.bind .choose λmZ=>eA.bind (.keeps .typeInfo) λi=>eA.bind (.keeps .askRoom) λ_=>eA.bind (.keeps .firstCells) λold=>eA.bind ha λnew=>eA.bind (.keeps .zero) λzz=>eA.bind .newRow λa=> .pure
    have mid:∀u:Unit,eA P (do
      let i<-typeInfo elem
      if Builtin.nextslicecap (0+n) 0*i.bytes>2 ^ 48 then do
       let _ ← ((if z = true then (runtimePanic (RuntimeError.error "growslice: len out of range") : Sem Unit) else (Builtin.mayShare size 0 n none x >>= fun l => if (!l) = true then (mark Mark.noRoom >>= fun r => ju r) else ju ())) : Sem Unit)
       (do
      let mZ<-Go.choose (Question.appendCap (0+n) 0 elem)
      let i<-typeInfo elem
      askRoom (mZ*i.bytes)
      let old<-Builtin.firstCells size 0 (Value.slice none 0 0)
      let new<-app
      let zz<-zeroValue elem
      let a<-Go.newRow elem (old++new++Builtin.zeroCells zz.cells (mZ-(0+n)))
      Pure.pure (Value.slice (some a) (0+n) mZ))
      else(do
      let mZ<-Go.choose (Question.appendCap (0+n) 0 elem)
      let i<-typeInfo elem
      askRoom (mZ*i.bytes)
      let old<-Builtin.firstCells size 0 (Value.slice none 0 0)
      let new<-app
      let zz<-zeroValue elem
      let a<-Go.newRow elem (old++new++Builtin.zeroCells zz.cells (mZ-(0+n)))
      Pure.pure (Value.slice (some a) (0+n) mZ))):=by
     intro u;refine eA.bind (.keeps .typeInfo) λi=>eA.ite (eA.bind (eA.ite .panic (eA.never λl w v w'=>?_)) λ_=>last) last;split<;>simp[ju]
    exact eA.ite (eA.bind .panic λu=>mid u) (mid ())
  clear_value jp2
  refine eA.ite ?_ (eA.bind (.keeps .lenOf) λn=>hjp2 n);refine eA.bind (.keeps .asInt) λl=>?_;have k2:∀n:Nat,eA P (do let n<-Pure.pure n;jp2 n):=λn=>eA.bind .pure λn=>hjp2 n;have k1:∀l:Int,eA P (do
    let i<-typeInfo elem
    if l*i.bytes>2 ^ 48 then do
     let made ← Go.choose (Question.extern "append.ofMake.carriedOut" 2)
     let _ ← (runtimePanic (RuntimeError.error (if (made == 1) = true then "makeslice: len out of range" else "growslice: len out of range")) : Sem Unit)
     (do let n<-Pure.pure l.toNat;jp2 n)
    else(do let n<-Pure.pure l.toNat;jp2 n)):=λl=>eA.bind (.keeps .typeInfo) λi=>eA.ite (eA.bind .choose λ_=>eA.bind .panic λ_=>k2 _) (k2 _)
  exact eA.ite (eA.bind .panic λ_=>k1 _) (k1 _)
 clear_value jp
 split
 ·exact eA.bind (.keeps .underlying) λd=>eA.bind .pure λz=>hjp z
 ·exact eA.bind .pure λz=>hjp z
end
def rF(o:Oper):Bool:=match o.op with
 | .call c=>(match c.callee,c.args.toList with| .builtin .append, [.const (.slice none 0 0),_]=>true|_,_=>false)
 |_=>false
theorem allocK_app{P:Program}{ent:FuncId->Bool}{ρ:Env}{o:Oper}(h:rF o=true):iG P (tz ent ρ o):=by
 obtain⟨f,op,d,pos,b,guard⟩:=o;unfold rF at h;cases op<;>simp only at h<;>try cases h
 case call c=>
  obtain⟨a,args,k⟩:=c;simp only at h;split at h
  ·rename_i x g;have e:qg ρ args.toList=(dB ρ x).map λv=> [.slice none 0 0,v]:=by
    rw[g];show(match some (Value.slice none 0 0),(match dB ρ x,some []with|some v,some vs=>some (v::vs)|_,_=>none)with|some v,some vs=>some (v::vs)|_,_=>none)=_;cases dB ρ x<;>rfl
   simp only[tz,e];cases dB ρ x with
   |none=>exact trivial
   |some v=>exact λw u i j=>eA.append w u i j
  ·cases h
def kindX(o:Oper):Kd:=bif isCallV o then .alloc else bif rF o then .alloc else mY o
def rG(ops:Array Oper)(j i:Nat):Bool:=match ops[j]?,ops[i]? with
 |some a,some b=>kdsOk (kindX a) (kindX b)&&a.apart ops b
 |_,_=>false
theorem isC_of{ent:FuncId->Bool}{ρ:Env}{o:Oper}(h:isCallV o=true):isC (tz ent ρ o)=true:=by
 obtain⟨j,op,i,pos,e,guard⟩:=o;unfold isCallV at h;cases op<;>simp only at h<;>try cases h
 case call c=>
  obtain⟨a,args,k⟩:=c;cases a with
  |value f=>
   simp only[tz];unfold rC;split
   ·rename_i g first d vs _ _
    cases ent g<;>rfl
   ·rfl
  |builtin b=>simp at h
  |invoke r m=>simp at h
theorem pE{o:Oper}{k:Kd}(h:kindX o=k)(a:k≠ .alloc):mY o=k:=by
 unfold kindX at h;cases b:isCallV o with
 |true=>rw[b]at h;exact absurd h.symm a
 |false=>
  rw[b]at h;cases c:rF o with
  |true=>rw[c]at h;exact absurd h.symm a
  |false=>rw[c]at h;exact h
theorem kindX_alloc{P:Program}{ent:FuncId->Bool}{ρ:Env}{o:Oper}(h:kindX o= .alloc):iG P (tz ent ρ o)\/isC (tz ent ρ o)=true:=by
 unfold kindX at h;cases a:isCallV o with
 |true=>exact .inr (isC_of a)
 |false=>
  rw[a]at h;cases b:rF o with
  |true=>exact .inl (allocK_app b)
  |false=>rw[b]at h;exact .inl (allocK_of h)
section
variable{D:Option (Nat->Prop)}{P:Program}{ent:FuncId->Bool}{n:Nat}{ops:Array Oper}
theorem evSeqX_swap{i j:Nat}(e:rG ops j i=true){rest:List Nat}{ρ:Env}{w:World}{K:Env->World->Prop}(h:k0 D P ent n ops (j::i::rest) ρ w K):
  k0 D P ent n ops (i::j::rest) ρ w K:=by
 unfold rG at e;simp only[k0]at h⊢;cases f:ops[j]? with
 |none=>rw[f]at e;simp at e
 |some a=>
  cases l:ops[i]? with
  |none=>rw[f,l]at e;simp at e
  |some b=>
   rw[f,l]at e h;simp only[de]at e;obtain⟨m,g⟩:=e;obtain⟨o,q,p⟩:=Oper.apart_spec g;simp only[evOpX]at h⊢;have r:∀v,gOf ops (iA n a.dst v ρ) b=gOf ops ρ b:=λv=>gOf_upd o;have s:∀v,tz ent (iA n a.dst v ρ) b=tz ent ρ b:=λv=>opk_upd o;have t:∀v,gOf ops (iA n b.dst v ρ) a=gOf ops ρ a:=λv=>gOf_upd p;have x:∀v,tz ent (iA n b.dst v ρ) a=tz ent ρ a:=λv=>opk_upd p;simp only[r,s]at h;simp only[t,x];have k:∀v u,iA n b.dst u (iA n a.dst v ρ)=iA n a.dst v (iA n b.dst u ρ):=λv u=>(updO_comm q).symm;simp only[k]at h;refine evXX_swap (D:=D) (K:=λv u w2=>k0 D P ent n ops rest (iA n a.dst v (iA n b.dst u ρ)) w2 K) ?_ h;cases c:kindX a<;>cases d:kindX b<;>rw[c,d]at m<;>simp[kdsOk]at m<;>
    first
    |exact .inl (isP_of (pE c (by simp)))
    |exact .inr (.inl (isP_of (pE d (by simp))))
    |exact .inr (.inr (.inl ⟨isR_of (pE c (by simp)),isR_of (pE d (by simp))⟩))
    |exact .inr (.inr (.inr ⟨isR_of (pE c (by simp)),kindX_alloc d⟩))
theorem evOpX_mono{o:Oper}{ρ:Env}{w:World}{K a:Env->World->Prop}(b:∀ρ w,K ρ w->a ρ w)(h:evOpX D P ent n ops o ρ w K):evOpX D P ent n ops o ρ w a:=
 sU (λ_ _ h=>b _ _ h) h
theorem evSeqX_front{i:Nat}{rest:List Nat}{K:Env->World->Prop}:∀(l:List Nat) (ρ:Env) (w:World),(∀ j∈l,rG ops j i=true)->k0 D P ent n ops (l++i::rest) ρ w K->
  k0 D P ent n ops (i::(l++rest)) ρ w K
 | [],_,_,_,h=>h
 |j::l,ρ,w,b,h=>by
  have c:k0 D P ent n ops (j::i::(l++rest)) ρ w K:=by
   simp only[List.cons_append]at h;rw[k0]at h⊢;split at h
   ·exact h.elim
   ·exact evOpX_mono (λa d e=>evSeqX_front l a d (λk f=>b k (by simp[f])) e) h
  exact evSeqX_swap (b j (by simp)) c
theorem ql(s:EntOk P ent){Q:Exit->Act->World->Prop}{K:Env->World->Prop}(t:∀d a' k,fK n d a'->K d k->Q .normal a' k)(σ c:List Nat)
  (e:∀S i rest,σ=S++i::rest->∀j∈rest, [j,i].Sublist c->rG ops j i=true):
  ∀(rest S π:List Nat) (ρ:Env) (a:Act) (w:World),σ=S++rest->π.Perm rest->π.Sublist c->fK n ρ a->k0 D P ent n ops π ρ w K->wpOps P ops Q rest a w
 | [],S,π,ρ,a,w,_,hp,_,p,h=>by
  have:π= []:=List.perm_nil.1 hp;subst this;exact t _ _ _ p h
 |i::rest,S,π,ρ,a,w,m,hp,g,p,h=>by
  have v:i∈π:=hp.mem_iff.2 (by simp);obtain⟨l,r,rfl⟩:=List.append_of_mem v;have f:(l++r).Perm rest:=by
   have x:(i::(l++r)).Perm (i::rest):=(List.perm_middle.symm).trans hp;exact x.cons_inv
  have b:=evSeqX_front (i:=i) (rest:=r) l ρ w (λj u=>e S i rest m j (f.mem_iff.1 (by simp[u])) (by
   refine List.Sublist.trans ?_ g;have: [j,i]= [j]++ [i]:=rfl;rw[this];refine List.Sublist.append ?_ ?_
   ·exact List.singleton_sublist.2 u
   ·exact List.singleton_sublist.2 (by simp))) h
  rw[k0]at b;rw[wpOps_cons];unfold wpOp;split at b
  ·exact b.elim
  ·rename_i o y;simp only[y];refine tZ s p (K:=λd k=>k0 D P ent n ops (l++r) d k K) (λd a' k q z=>ql s t σ c e rest (S++ [i]) (l++r) d a' k (by simp[m]) f
    (List.Sublist.trans (List.Sublist.append (List.Sublist.refl l) (List.sublist_cons_self i r)) g) q z) ?_
   exact mH (λ_ _ h=>h.2) (evXX_weak b)
end
def rI(acc:List Nat)(o:Oper):Nat:=o.after.toList.foldr (λe s=>bif Region.binds .any e then(2 ^ e.on ||| acc.getD e.on 0) ||| s else s) 0
def rJ:List Oper->List Nat->List Nat
 | [],a=>a
 |o::b,a=>rJ b (a++ [rI a o])
def ancT(ops:Array Oper):List Nat:=rJ ops.toList []
theorem mask_bit{acc:List Nat}{j:Nat}:∀{l:List Edge},(l.foldr (λe s=>bif Region.binds .any e then(2 ^ e.on ||| acc.getD e.on 0) ||| s else s) 0).testBit j=true->
  ∃e∈l,Region.binds .any e=true/\(e.on=j\/(acc.getD e.on 0).testBit j=true)
 | [],h=>by simp at h
 |e::l,h=>by
  simp only[List.foldr_cons]at h;cases hb:Region.binds .any e with
  |false=>
   rw[hb]at h;obtain⟨e',a,b⟩:=mask_bit (l:=l) h;exact⟨e',List.mem_cons_of_mem _ a,b⟩
  |true=>
   rw[hb]at h;simp only[cond_true,Nat.testBit_or,Bool.or_eq_true,Nat.testBit_two_pow,decide_eq_true_eq]at h;rcases h with(h|h)|h
   ·exact⟨e,by simp,hb,.inl h⟩
   ·exact⟨e,by simp,hb,.inr h⟩
   ·obtain⟨e',a,b⟩:=mask_bit (l:=l) h;exact⟨e',List.mem_cons_of_mem _ a,b⟩
theorem ua:∀(b:List Oper) (a:List Nat),(rJ b a).take a.length=a
 | [],a=>by simp[rJ]
 |o::b,a=>by
  have h:=ua b (a++ [rI a o]);simp only[rJ];have c:=congrArg (List.take a.length) h;rw[List.take_take,Nat.min_eq_left (by simp)]at c;rw[c];simp
theorem ancGo_get:∀(b:List Oper) (a:List Nat) (k:Nat) (o:Oper),b[k]? =some o->∃pre,(rJ b a).take pre.length=pre/\(rJ b a).getD (a.length+k) 0=rI pre o
 | [],a,k,o,h=>by simp at h
 |o'::b,a,0,o,h=>by
  simp at h;subst h;refine⟨a,ua _ _,?_⟩;simp only[rJ];have h:=ua b (a++ [rI a o']);have c:=congrArg (λl=>l.getD a.length 0) h;simp only[cJ,List.length_singleton]at c;rw[Nat.add_zero];have d:((rJ b (a++ [rI a o'])).take (a.length+1)).getD a.length 0=(rJ b (a++ [rI a o'])).getD a.length 0:=by
   simp[cu]
  rw[<- d,c];simp[cu]
 |o'::b,a,k+1,o,h=>by
  have e:b[k]? =some o:=by simpa using h
  obtain⟨pre,c,d⟩:=ancGo_get b (a++ [rI a o']) k o e;refine⟨pre,c,?_⟩;rw[<- d];simp only[rJ];congr 1;simp;omega
theorem anc_bit{ops:Array Oper}{i j:Nat}{o:Oper}(c:ops[i]? =some o)(h:((ancT ops).getD i 0).testBit j=true):
  ∃e∈o.after,Region.binds .any e=true/\(e.on=j\/((ancT ops).getD e.on 0).testBit j=true):=by
 obtain⟨pre,d,f⟩:=ancGo_get ops.toList [] i o (by simpa using c);have g:(ancT ops).getD i 0=rI pre o:=by simpa [ancT]using f
 rw[g]at h;obtain⟨e,k,hb,a⟩:=mask_bit h;refine⟨e,by simpa using k,hb,a.imp id λa=>?_⟩;have:pre.getD e.on 0=(ancT ops).getD e.on 0\/pre.getD e.on 0=0:=by
  by_cases b:e.on<pre.length
  ·left;have l:((ancT ops).take pre.length).getD e.on 0=pre.getD e.on 0:=by rw[show(ancT ops).take pre.length=pre from d]
   rw[<- l];simp[cu,b]
  ·right;simp[cu,df (Nat.le_of_not_lt b)]
 rcases this with h5|h5
 ·rw[<- h5];exact a
 ·rw[h5]at a;simp at a
def Lin(ops:Array Oper)(σ:List Nat):Prop:=∀S i rest,σ=S++i::rest->∃o,ops[i]? =some o/\∀e∈o.after,Region.binds .any e=true->e.on∈S
theorem lin_anc{ops:Array Oper}{σ:List Nat}(h:Lin ops σ):∀(k:Nat) (S:List Nat) (i:Nat) (rest:List Nat),S.length=k->σ=S++i::rest->∀j,((ancT ops).getD i 0).testBit j=true->j∈S:=by
 intro k;induction k using Nat.strongRecOn with
 |_ k f=>
  intro S i rest g a j l;obtain⟨o,m,b⟩:=h S i rest a;obtain⟨e,n,hb,hd⟩:=anc_bit m l;have c:=b e n hb;rcases hd with rfl|hd
  ·exact c
  ·obtain⟨d,p,rfl⟩:=List.append_of_mem c;have:=f d.length (by rw[<- g];simp) d e.on (p++i::rest) rfl (by rw[a];simp) j hd;simp[this]
theorem go_props{ops:Array Oper}:∀(fuel t:Nat) (a:Array Bool),a.size=ops.size->
  (∀ S i rest,Region.linearise.go .any ops fuel t a []=S++i::rest->∃o,ops[i]? =some o/\∀e∈o.after,Region.binds .any e=true->a.getD e.on false=true\/e.on∈S)/\
  (Region.linearise.go .any ops fuel t a []).Nodup/\(∀ i∈Region.linearise.go .any ops fuel t a [],a.getD i true=false)/\
  (∀ i,a.getD i true=false->i∈Region.linearise.go .any ops fuel t a []\/fuel<=(Region.linearise.go .any ops fuel t a []).length\/
   ∃L:Array Bool,L.size=ops.size/\Region.ready .any ops L= []/\L.getD i true=false)
 |0,t,a,d=>by
  simp[Region.linearise.go]
 |fuel+1,t,a,d=>by
  have g:Region.linearise.go .any ops (fuel+1) t a []=(match(Region.ready .any ops a)[t%(Region.ready .any ops a).length]? with
   |some i=>Region.linearise.go .any ops fuel (t/(Region.ready .any ops a).length) (a.setIfInBounds i true) [i]
   |none=> []):=rfl
  rw[g];cases q:(Region.ready .any ops a)[t%(Region.ready .any ops a).length]? with
  |none=>
   have j:Region.ready .any ops a= []:=by
    cases y:Region.ready .any ops a with
    |nil=>rfl
    |cons x xs=>
     rw[y]at q;have l:t%(x::xs).length<(x::xs).length:=Nat.mod_lt _ (by simp);simp only[List.getElem?_eq_none_iff]at q;omega
   refine⟨λS i rest h=>by simp at h,List.nodup_nil,λi h=>by simp at h,λi h=> .inr (.inr ⟨a,d,j,h⟩)⟩
  |some i=>
   simp only;rw[linearise_go_acc];simp only[List.reverse_singleton,List.singleton_append];have m:=cD q;obtain⟨r,o,w,n⟩:=mem_ready.1 m;have l:i<a.size:=by rw[d];exact(Array.getElem?_eq_some_iff.1 w).1
   obtain⟨p1,p2,p3,p4⟩:=go_props (ops:=ops) fuel (t/(Region.ready .any ops a).length) (a.setIfInBounds i true) (by simp[d]);have f:∀k,k≠i->(a.setIfInBounds i true).getD k true=a.getD k true:=λk hk=>getD_set_ne true (Ne.symm hk);have b:(a.setIfInBounds i true).getD i true=true:=by simp[l]
   refine⟨?_,?_,?_,?_⟩
   ·intro S k rest h;cases S with
    |nil=>
     simp at h;obtain⟨rfl,_⟩:=h;exact⟨o,w,λe u hb=> .inl (n e u hb)⟩
    |cons s S=>
     simp only[List.cons_append,List.cons.injEq]at h;obtain⟨rfl,h⟩:=h;obtain⟨ok,v,hk⟩:=p1 S k rest h;refine⟨ok,v,λe u hb=>?_⟩;by_cases p:e.on=i
     ·right;simp[p]
     ·rcases hk e u hb with h2|h2
      ·left;rwa[getD_set_ne false (Ne.symm p)]at h2
      ·right;simp[h2]
   ·refine List.nodup_cons.2 ⟨λz=>?_,p2⟩;have:=p3 i z;rw[b]at this;cases this
   ·intro k hk;rcases dg.1 hk with rfl|hk
    ·exact r
    ·have:=p3 k hk;by_cases c:k=i
     ·subst c;rw[b]at this;cases this
     ·rwa[f k c]at this
   ·intro k hk;by_cases c:k=i
    ·left;simp[c]
    ·rcases p4 k (by rw[f k c];exact hk)with h2|h2|h2
     ·left;simp[h2]
     ·right;left;simp;exact h2
     ·right;right;exact h2
def sV(ops:Array Oper):Bool:=ops.toList.zipIdx.all fun(o,i)=>o.after.toList.all λe=> !Region.binds .any e||Nat.blt e.on i
theorem edgesOk_spec{ops:Array Oper}(h:sV ops=true){i:Nat}{o:Oper}(b:ops[i]? =some o):∀e∈o.after,Region.binds .any e=true->e.on<i:=by
 intro e c hb;unfold sV at h;rw[List.all_eq_true]at h;have a:=h (o,i) (by rw[List.mem_zipIdx_iff_getElem?];simpa using b);simp only[List.all_eq_true]at a;have d:=a e (by simpa using c);simpa [hb,Nat.blt_eq]using d
theorem ready_ne{ops:Array Oper}(g:sV ops=true){L:Array Bool}(j:L.size=ops.size)(k:Region.ready .any ops L= []):∀i,L.getD i true=true:=by
 intro i;induction i using Nat.strongRecOn with
 |_ i l=>
  cases d:L.getD i true with
  |true=>rfl
  |false=>
   exfalso;have b:i<ops.size:=by
    rw[<- j];rcases cZ i L.size with h|h
    ·exact h
    ·simp[Array.getElem?_eq_none h]at d
   have a:i∈Region.ready .any ops L:=mem_ready.2 ⟨d,ops[i],by simp[b],λe c hb=>by
    have m:=edgesOk_spec g (o:=ops[i]) (i:=i) (by simp[b]) e c hb;have f:=l e.on m;have n:e.on<L.size:=dy;simp[n]at f⊢;exact f⟩
   rw[k]at a;cases a
theorem nodup_len:∀(k:Nat) (l:List Nat),l.Nodup->(∀ i∈l,i<k)->l.length<=k
 |0,l,_,h=>by
  cases l with
  |nil=>simp
  |cons x xs=>exact absurd (h x (by simp)) dy
 |k+1,l,a,h=>by
  have e:=nodup_len k (l.erase k) (a.erase k) λi c=>by
   have:=(a.mem_erase_iff).1 c;have d:=h i this.2;have f:=this.1;omega
  have d:l.length<=(l.erase k).length+1:=by
   by_cases b:k∈l
   ·rw[List.length_erase_of_mem b];omega
   ·rw[List.erase_of_not_mem b];omega
  omega
theorem mem_of_full{k:Nat}{l:List Nat}(b:l.Nodup)(h:∀i,i∈l->i<k)(d:k<=l.length){i:Nat}(c:i<k):i∈l:=by
 refine Classical.byContradiction λa=>?_;have:=nodup_len k (i::l) (List.nodup_cons.2 ⟨a,b⟩) λj hj=>by
  rcases dg.1 hj with rfl|hj
  ·exact c
  ·exact h j hj
 simp at this;omega
theorem linearise_props{ops:Array Oper}(d:sV ops=true)(t:Nat):Lin ops (Region.linearise .any ops t)/\(List.range ops.size).Perm (Region.linearise .any ops t):=by
 obtain⟨p1,p2,p3,p4⟩:=go_props (ops:=ops) ops.size t (Array.replicate ops.size false) (by simp);have c:∀i,(Array.replicate ops.size false).getD i true=false<->i<ops.size:=λi=>by
  by_cases h:i<ops.size<;>simp[h]
 have a:∀i,i∈Region.linearise.go .any ops ops.size t (Array.replicate ops.size false) []->i<ops.size:=λi b=>(c i).1 (p3 i b);have k:∀i,(Array.replicate ops.size false).getD i false=false:=λi=>by
  by_cases h:i<ops.size<;>simp[h]
 refine⟨λS i rest h=>?_,?_⟩
 ·obtain⟨o,l,m⟩:=p1 S i rest h;refine⟨o,l,λe d hb=>(m e d hb).resolve_left ?_⟩;rw[k];simp
 ·refine(List.perm_ext_iff_of_nodup List.nodup_range p2).2 λi=>⟨λb=>?_,λb=>by simpa using a i b⟩
  rcases p4 i ((c i).2 (by simpa using b))with h|h|⟨L,n,p,g⟩
  ·exact h
  . -- as j as f q: r
   exact mem_of_full p2 a h (by simpa using b)
  ·have:=ready_ne d n p i;rw[this]at g;cases g
end Go.Proofs.YtnpflajdbchghaaGreat.Ev
