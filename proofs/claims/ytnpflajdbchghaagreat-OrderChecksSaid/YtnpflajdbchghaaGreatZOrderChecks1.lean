/- Parts of the proof of OrderChecks, one behind the other. Conditions: none. -/
import Derived.Orders
import Derived.Laws.Sem
import Derived.KernelRfl
set_option linter.unusedSimpArgs false
set_option linter.unusedVariables false
noncomputable section
namespace Go.Proofs.YtnpflajdbchghaaGreat
abbrev bN(x:Int):Go.Value:=.int .i64 x
abbrev bR(x:Int):Go.Value:=.int .u64 x
abbrev bS(b:Nat):Go.Value:=.pointer (some ⟨b,0,none⟩)
theorem bU:type_of% @if_pos:=@if_pos
theorem bV:type_of% @if_neg:=@if_neg
theorem bX:type_of% @List.getElem?_eq_getElem:=@List.getElem?_eq_getElem
theorem bY:type_of% @List.getElem?_eq_some_iff:=@List.getElem?_eq_some_iff
theorem bZ:type_of% @decide_eq_false:=@decide_eq_false
theorem cj:type_of% @Int.toNat_natCast:=@Int.toNat_natCast
theorem cq:type_of% @List.length_append:=@List.length_append
theorem cr:type_of% @decide_eq_true:=@decide_eq_true
theorem cu:type_of% @List.getD_eq_getElem?_getD:=@List.getD_eq_getElem?_getD
theorem cy:type_of% @Nat.le_refl:=@Nat.le_refl
theorem cD:type_of% @List.mem_of_getElem?:=@List.mem_of_getElem?
theorem cE:type_of% @List.length_set:=@List.length_set
theorem cH:type_of% @beq_false_of_ne:=@beq_false_of_ne
theorem cJ:type_of% @List.append_assoc:=@List.append_assoc
theorem cM:type_of% @Nat.zero_add:=@Nat.zero_add
theorem cN:type_of% @List.getElem?_map:=@List.getElem?_map
theorem cQ:type_of% @Nat.zero_le:=@Nat.zero_le
theorem cR:type_of% @List.getElem?_set:=@List.getElem?_set
theorem cU:type_of% @Nat.le_trans:=@Nat.le_trans
theorem cV:type_of% @List.mem_cons:=@List.mem_cons
theorem cY:type_of% @List.length_nil:=@List.length_nil
theorem cZ:type_of% @Bool.and_eq_true:=@Bool.and_eq_true
theorem db:type_of% @List.mem_singleton:=@List.mem_singleton
theorem dc:type_of% @Option.map_eq_some_iff:=@Option.map_eq_some_iff
theorem de:type_of% @Nat.lt_of_lt_of_le:=@Nat.lt_of_lt_of_le
theorem df:type_of% @Int.natCast_add:=@Int.natCast_add
theorem dg:type_of% @List.take_append_drop:=@List.take_append_drop
theorem dh:type_of% @Nat.lt_or_ge:=@Nat.lt_or_ge
theorem dj:type_of% @List.flatMap_cons:=@List.flatMap_cons
theorem dk:type_of% @List.drop_of_length_le:=@List.drop_of_length_le
theorem dm:type_of% @Int.le_refl:=@Int.le_refl
theorem dr:type_of% @Nat.mul_one:=@Nat.mul_one
theorem dt:type_of% @List.length_take:=@List.length_take
theorem du:type_of% @List.length_cons:=@List.length_cons
theorem dx:type_of% @List.not_mem_nil:=@List.not_mem_nil
theorem dy:type_of% @Int.toNat_of_nonneg:=@Int.toNat_of_nonneg
theorem dz:type_of% @List.length_replicate:=@List.length_replicate
theorem dA:type_of% @List.take_of_length_le:=@List.take_of_length_le
theorem dB{p:Prop}(h:p:=by omega):p:=h
theorem dC{p:Prop}[Decidable p](h:p:=by decide):p:=h
theorem dE{α:Sort _}{a b:α}(h:a=b:=by kernel_rfl):a=b:=h
end Go.Proofs.YtnpflajdbchghaaGreat
namespace Go.Proofs.YtnpflajdbchghaaGreat
theorem z1z(h:Decidable True): @decide True h=true:=by simp
theorem z2z(h:Decidable False): @decide False h=false:=by simp
theorem z3z:(!true)=false:=rfl
theorem z4z:(!false)=true:=rfl
theorem z5z{α:Type _} [BEq α] [LawfulBEq α](a:α):(a !=a)=false:=bne_self_eq_false a
theorem z6z{α:Type _} [BEq α] [ReflBEq α](a:α):(a==a)=true:=by simp
theorem z7z{α:Type _}:(none:Option α).isNone=true:=rfl
theorem z8z{α:Type _}{a:α}:(some a).isNone=false:=rfl
end Go.Proofs.YtnpflajdbchghaaGreat
namespace Go.Proofs.YtnpflajdbchghaaGreat.Ev
open Go
abbrev Env:=Nat->Option Value
def upd(n d:Nat)(v:Value)(ρ:Env):Env:=λi=>bif Nat.beq i d then(bif Nat.blt d n then some v else none)else ρ i
def ij(n:Nat)(d:Option Nat)(v:Value)(ρ:Env):Env:=match d with|some d=>upd n d v ρ|none=>ρ
def fB(n:Nat)(ρ:Env)(a:Act):Prop:=a.tmps.size=n/\a.defers= []/\∀t v,ρ t=some v->a.tmps[t]? =some v
theorem fB.put{n:Nat}{ρ:Env}{a:Act}(h:fB n ρ a)(d:Option Nat)(v:Value):fB n (ij n d v ρ) (a.put d v):=by
 obtain⟨c,g,i⟩:=h;cases d with
 |none=>exact⟨c,g,i⟩
 |some d=>
  refine⟨by simp[Act.put,c],g,λt u b=>?_⟩;simp only[ij,upd]at b;by_cases e:t=d
  ·subst e;simp only[Nat.beq_refl,cond_true]at b;cases hb:Nat.blt t n with
   |false=>rw[hb]at b;cases b
   |true=>
    rw[hb]at b;simp only[cond_true,Option.some.injEq]at b;subst b;have f:t<n:=by simpa [Nat.blt_eq]using hb
    simp[Act.put,c,f]
  ·have:Nat.beq t d=false:=by
    cases hb:Nat.beq t d with
    |false=>rfl
    |true=>exact absurd (Nat.eq_of_beq_eq_true hb) e
   rw[this]at b;simp only[cond_false]at b;have:=i t u b;simp[Act.put,Array.getElem?_setIfInBounds_ne (Ne.symm e),this]
def cm(ρ:Env):Operand->Option Value
 | .tmp t=>ρ t
 | .const v=>some v
 | .global g=>some (.pointer (some ⟨g,0,none⟩))
 | .func f=>some (.func (.func f) #[] #[])
theorem fB.eval{n:Nat}{ρ:Env}{a:Act}(h:fB n ρ a){x:Operand}{v:Value}(b:cm ρ x=some v):a.eval x=v:=by
 cases x with
 |tmp t=>have:=h.2.2 t v b;simp[Act.eval,this]
 |const u=>exact Option.some.inj b
 |global g=>exact Option.some.inj b
 |func f=>exact Option.some.inj b
def mV{α:Type}(o:Option α)(K:α->Prop):Prop:=match o with|some v=>K v|none=>False
theorem gH{α:Type}{o:Option α}{K:α->Prop}:mV o K<->∃v,o=some v/\K v:=by
 cases o<;>simp[mV]
noncomputable def ai(P:Program)(m:Sem Value):Option Value:=open Classical in if h:∃v,∀w,m.run P w= .ok v w then some h.choose else none
theorem pureRun_spec{P:Program}{m:Sem Value}{v:Value}(h:ai P m=some v)(w:World):m.run P w= .ok v w:=by
 unfold ai at h;split at h
 ·rename_i a;cases h;exact a.choose_spec w
 ·cases h
theorem aU{P:Program}{m:Sem Value}{v:Value}(h:∀w,m.run P w= .ok v w):ai P m=some v:=by
 unfold ai;have b:∃v,∀w,m.run P w= .ok v w:=⟨v,h⟩
 rw[dif_pos b];have a:=b.choose_spec default;rw[h default]at a;injection a with a
 rw[a]
def gZ(w:World)(a:Addr):Nat->Nat->Option (List Value)
 |_,0=>some []
 |i,n+1=>match w.cell? (a.add i),gZ w a (i+1) n with
  |some v,some vs=>some (v::vs)
  |_,_=>none
def iX:TypeDesc->Bool
 | .struct _| .array _ _=>true
 |_=>false
def gi(P:Program)(t:TypeId)(x:Value)(w:World):Option Value:=
 match x with
 | .pointer (some a)=>(P.underlying t).bind λd=>bif iX d then(P.info? t).bind λi=>(gZ w a 0 i.size).map λl=> .agg l.toArray else w.cell? a
 |_=>none
theorem pc{P:Program}{w:World}{a:Addr}:∀{n i:Nat} {l:List Value} {b:Array Value},gZ w a i n=some l->(loadCellsFrom a i n b).run P w= .ok (b++l.toArray) w
 |0,i,l,b,h=>by simp[gZ]at h;subst h;simp[loadCellsFrom]
 |n+1,i,l,b,h=>by
  simp only[gZ]at h;split at h
  ·rename_i v vs c d;cases h;simp only[loadCellsFrom,Sem.run_bind,run_load,c,Result.andThen_ok,pc d];congr 1;apply Array.toList_inj.1;simp
  ·cases h
theorem ldv_spec{P:Program}{t:TypeId}{x:Value}{w:World}{v:Value}(h:gi P t x w=some v):(Instr.loadAt t x).run P w= .ok v w:=by
 unfold gi at h;split at h
 case h_2=>cases h
 rename_i a;obtain⟨d,e,h⟩:=Option.bind_eq_some_iff.1 h;have b:(isAgg t).run P w= .ok (iX d) w:=by
  simp only[isAgg,underlying,Sem.run_bind,run_program,Result.andThen_ok,e,Sem.run_pure];cases d<;>rfl
 cases c:iX d with
 |false=>
  rw[c]at h;simp only[cond_false]at h;simp only[Instr.loadAt,Instr.sureAddr,pure_bind,loadVar,Sem.run_bind,b,c,Result.andThen_ok,Bool.false_eq_true,if_false,run_load,h]
 |true=>
  rw[c]at h;simp only[cond_true]at h;obtain⟨i,f,h⟩:=Option.bind_eq_some_iff.1 h;obtain⟨l,g,rfl⟩:=dc.1 h;simp only[Instr.loadAt,Instr.sureAddr,pure_bind,loadVar,Sem.run_bind,b,c,Result.andThen_ok,if_true,sizeOf,typeInfo,run_program,f,Sem.run_pure,loadCells,pc g];simp
def Ext(w b:World):Prop:=∀a v,w.cell? a=some v->b.cell? a=some v
theorem cellsAt_ext{w c:World}(h:Ext w c){a:Addr}:∀{n i:Nat} {l:List Value},gZ w a i n=some l->gZ c a i n=some l
 |0,_,_,b=>b
 |n+1,i,l,b=>by
  simp only[gZ]at b⊢;split at b
  ·rename_i v vs d e;cases b;rw[h _ _ d,cellsAt_ext h e]
  ·cases b
theorem ldv_ext{P:Program}{w f:World}(h:Ext w f){t:TypeId}{x v:Value}(b:gi P t x w=some v):gi P t x f=some v:=by
 unfold gi at b⊢;split at b
 case h_2=>cases b
 obtain⟨d,j,a⟩:=Option.bind_eq_some_iff.1 b;rw[j];simp only[Option.bind_some];cases g:iX d with
 |false=>rw[g]at a;exact h _ _ a
 |true=>
  rw[g]at a;simp only[cond_true]at a⊢;obtain⟨i,k,c⟩:=Option.bind_eq_some_iff.1 a;obtain⟨l,e,rfl⟩:=dc.1 c;rw[k];simp only[Option.bind_some,cellsAt_ext h e,Option.map_some]
def cP(P:Program)(m:Sem Value)(w:World)(K:Value->World->Prop):Prop:=match m.run P w with| .ok v a=>K v a| .halt _ _=>False
def ck(P:Program)(m:Sem Unit)(w:World)(K:World->Prop):Prop:=match m.run P w with| .ok _ a=>K a| .halt _ _=>False
theorem effv_of{P:Program}{m:Sem Value}{w a:World}{v:Value}{K:Value->World->Prop}(h:m.run P w= .ok v a)(b:K v a):cP P m w K:=by
 unfold cP;rw[h];exact b
def aa(P:Program)(f:FuncId)(args:List Value)(w:World)(Q:Value->World->Prop):Prop:=
 Calls P f args.toArray w λe a=>∃v,e= .returned v/\Q v a
theorem aa.mono{P:Program}{f:FuncId}{args:List Value}{w:World}{Q a:Value->World->Prop}(h:aa P f args w Q)(c:∀v b,Q v b->a v b):aa P f args w a:=
 Calls.mono h λ_ _ ⟨v,d,e⟩=>⟨v,d,c _ _ e⟩
def yes(c:Value)(want:Bool):Bool:=match c with| .bool b=>b==want|_=>false
def gv(c:Value)(want:Bool)(v:Value):Value:=bif yes c want then v else undef
def gd(c:Value)(want:Bool)(x:Option Value):Option Value:=bif yes c want then x else some undef
def gE(c:Value)(want:Bool)(C:(Value->World->Prop)->Prop)(K:Value->World->Prop)(w:World):Prop:=bif yes c want then C K else K undef w
def gU(c:Value)(want:Bool)(C:(World->Prop)->Prop)(K:World->Prop)(w:World):Prop:=bif yes c want then C K else K w
def qV(c:Value)(a b:Option Value):Option Value:=match c with| .bool true=>a| .bool false=>b|_=>none
def nilv(v:Value):Option Value:=match v with| .pointer (some a)=>some (.pointer (some a))|_=>none
def cnd(c:Value)(a b:Prop):Prop:=match c with| .bool true=>a| .bool false=>b|_=>False
inductive lJ where
 |val (v:Value)
 |opt (v:Option Value)
 |pure (m:Sem Value)
 |read (t:TypeId) (x:Value)
 |tc (m:Sem Value)
 |effU (m:Sem Unit)
 |call (g:FuncId) (args:List Value)
 |bad
def pZ(ρ:Env):List Operand->Option (List Value)
 | []=>some []
 |x::xs=>match cm ρ x,pZ ρ xs with|some v,some vs=>some (v::vs)|_,_=>none
def m3(ρ:Env):List (Nat×Operand)->Option (List (Nat×Value))
 | []=>some []
 |(i,x)::xs=>match cm ρ x,m3 ρ xs with|some v,some vs=>some ((i,v)::vs)|_,_=>none
def opmay(ρ:Env):Option Operand->Option (Option Value)
 |none=>some none
 |some x=>match cm ρ x with|some v=>some (some v)|none=>none
def on1(o:Option Value)(f:Value->lJ):lJ:=match o with|some v=>f v|none=> .bad
def on2(o p:Option Value)(f:Value->Value->lJ):lJ:=match o,p with|some v,some u=>f v u|_,_=> .bad
def onL{α:Type}(o:Option α)(f:α->lJ):lJ:=match o with|some v=>f v|none=> .bad
def builtinK(b:Builtin)(a:Array TypeId)(t:TypeId)(vs:List Value):lJ:=
 match b with
 | .len=> .pure (Builtin.len_ a t vs.toArray)
 | .cap=> .pure (Builtin.cap_ a t vs.toArray)
 | .min=> .pure (Builtin.min_ a t vs.toArray)
 | .max=> .pure (Builtin.max_ a t vs.toArray)
 | .append=> .tc (Builtin.append_ a t vs.toArray)
 | .copy=> .tc (Builtin.copy_ a t vs.toArray)
 |_=> .bad
def nl(b:FuncId->Bool)(f:Option Value)(vs:Option (List Value)):lJ:=
 match f,vs with
 |some (.func (.func g) first a),some vs=>bif b g then .call g (first.toList++vs++a.toList)else .bad
 |_,_=> .bad
def cvE(s d:TypeId):Bool:=Nat.beq d 9||Nat.beq s 9
def sX(e:FuncId->Bool)(ρ:Env)(o:Oper):lJ:=
 match o.op with
 | .move x| .assign x=>on1 (cm ρ x) .val
 | .pick c a b=>on1 (cm ρ c) λv=> .opt (qV v (cm ρ a) (cm ρ b))
 | .alloc t=> .tc (Instr.alloc t true (.tuple #[]))
 | .box t x=>on1 (cm ρ x) λv=> .tc (Instr.box t v)
 | .build t g=>onL (m3 ρ g.toList) λvs=> .pure (Instr.build t vs.toArray)
 | .buildSlice t n g=>onL (m3 ρ g.toList) λvs=> .tc (Instr.buildSlice t n vs.toArray)
 | .load t a=>on1 (cm ρ a) λv=> .read t v
 | .store t a x=>on2 (cm ρ a) (cm ρ x) λa v=> .effU (Instr.storeAt t a v)
 | .nilCheck x=>on1 (cm ρ x) λv=> .opt (nilv v)
 | .binOp op t x y _=>on2 (cm ρ x) (cm ρ y) λa b=> .pure (do eqGuard op t x y a b;binOp op t a b)
 | .unOp op _ x=>on1 (cm ρ x) λv=> .pure (Op.unary op v)
 | .convert s d x=>on1 (cm ρ x) λv=>bif cvE s d then .tc (convert s d v)else .pure (convert s d v)
 | .makeInterface t x=>on1 (cm ρ x) λv=> .pure (Instr.makeInterface t v)
 | .makeFunc fn first cap=>onL (pZ ρ first.toList) λa=>onL (pZ ρ cap.toList) λb=> .val (.func fn a.toArray b.toArray)
 | .makeSlice t l c=>on2 (cm ρ l) (cm ρ c) λa b=> .tc (Instr.makeSlice t a b)
 | .slice t x j k p=>on1 (cm ρ x) λv=>onL (opmay ρ j) λl=>onL (opmay ρ k) λh=>onL (opmay ρ p) λm=> .pure (Instr.sliceAt t v l h m)
 | .fieldAddr t x f=>on1 (cm ρ x) λv=> .pure (Instr.fieldAt t v f)
 | .field t x f=>on1 (cm ρ x) λv=> .pure (Instr.field t v f)
 | .indexAddr t x i=>on2 (cm ρ x) (cm ρ i) λa b=> .pure (Instr.indexAt t a b)
 | .index t x i=>on2 (cm ρ x) (cm ρ i) λa b=> .pure (Instr.index t a b)
 | .typeAssert x q t ok=>on1 (cm ρ x) λv=> .pure (Instr.typeAssert v q t ok)
 | .extract x i=>on1 (cm ρ x) λv=> .pure (Instr.extract v i)
 | .call c=>match c.callee with
  | .builtin b=>onL (pZ ρ c.args.toList) λvs=>builtinK b c.argTypes o.type vs
  | .value f=>nl e (cm ρ f) (pZ ρ c.args.toList)
  | .invoke _ _=> .bad
 |_=> .bad
def lJ.Is(P:Program)(m:Sem Next):lJ->Prop
 | .val v=>m=Pure.pure (.value v)
 | .opt o=>∀v,o=some v->∀w,m.run P w= .ok (.value v) w
 | .pure s| .tc s=>m=(do Pure.pure (.value (<- s)))
 | .read t x=>m=(do Pure.pure (.value (<- Instr.loadAt t x)))
 | .effU s=>m=(do s;Pure.pure .skip)
 | .call g args=>∀w,m.run P w= .ok (.enter g args.toArray) w
 | .bad=>True
def EntOk (P : Program) (ent : FuncId → Bool) : Prop := ∀ g, ent g = true → ∃ fn c, P.funcs[g]? = some fn ∧ fn.body = some c ∧ fn.name ≠ "runtime.NumGoroutine"
theorem pd{n:Nat}{ρ:Env}{a:Act}(h:fB n ρ a):∀{xs:List Operand} {vs:List Value},pZ ρ xs=some vs->xs.map a.eval=vs
 | [],vs,b=>by simp[pZ]at b;simp[b]
 |x::xs,vs,b=>by
  simp only[pZ]at b;split at b
  ·rename_i v us c d;cases b;simp[h.eval c,pd h d]
  ·cases b
theorem p8{n:Nat}{ρ:Env}{a:Act}(h:fB n ρ a):∀{xs:List (Nat×Operand)} {vs:List (Nat×Value)},m3 ρ xs=some vs->(xs.map fun(i,x)=>(i,a.eval x))=vs
 | [],vs,b=>by simp[m3]at b;simp[b]
 |(i,x)::xs,vs,b=>by
  simp only[m3]at b;split at b
  ·rename_i v us c d;cases b;simp only[List.map_cons,h.eval c];have:=p8 h d;rw[this]
  ·cases b
theorem tu{n:Nat}{ρ:Env}{a:Act}(h:fB n ρ a){x:Option Operand}{v:Option Value}(b:opmay ρ x=some v):x.map a.eval=v:=by
 cases x with
 |none=>simp[opmay]at b;simp[b]
 |some x=>
  simp only[opmay]at b;split at b
  ·rename_i u c;cases b;simp[h.eval c]
  ·cases b
theorem opk_is{P:Program}{ent:FuncId->Bool}(he:EntOk P ent){n:Nat}{ρ:Env}{a:Act}(h:fB n ρ a)(o:Oper):(sX ent ρ o).Is P (execOp a.eval o):=by
 obtain⟨dst,op,type,pos,after,guard⟩:=o;have l1:∀(x:Option Value) (f:Value->lJ) (m:Sem Next),(∀ v,x=some v->(f v).Is P m)->(on1 x f).Is P m:=by
  intro x f m hx;cases x with
  |none=>trivial
  |some v=>exact hx v rfl
 have l2:∀(x y:Option Value) (f:Value->Value->lJ) (m:Sem Next),(∀ v u,x=some v->y=some u->(f v u).Is P m)->(on2 x y f).Is P m:=by
  intro x y f m hx;cases x with
  |none=>trivial
  |some v=>
   cases y with
   |none=>trivial
   |some u=>exact hx v u rfl rfl
 have lL:∀{α:Type} (x:Option α) (f:α->lJ) (m:Sem Next),(∀ v,x=some v->(f v).Is P m)->(onL x f).Is P m:=by
  intro α x f m hx;cases x with
  |none=>trivial
  |some v=>exact hx v rfl
 cases op<;>simp only[sX,execOp]<;>try trivial
 case move x=>exact l1 _ _ _ λv hv=>by rw[h.eval hv];rfl
 case assign x=>exact l1 _ _ _ λv hv=>by rw[h.eval hv];rfl
 case pick c x y=>
  refine l1 _ _ _ λv hv=>?_;rw[h.eval hv];intro u hu w;unfold qV at hu;split at hu
  ·rw[h.eval hu];rfl
  ·rw[h.eval hu];rfl
  ·cases hu
 case box t x=>exact l1 _ _ _ λv hv=>by rw[h.eval hv];rfl
 case build t ps=>
  refine lL _ _ _ λv hv=>?_;have:=p8 h hv;show _=_;rw[<- this];congr 1;congr 1;apply Array.toList_inj.1;simp
 case buildSlice t n ps=>
  refine lL _ _ _ λv hv=>?_;have:=p8 h hv;show _=_;rw[<- this];congr 1;congr 1;apply Array.toList_inj.1;simp
 case load t x=>exact l1 _ _ _ λv hv=>by rw[h.eval hv];rfl
 case store t x y=>exact l2 _ _ _ _ λv u hv hu=>by rw[h.eval hv,h.eval hu];rfl
 case nilCheck x=>
  refine l1 _ _ _ λv hv=>?_;rw[h.eval hv];intro u hu w;unfold nilv at hu;split at hu
  ·cases hu;rfl
  ·cases hu
 case binOp op t x y yt=>exact l2 _ _ _ _ λv u hv hu=>by rw[h.eval hv,h.eval hu];rfl
 case unOp op t x=>exact l1 _ _ _ λv hv=>by rw[h.eval hv];rfl
 case convert s d x=>exact l1 _ _ _ λv hv=>by rw[h.eval hv];cases cvE s d<;>rfl
 case makeInterface t x=>exact l1 _ _ _ λv hv=>by rw[h.eval hv];rfl
 case makeFunc fn first cap=>
  refine lL _ _ _ λv hv=>lL _ _ _ λu hu=>?_;have h1:=pd h hv;have h2:=pd h hu;show _=_;have e1:first.map a.eval=v.toArray:=by rw[<- h1];apply Array.toList_inj.1;simp
  have e2:cap.map a.eval=u.toArray:=by rw[<- h2];apply Array.toList_inj.1;simp
  rw[e1,e2];rfl
 case makeSlice t l c=>exact l2 _ _ _ _ λv u hv hu=>by rw[h.eval hv,h.eval hu];rfl
 case slice t x lo hi mx=>
  refine l1 _ _ _ λv hv=>lL _ _ _ λl hl=>lL _ _ _ λg hg=>lL _ _ _ λm hm=>?_;rw[h.eval hv,tu h hl,tu h hg,tu h hm];rfl
 case fieldAddr t x f=>exact l1 _ _ _ λv hv=>by rw[h.eval hv];rfl
 case field t x f=>exact l1 _ _ _ λv hv=>by rw[h.eval hv];rfl
 case indexAddr t x i=>exact l2 _ _ _ _ λv u hv hu=>by rw[h.eval hv,h.eval hu];rfl
 case index t x i=>exact l2 _ _ _ _ λv u hv hu=>by rw[h.eval hv,h.eval hu];rfl
 case typeAssert x xt t ok=>exact l1 _ _ _ λv hv=>by rw[h.eval hv];rfl
 case extract x i=>exact l1 _ _ _ λv hv=>by rw[h.eval hv];rfl
 case call c=>
  obtain⟨callee,args,argTypes⟩:=c;cases callee with
  |invoke r m=>trivial
  |builtin b=>
   refine lL _ _ _ λvs hvs=>?_;have h1:args.map a.eval=vs.toArray:=by rw[<- pd h hvs];apply Array.toList_inj.1;simp
   simp only[resolve,h1,pure_bind];cases b<;>simp only[builtinK,invoke,builtin]<;>first|trivial|rfl
  |value f=>
   show(nl ent (cm ρ f) (pZ ρ args.toList)).Is P _;cases hf:cm ρ f with
   |none=>trivial
   |some fv=>
    cases hvs:pZ ρ args.toList with
    |none=>unfold nl;split<;>first|trivial|simp_all
    |some vs=>
     unfold nl;split
     ·rename_i g first captured us e1 e2
      cases e1;cases e2;cases hg:ent g with
      |false=>trivial
      |true=>
       intro w;obtain⟨fn,c,hfn,hb,hn⟩:=he g hg;have h1:args.map a.eval=vs.toArray:=by rw[<- pd h hvs];apply Array.toList_inj.1;simp
       have hn' : (fn.name == "runtime.NumGoroutine") = false := by simpa using hn
       simp only[resolve,h.eval hf,Deferred.ofValue,pure_bind,invoke,callFunc,h1,Sem.run_bind,run_program,Result.andThen_ok,hfn,hn',Bool.false_eq_true,if_false,hb,Option.isNone_some,Sem.run_pure];congr 2;apply Array.toList_inj.1;simp
     ·trivial
end Go.Proofs.YtnpflajdbchghaaGreat.Ev
