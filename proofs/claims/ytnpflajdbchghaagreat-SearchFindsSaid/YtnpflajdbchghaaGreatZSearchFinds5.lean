/- Parts of the proof of SearchFinds, one behind the other. Conditions: none. -/
import Derived.Great.BuildSlice
import Derived.Laws.StructEq
import Derived.Test.YtnpflajdbchghaaGreatZSearchFinds4
set_option linter.unusedSimpArgs false
set_option linter.unusedVariables false
noncomputable section
namespace Go.Proofs.YtnpflajdbchghaaGreat.Ev
open Go Go.RowKit
theorem add_add(p:Addr)(a b:Nat):(p.add a).add b=p.add (a+b):=by
 unfold Addr.add;by_cases c:a=0<;>by_cases hb:b=0<;>simp[c,hb,Nat.add_assoc]
def ed(w:World)(A:Option Addr)(cs:List Value):Prop:=∀j u,cs[j]? =some u->∃p,A=some p/\w.cell? (p.add j)=some u
theorem ed.an{w a:World}{A:Option Addr}{cs:List Value}(h:ed w A cs)(hb:Below w.heap.size w a):ed a A cs:=λj u b=>by
 obtain⟨p,hp,c⟩:=h j u b;exact⟨p,hp,Below.rL hb c⟩
theorem ed.aw{w d:World}{S:List Nat}{A:Option Addr}{cs:List Value}(h:ed w A cs)(e:ad S w d)(f:∀p,A=some p->cs≠ []->p.block∉S):ed d A cs:=λj u b=>by
 obtain⟨p,hp,a⟩:=h j u b;have c:(p.add j).block=p.block:=by unfold Addr.add;split<;>rfl
 exact⟨p,hp,e.cell a (by rw[c];exact f p hp (λh=>by rw[h]at b;simp at b))⟩
theorem ed.nil(w:World)(A:Option Addr):ed w A []:=λj u a=>by simp at a
theorem aG{w:World}{base:Nat}{e:TypeId}{z:Nat}{v:Value}{n:Nat}{xs:List Value}(h:w.ownsRow base e z v n xs):∃A c,v= .slice A n c/\ed w A xs/\(∀ p,A=some p->base<=p.block/\p.block<w.heap.size)/\c<=maxLen:=by
 rcases h.2 with⟨rfl,i⟩|⟨g,a,k,rfl,b,l,m,d,o,f⟩
 ·have:xs= []:=by have:=h.1;rw[i]at this;simpa using this
  subst this;exact⟨none,0,by rw[i],ed.nil _ _,λp (hp:none=some p)=>by simp at hp,cX _⟩
 ·refine⟨some ⟨g,0,none⟩,a,rfl,λj u q=>⟨_,rfl,h.cells (g:=g) rfl j u q⟩,λp hp=>?_,d⟩;cases hp;exact⟨b,az l⟩
theorem eZ{w c:World}{S:List Nat}{base:Nat}{e:TypeId}{z:Nat}{v:Value}{n:Nat}{xs:List Value}(h:w.ownsRow base e z v n xs)(f:ad S w c)(i:∀k,v.ownBlock=some k->k∉S):c.ownsRow base e z v n xs:=by
 refine⟨h.1,h.2.imp id fun⟨g,a,b,d,j,l,m⟩=>⟨g,a,b,d,j,?_,m⟩⟩;exact f.at l (i g (by rw[d];rfl))
theorem mI{x:Option Obj}:∀(n o:Nat) (cs:List Value),cs.length=n->(∀ j u,cs[j]? =some u->ao x (o+j)=some u)->ldL x o n=some cs
 |0,o,cs,a,h=>by simp at a;subst a;rfl
 |n+1,o, [],a,h=>by simp at a
 |n+1,o,u::cs,a,h=>by
  have c:=mI n (o+1) cs (by simpa using a) λj v d=>by
   have:=h (j+1) v (by simpa using d);rw[Nat.add_right_comm];exact this
  have b:ao x o=some u:=h 0 u rfl;rw[ldL,b,c]
section
variable{P:Program}{w:World}{K:Value->World->Prop}
theorem ed.elem{A:Option Addr}{cs:List Value}{s e:TypeId}{z n c:Nat}{i:Int}{j:IntKind}(h:ed w A cs)(B:P.underlying s=some (.slice e))(C:(P.info? e).map (·.size)=some z)(D:0<z)(J:n*z<=cs.length)(E:0<=i)(F:i<n):
  ∃b o,ai P (Instr.indexAt s (.slice A n c) (.int j i))=some (.pointer (some ⟨b,o,none⟩))/\(∀ k,k<z->ao (hp w b) (o+k)=cs[i.toNat*z+k]?)/\ldL (hp w b) o z=some ((cs.drop (i.toNat*z)).take z)/\(∃ p,A=some p/\b=p.block):=by
 have G:i.toNat*z+z<=cs.length:=by
  have H:i.toNat+1<=n:=dy;have I:=Nat.mul_le_mul_right z H;rw[Nat.add_mul,Nat.one_mul]at I;omega
 obtain⟨u0,g⟩:∃u,cs[i.toNat*z]? =some u:=⟨_,bZ dy⟩
 obtain⟨p,hp,a⟩:=h _ _ g;subst hp;have f:(p.add (i.toNat*z)).spot=none:=by
  unfold World.cell? at a;split at a
  ·cases f:(p.add (i.toNat*z)).spot with
   |none=>rfl
   |some x=>rw[f]at a;simp at a
  ·cases a
 have l:(p.add (i.toNat*z)).block=p.block:=by unfold Addr.add;split<;>rfl
 have t:p.add (i.toNat*z)=⟨p.block,(p.add (i.toNat*z)).off,none⟩:=by
  rw[<- l,<-f]
 have m:∀k,k<z->ao (hp w p.block) ((p.add (i.toNat*z)).off+k)=cs[i.toNat*z+k]? :=by
  intro k m;obtain⟨u,v⟩:∃u,cs[i.toNat*z+k]? =some u:=⟨_,bZ dy⟩
  obtain⟨p',q,y⟩:=h _ _ v;cases q;rw[<- add_add,t,eR,gi]at y;rw[v];exact y
 refine⟨p.block,(p.add (i.toNat*z)).off,?_,m,?_,p,rfl,rfl⟩
 ·rw[<- t];exact pr_index B C E F
 ·refine mI z _ _ (by simp;omega) λk u d=>?_;rw[List.getElem?_take]at d;split at d
  ·rename_i r;rw[m k r,<-List.getElem?_drop];exact d
  ·cases d
theorem ed.elem1{A:Option Addr}{cs:List Value}{s e:TypeId}{n c:Nat}{i:Int}{j:IntKind}(h:ed w A cs)(d:P.underlying s=some (.slice e))(f:(P.info? e).map (·.size)=some 1)(m:n<=cs.length)(g:0<=i)(a:i<n):
  ∃b o,ai P (Instr.indexAt s (.slice A n c) (.int j i))=some (.pointer (some ⟨b,o,none⟩))/\ao (hp w b) o=cs[i.toNat]? /\(∃ p,A=some p/\b=p.block):=by
 obtain⟨b,o,a,k,_,l⟩:=h.elem (c:=c) (j:=j) d f dy dy g a;have:=k 0 dy;rw[dm,Nat.add_zero,Nat.add_zero]at this;exact⟨b,o,a,this,l⟩
theorem pr_slice_l{t e:TypeId}{z n c:Nat}{A:Option Addr}{k:IntKind}{l:Int}(b:P.underlying t=some (.slice e))(a:(P.info? e).map (·.size)=some z)(d:0<=l)(f:l<=n):
  ai P (Instr.sliceAt t (.slice A n c) (some (.int k l)) none none)=some (.slice (if c=l.toNat then A else A.map (·.add (l.toNat*z))) (n-l.toNat) (c-l.toNat)):=aX λw=>by
 obtain⟨i,g,a⟩:=dc.1 a;have hb:(Instr.sliceBound (.int k l) n .sliceB).run P w= .ok l.toNat w:=by simp[Instr.sliceBound,asIntOf,d,f]
 simp[Instr.sliceAt,Instr.slice,run_underlying b,Instr.sliceBounds,hb,sizeOf,typeInfo,g,a]
theorem uc{t e:TypeId}{z n c:Nat}{A:Option Addr}{k:IntKind}{l:Int}(b:P.underlying t=some (.slice e))(a:(P.info? e).map (·.size)=some z)(d:0<=l)(f:l<=c):
  ai P (Instr.sliceAt t (.slice A n c) none (some (.int k l)) none)=some (.slice A l.toNat c):=aX λw=>by
 obtain⟨i,g,a⟩:=dc.1 a;have hb:(Instr.sliceBound (.int k l) c .sliceAcap).run P w= .ok l.toNat w:=by simp[Instr.sliceBound,asIntOf,d,f]
 have j:A.map (λx=>x.add 0)=A:=by cases A<;>rfl
 simp[Instr.sliceAt,Instr.slice,run_underlying b,Instr.sliceBounds,hb,sizeOf,typeInfo,g,j]
theorem ed.drop{A:Option Addr}{cs:List Value}(h:ed w A cs)(c l z:Nat)(e:c=l->cs.length<=l*z):ed w (if c=l then A else A.map (·.add (l*z))) (cs.drop (l*z)):=by
 intro j u d;rw[List.getElem?_drop]at d;obtain⟨p,hp,a⟩:=h _ _ d;subst hp;by_cases b:c=l
 ·have:=e b;have:=(ce.1 d).1;omega
 ·rw[bY b];exact⟨p.add (l*z),rfl,by rw[add_add];exact a⟩
theorem ed.take{A:Option Addr}{cs:List Value}(h:ed w A cs)(n:Nat):ed w A (cs.take n):=by
 intro j u a;rw[List.getElem?_take]at a;split at a
 ·exact h j u a
 ·cases a
def iB(w:World)(x x':Value):Prop:=∀k,x'.ownBlock=some k->x.ownBlock=some k\/w.heap.size<=k
theorem append_new{t r e:TypeId}{i:TypeInfo}{z:Value}{base n:Nat}{v v':Value}{I:World}{xs:List Value}(A:P.underlying t=some (.slice e))(B:P.info? e=some i)(H:i.zero=some z)(J:0<i.size)(l:w.ownsRow base e i.size v n xs)
  {a:Addr} {m c:Nat} {news:List Value} (s:news.length=m*i.size) (b:∀j u,news[j]? =some u->w.cell? (a.add j)=some u) (K:∀u∈news,u.oneCell'=true)
  (E:n+m<=maxLen) (f:(n+m)*i.bytes<=140737488355328) (p:(Builtin.append_ #[t,t] r #[v,.slice (some a) m c]).run P w= .ok v' I):iB w v v':=by
 have C:n+m<=9223372036854775807:=by simp only[maxLen]at E;omega
 intro k D;rcases l.2 with⟨rfl,rfl⟩|⟨g,q,x,rfl,L,M,O,Q,F,G⟩
 ·by_cases R:m=0
  ·subst R;have S:news= []:=List.eq_nil_of_length_eq_zero (by simpa using s);subst S;have d:(Builtin.append_ #[t,t] r #[.slice none 0 0,.slice (some a) 0 c]).run P w= .ok (.slice none 0 0) w:=by
    simp[Builtin.append_,run_underlying A,sizeOf,typeInfo,B,Builtin.lenOf,Builtin.firstCells,loadCells,loadCellsFrom]
   rw[d]at p;cases p;exact .inl D
  ·have d:=run_append_nil (P:=P) w t r e i z A B H a m c news s b dy dy (by have hb:=f;simp only[cV]at hb;omega);rw[d]at p;cases p;simp[Value.ownBlock]at D;exact .inr dy
 ·by_cases o:n+m<=q
  ·have y:n*i.size+news.length<=x.size:=by rw[s,F,<-Nat.add_mul];exact Nat.mul_le_mul_right _ o
   have d:=run_append_room (P:=P) w t r e i A B g n q x M a m c news s b K o y;rw[d]at p;cases p;exact .inl D
  ·have holds:∀j u,xs[j]? =some u->w.cell? ((⟨g,0,none⟩:Addr).add j)=some u:=l.cells (g:=g) rfl;have d:=run_append_grow (P:=P) w t r e i z A B H ⟨g,0,none⟩ n q xs l.1 holds a m c news s b dy dy (growslice_fits dy f);rw[d]at p;cases p;simp[Value.ownBlock]at D;exact .inr dy
theorem gK{t E e:TypeId}{f v x:Value}{i:TypeInfo}{base n z:Nat}{xs cs:List Value}(p:P.underlying t=some (.slice e))(q:P.info? e=some i)(r:i.zero=some f)(J:i.size=z)(s:f.cells.size=z)(F:0<z)(L:z<=16777216)
  (d:Instr.fill (λk=>some (k*z,z)) ((Array.range (1*z)).map (f.cells[· %f.cells.size]!)) [(0,v)]=some cs.toArray) (A:cs.length=z) (G:∀u∈cs,u.oneCell'=true)
  (c:w.ownsRow base e z x n xs) (H:n+1<=maxLen) (a:(n+1)*i.bytes<=140737488355328) (B:base<=w.heap.size)
  (g:∀x' l,l.ownsRow base e z x' (n+1) (xs++cs)->w.grownBy l x.ownBlock->iB w x x'->K x' l):
  dF P (Instr.buildSlice t 1 #[(0,v)]) w λy w1=>dF P (Builtin.append_ #[t,t] E #[x,y]) w1 K:=by
 subst J;have hb:=run_buildSlice (P:=P) w t e 1 #[(0,v)] cs.toArray i f p q r dy dy d;refine effv_of hb ?_;have b:∀j u,cs[j]? =some u->(w.alloc (.cells cs.toArray e)).cell? ((⟨w.heap.size,0,none⟩:Addr).add j)=some u:=λj u M=>by rw[eR,gi,af,bX rfl,aN];simpa using M
 have m:cs.length=1*i.size:=by rw[A,Nat.one_mul]
 obtain⟨x',l,I,O,o,_⟩:=run_append_own (P:=P) (w.alloc (.cells cs.toArray e)) base t E e i f i.size i.bytes p q r rfl rfl s F x n xs (c.alloc _) ⟨w.heap.size,0,none⟩ 1 1 cs m
  b G H a (by simp;omega)
 have C:=append_new p q r F (c.alloc _) m b G H a I;refine effv_of I (g x' l O ⟨o.os,o.tape,o.output,?_,λk g D=>?_⟩ λk g=>(C k g).imp id λh=>by simp at h;omega)
 ·have:=o.size;simp at this;omega
 ·rw[o.block k (by simp;omega) D,Below.heap_alloc w _ k g]
theorem fe{t e:TypeId}{a:Nat}{b:Array (Nat×Value)}{c:Array Value}{f:Value}{g:TypeInfo}{z:Nat}(i:P.underlying t=some (.slice e))(j:P.info? e=some g)(l:g.zero=some f)(m:g.size=z)(o:0<a*z)(n:a*z<=16777216)
  (d:Instr.fill (λk=>some (k*z,z)) ((Array.range (a*z)).map (f.cells[· %f.cells.size]!)) b.toList=some c):
  dF P (Instr.buildSlice t a b) w K=K (.slice (some ⟨w.heap.size,0,none⟩) a a) (w.alloc (.cells c e)):=by
 subst m;have hb:=run_buildSlice (P:=P) w t e a b c g f i j l dy dy d;unfold dF;rw[hb]
@[simp] theorem bp_or {t : TypeId} {k : IntKind} {a b : Int} : bp P .or t (.int k a) (.int k b) = some (.int k (k.wrap (BitVec.ofInt k.bits a ||| BitVec.ofInt k.bits b).toNat)) := rK λw => by simp [binOp, Op.intBits]
end
section
variable{P:Program}
def eqF(d:Nat)(xs c:Array Value):List (Bool×TypeId×Nat)->Sem Bool
 | []=>pure true
 |f::fs=>
  if f.1=true then do
   let a<-part f.2.1 xs f.2.2
   let b<-part f.2.1 c f.2.2
   let r<-Op.equalIn d f.2.1 a b
   if(!r)=true then pure false else eqF d xs c fs
  else eqF d xs c fs
theorem eqFields_eqF (d : Nat) (xs ys : Array Value) : ∀ fs : List Field, Op.eqFields d xs ys fs = eqF d xs ys (fs.map fun f => (decide (f.name ≠ "_"), f.type, f.offset))
 | []=>rfl
 |f::fs=>by
  rw[Op.eqFields,List.map_cons,eqF,eqFields_eqF d xs ys fs]
  by_cases h : f.name = "_" <;> simp [h]
theorem gj{d:Nat}{xs c:Array Value}{t:TypeId}{o:Nat}{fs:List (Bool×TypeId×Nat)}{w:World}{a b:Value}{r rs:Bool}(f:(part t xs o).run P w= .ok a w)(hb:(part t c o).run P w= .ok b w)(g:(Op.equalIn d t a b).run P w= .ok r w)
  (e:(eqF d xs c fs).run P w= .ok rs w):(eqF d xs c ((true,t,o)::fs)).run P w= .ok (r&&rs) w:=by
 simp only[eqF,if_true,Sem.run_bind,f,hb,g,Result.andThen_ok];cases r
 ·simp
 ·simp[e]
theorem eqF_nil{d:Nat}{xs a:Array Value}{w:World}:(eqF d xs a []).run P w= .ok true w:=by simp[eqF]
theorem bE{t:TypeId}{xs:Array Value}{o:Nat}{w:World}{v:Value}(h:(P.underlying t).map jq=some false)(hv:xs[o]? =some v):(part t xs o).run P w= .ok v w:=by
 obtain⟨d,a,h⟩:=dc.1 h;simp[part,isAgg_run a,h,hv]
theorem part_ag{t:TypeId}{xs:Array Value}{o n:Nat}{w:World}(h:(P.underlying t).map jq=some true)(a:(P.info? t).map (·.size)=some n):(part t xs o).run P w= .ok (.agg (xs.extract o (o+n))) w:=by
 obtain⟨d,b,h⟩:=dc.1 h;obtain⟨i,c,a⟩:=dc.1 a;simp[part,isAgg_run b,h,sizeOf,typeInfo,c,a]
theorem mJ{d:Nat}{t:TypeId}{xs ys:Array Value}{fs:List (Bool×TypeId×Nat)}{w:World}{r:Bool}(ht:P.underlying t=some (.struct (P.fieldsOf t)))(hp:P.stoodInHeld t=false)
  (hf : ((P.fieldsOf t).toList.map fun f => (decide (f.name ≠ "_"), f.type, f.offset)) = fs) (h : (eqF d xs ys fs).run P w = .ok r w) : (Op.equalIn (d + 1) t (.agg xs) (.agg ys)).run P w = .ok r w := by
 rw[run_equalIn_struct w d t xs ys ht hp,eqFields_eqF,hf];exact h
theorem gQ{d:Nat}{t:TypeId}{k c:IntKind}{a b:Int}{w:World}(h:P.underlying t=some (.int c)):(Op.equalIn (d+1) t (.int k a) (.int k b)).run P w= .ok (a==b) w:=run_equalIn_int w d t k c a b h
theorem be_eqls{t:TypeId}{x y:Operand}{xs a:Array Value}{r:Bool}(b:P.eqGuardType P.depth t=false)(h:∀w,(Op.equalIn (9999+1) t (.agg xs) (.agg a)).run P w= .ok r w):be P .eql t x y (.agg xs) (.agg a)=some (.bool r):=
 be_eq1 (λw=>run_eqGuard_agg w _ _ _ _ _ _ b) (λw=>by simp only[binOp]) h
theorem be_neqs{t:TypeId}{x y:Operand}{xs a:Array Value}{r:Bool}(b:P.eqGuardType P.depth t=false)(h:∀w,(Op.equalIn (9999+1) t (.agg xs) (.agg a)).run P w= .ok r w):be P .neq t x y (.agg xs) (.agg a)=some (.bool (!r)):=
 be_ne1 (λw=>run_eqGuard_agg w _ _ _ _ _ _ b) (λw=>by simp only[binOp]) h
end
theorem bN{α:Type}{enc:α->List Value}{z:Nat}(h:∀x,(enc x).length=z):∀xs:List α,(xs.flatMap enc).length=xs.length*z
 | []=>by simp
 |x::xs=>by simp[bN h xs,h,Nat.add_mul,Nat.add_comm]
theorem lg{α:Type}{enc:α->List Value}{z:Nat}(h:∀x,(enc x).length=z):∀(xs:List α) (i:Nat) (a:i<xs.length),((xs.flatMap enc).drop (i*z)).take z=enc xs[i]
 |x::xs,0,_=>by
  simp only[dx,Nat.zero_mul,List.drop_zero,List.getElem_cons_zero];rw[List.take_append_of_le_length (by rw[h];exact cy _),List.take_of_length_le (by rw[h];exact cy _)]
 |x::xs,i+1,a=>by
  have:=lg h xs i (by simpa using a);rw[dx,Nat.add_mul,Nat.one_mul,List.getElem_cons_succ,<-this];congr 1;rw[Nat.add_comm,<-h x,List.drop_append];simp[h]
theorem flat_get{α:Type}{enc:α->List Value}{z:Nat}(h:∀x,(enc x).length=z)(xs:List α)(i:Nat)(a:i<xs.length)(k:Nat)(b:k<z):(xs.flatMap enc)[i*z+k]? =(enc xs[i])[k]? :=by
 rw[<- lg h xs i a,List.getElem?_take,bX b,List.getElem?_drop]
theorem flat_snoc{α:Type}(enc:α->List Value)(xs:List α)(x:α):(xs++ [x]).flatMap enc=xs.flatMap enc++enc x:=by simp
theorem zS:(∀ (α:Type) (v:α) (K:α->Prop),nP (some v) K=K v)/\
  (∀ v:Option Value,gd (.bool true) true v=v)/\
  (∀ v:Option Value,gd (.bool false) false v=v)/\
  (∀ v:Option Value,gd (.bool true) false v=some undef)/\
  (∀ v:Option Value,gd (.bool false) true v=some undef)/\
  (∀ v:Option Value,gd undef true v=some undef)/\
  (∀ v:Option Value,gd undef false v=some undef)/\
  (∀ v:Value,gv (.bool true) true v=v)/\
  (∀ v:Value,gv (.bool false) false v=v)/\
  (∀ v:Value,gv (.bool true) false v=undef)/\
  (∀ v:Value,gv (.bool false) true v=undef)/\
  (∀ v:Value,gv undef true v=undef)/\
  (∀ v:Value,gv undef false v=undef)/\
  (∀ (C:(Value->World->Prop)->Prop) (K:Value->World->Prop) (w:World),gE (.bool true) true C K w=C K)/\
  (∀ (C:(Value->World->Prop)->Prop) (K:Value->World->Prop) (w:World),gE (.bool false) false C K w=C K)/\
  (∀ (C:(Value->World->Prop)->Prop) (K:Value->World->Prop) (w:World),gE (.bool true) false C K w=K undef w)/\
  (∀ (C:(Value->World->Prop)->Prop) (K:Value->World->Prop) (w:World),gE (.bool false) true C K w=K undef w)/\
  (∀ (C:(Value->World->Prop)->Prop) (K:Value->World->Prop) (w:World),gE undef true C K w=K undef w)/\
  (∀ (C:(Value->World->Prop)->Prop) (K:Value->World->Prop) (w:World),gE undef false C K w=K undef w)/\
  (∀ (C:(World->Prop)->Prop) (K:World->Prop) (w:World),gU (.bool true) true C K w=C K)/\
  (∀ (C:(World->Prop)->Prop) (K:World->Prop) (w:World),gU (.bool false) false C K w=C K)/\
  (∀ (C:(World->Prop)->Prop) (K:World->Prop) (w:World),gU (.bool true) false C K w=K w)/\
  (∀ (C:(World->Prop)->Prop) (K:World->Prop) (w:World),gU (.bool false) true C K w=K w)/\
  (∀ a b:Option Value,rB (.bool true) a b=a)/\
  (∀ a b:Option Value,rB (.bool false) a b=b)/\
  (∀ a b:Prop,cnd (.bool true) a b=a)/\
  (∀ a b:Prop,cnd (.bool false) a b=b)/\
  (∀ h:Decidable True, @decide True h=true)/\
  (∀ h:Decidable False, @decide False h=false)/\
  ((!true)=false)/\
  ((!false)=true)/\
  (∀ (P:Program) (b:Bool),ai P (Op.unary .not (.bool b))=some (.bool (!b)))/\
  (∀ a:Addr,nilv (.pointer (some a))=some (.pointer (some a)))/\
  (∀ (P:Program) (t:TypeId) (k:IntKind) (a b:Int),bp P .lss t (.int k a) (.int k b)=some (.bool (decide (a<b))))/\
  (∀ (P:Program) (t:TypeId) (k:IntKind) (a b:Int),bp P .leq t (.int k a) (.int k b)=some (.bool (decide (a<=b))))/\
  (∀ (P:Program) (t:TypeId) (k:IntKind) (a b:Int),bp P .gtr t (.int k a) (.int k b)=some (.bool (decide (b<a))))/\
  (∀ (P:Program) (t:TypeId) (k:IntKind) (a b:Int),bp P .geq t (.int k a) (.int k b)=some (.bool (decide (b<=a))))/\
  (∀ (P:Program) (t:TypeId) (x y:Operand) (k:IntKind) (a b:Int),be P .eql t x y (.int k a) (.int k b)=some (.bool (a==b)))/\
  (∀ (P:Program) (t:TypeId) (x y:Operand) (k:IntKind) (a b:Int),be P .neq t x y (.int k a) (.int k b)=some (.bool (a !=b)))/\
  (∀ (α:Type) [BEq α] [LawfulBEq α] (a:α),(a !=a)=false)/\
  (∀ (α:Type) [BEq α] [ReflBEq α] (a:α),(a==a)=true)/\
  (∀ (c:Array Value) (e:TypeId) (f:Nat×Nat) (o:Nat),ao (some (.cells c e f)) o=c[o]?)/\
  (∀ (α:Type),(none:Option α).isNone=true)/\
  (∀ (α:Type) (a:α),(some a).isNone=false)/\
  (∀ (w:World) (b:Nat),hp w.drew b=hp w b):=
 ⟨λ_=>ac,oQ,gP,gd_tf,gd_ft,gd_ut,gd_uf,ny,gO,gv_tf,gv_ft,gv_ut,gv_uf,gE_true,gE_false,gE_tf,gE_ft,gE_ut,gE_uf,gU_true,gU_false,gU_tf,gU_ft,bM,bz,aY,aQ,λh=>by simp,λh=>by simp,rfl,rfl,λ_ _=>kG,ae,λ_ _ _ _ _=>aU,λ_ _ _ _ _=>qs,λ_ _ _ _ _=>iH,λ_ _ _ _ _=>pf,λ_ _ _ _ _ _ _=>be_eql,λ_ _ _ _ _ _ _=>be_neq,λ_ _ _ a=>bne_self_eq_false a,λ_ _ _ a=>by simp,aN,λ_=>rfl,λ_ _=>rfl,qu⟩
end Go.Proofs.YtnpflajdbchghaaGreat.Ev
