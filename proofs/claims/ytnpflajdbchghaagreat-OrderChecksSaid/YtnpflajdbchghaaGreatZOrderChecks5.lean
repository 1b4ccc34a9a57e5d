/- Parts of the proof of OrderChecks, one behind the other. Conditions: none. -/
import Derived.Great.BuildSlice
import Derived.Laws.StructEq
import Derived.Test.YtnpflajdbchghaaGreatZOrderChecks4
set_option linter.unusedSimpArgs false
set_option linter.unusedVariables false
noncomputable section
namespace Go.Proofs.YtnpflajdbchghaaGreat.Ev
open Go Go.RowKit
theorem add_add(p:Addr)(a b:Nat):(p.add a).add b=p.add (a+b):=by
 unfold Addr.add;by_cases c:a=0<;>by_cases hb:b=0<;>simp[c,hb,Nat.add_assoc]
def fp(w:World)(A:Option Addr)(cs:List Value):Prop:=∀j u,cs[j]? =some u->∃p,A=some p/\w.cell? (p.add j)=some u
theorem fp.ao{w a:World}{A:Option Addr}{cs:List Value}(h:fp w A cs)(hb:Below w.heap.size w a):fp a A cs:=λj u b=>by
 obtain⟨p,hp,c⟩:=h j u b;exact⟨p,hp,Below.cellKeep hb c⟩
theorem fp.aF{w d:World}{S:List Nat}{A:Option Addr}{cs:List Value}(h:fp w A cs)(e:ad S w d)(f:∀p,A=some p->cs≠ []->p.block∉S):fp d A cs:=λj u b=>by
 obtain⟨p,hp,a⟩:=h j u b;have c:(p.add j).block=p.block:=by unfold Addr.add;split<;>rfl
 exact⟨p,hp,e.cell a (by rw[c];exact f p hp (λh=>by rw[h]at b;simp at b))⟩
theorem fp.nil(w:World)(A:Option Addr):fp w A []:=λj u a=>by simp at a
theorem aT{w:World}{base:Nat}{e:TypeId}{z:Nat}{v:Value}{n:Nat}{xs:List Value}(h:w.ownsRow base e z v n xs):∃A c,v= .slice A n c/\fp w A xs/\(∀ p,A=some p->base<=p.block/\p.block<w.heap.size)/\c<=maxLen:=by
 rcases h.2 with⟨rfl,f⟩|⟨g,cap,i,rfl,a,k,l,b,m,d⟩
 ·have:xs= []:=by have:=h.1;rw[f]at this;simpa using this
  subst this;exact⟨none,0,by rw[f],fp.nil _ _,λp (hp:none=some p)=>by simp at hp,cQ _⟩
 ·refine⟨some ⟨g,0,none⟩,cap,rfl,λj u o=>⟨_,rfl,h.cells (g:=g) rfl j u o⟩,λp hp=>?_,b⟩;cases hp;exact⟨a,aD k⟩
theorem bM{w b:World}{S:List Nat}{base:Nat}{e:TypeId}{z:Nat}{v:Value}{n:Nat}{xs:List Value}(h:w.ownsRow base e z v n xs)(d:ad S w b)(f:∀k,v.ownBlock=some k->k∉S):b.ownsRow base e z v n xs:=by
 refine⟨h.1,h.2.imp id fun⟨g,cap,a,c,i,j,l⟩=>⟨g,cap,a,c,i,?_,l⟩⟩;exact d.at j (f g (by rw[c];rfl))
theorem mw{x:Option Obj}:∀(n o:Nat) (cs:List Value),cs.length=n->(∀ j u,cs[j]? =some u->an x (o+j)=some u)->ldL x o n=some cs
 |0,o,cs,a,h=>by simp at a;subst a;rfl
 |n+1,o, [],a,h=>by simp at a
 |n+1,o,u::cs,a,h=>by
  have c:=mw n (o+1) cs (by simpa using a) λj v d=>by
   have:=h (j+1) v (by simpa using d);rw[Nat.add_right_comm];exact this
  have b:an x o=some u:=h 0 u rfl;rw[ldL,b,c]
section
variable{P:Program}{w:World}{K:Value->World->Prop}
theorem fp.elem{A:Option Addr}{cs:List Value}{s e:TypeId}{z n c:Nat}{i:Int}{j:IntKind}(h:fp w A cs)(B:P.underlying s=some (.slice e))(C:(P.info? e).map (·.size)=some z)(D:0<z)(J:n*z<=cs.length)(E:0<=i)(F:i<n):
  ∃b o,ai P (Instr.indexAt s (.slice A n c) (.int j i))=some (.pointer (some ⟨b,o,none⟩))/\(∀ k,k<z->an (hp w b) (o+k)=cs[i.toNat*z+k]?)/\ldL (hp w b) o z=some ((cs.drop (i.toNat*z)).take z)/\(∃ p,A=some p/\b=p.block):=by
 have G:i.toNat*z+z<=cs.length:=by
  have H:i.toNat+1<=n:=dB;have I:=Nat.mul_le_mul_right z H;rw[Nat.add_mul,Nat.one_mul]at I;omega
 obtain⟨u0,g⟩:∃u,cs[i.toNat*z]? =some u:=⟨_,bX dB⟩
 obtain⟨p,hp,a⟩:=h _ _ g;subst hp;have f:(p.add (i.toNat*z)).spot=none:=by
  unfold World.cell? at a;split at a
  ·cases f:(p.add (i.toNat*z)).spot with
   |none=>rfl
   |some x=>rw[f]at a;simp at a
  ·cases a
 have l:(p.add (i.toNat*z)).block=p.block:=by unfold Addr.add;split<;>rfl
 have t:p.add (i.toNat*z)=⟨p.block,(p.add (i.toNat*z)).off,none⟩:=by
  rw[<- l,<-f]
 have m:∀k,k<z->an (hp w p.block) ((p.add (i.toNat*z)).off+k)=cs[i.toNat*z+k]? :=by
  intro k m;obtain⟨u,v⟩:∃u,cs[i.toNat*z+k]? =some u:=⟨_,bX dB⟩
  obtain⟨p',q,y⟩:=h _ _ v;cases q;rw[<- add_add,t,eL,fT]at y;rw[v];exact y
 refine⟨p.block,(p.add (i.toNat*z)).off,?_,m,?_,p,rfl,rfl⟩
 ·rw[<- t];exact pr_index B C E F
 ·refine mw z _ _ (by simp;omega) λk u d=>?_;rw[List.getElem?_take]at d;split at d
  ·rename_i r;rw[m k r,<-List.getElem?_drop];exact d
  ·cases d
theorem fp.elem1{A:Option Addr}{cs:List Value}{s e:TypeId}{n c:Nat}{i:Int}{j:IntKind}(h:fp w A cs)(d:P.underlying s=some (.slice e))(f:(P.info? e).map (·.size)=some 1)(m:n<=cs.length)(g:0<=i)(a:i<n):
  ∃b o,ai P (Instr.indexAt s (.slice A n c) (.int j i))=some (.pointer (some ⟨b,o,none⟩))/\an (hp w b) o=cs[i.toNat]? /\(∃ p,A=some p/\b=p.block):=by
 obtain⟨b,o,a,k,_,l⟩:=h.elem (c:=c) (j:=j) d f dB dB g a;have:=k 0 dB;rw[dr,Nat.add_zero,Nat.add_zero]at this;exact⟨b,o,a,this,l⟩
theorem tA{t e:TypeId}{z n c:Nat}{A:Option Addr}{k:IntKind}{l:Int}(b:P.underlying t=some (.slice e))(a:(P.info? e).map (·.size)=some z)(d:0<=l)(f:l<=n):
  ai P (Instr.sliceAt t (.slice A n c) (some (.int k l)) none none)=some (.slice (if c=l.toNat then A else A.map (·.add (l.toNat*z))) (n-l.toNat) (c-l.toNat)):=aU λw=>by
 obtain⟨i,g,a⟩:=dc.1 a;have hb:(Instr.sliceBound (.int k l) n .sliceB).run P w= .ok l.toNat w:=by simp[Instr.sliceBound,asIntOf,d,f]
 simp[Instr.sliceAt,Instr.slice,run_underlying b,Instr.sliceBounds,hb,sizeOf,typeInfo,g,a]
theorem tB{t e:TypeId}{z n c:Nat}{A:Option Addr}{k:IntKind}{l:Int}(b:P.underlying t=some (.slice e))(a:(P.info? e).map (·.size)=some z)(d:0<=l)(f:l<=c):
  ai P (Instr.sliceAt t (.slice A n c) none (some (.int k l)) none)=some (.slice A l.toNat c):=aU λw=>by
 obtain⟨i,g,a⟩:=dc.1 a;have hb:(Instr.sliceBound (.int k l) c .sliceAcap).run P w= .ok l.toNat w:=by simp[Instr.sliceBound,asIntOf,d,f]
 have j:A.map (λx=>x.add 0)=A:=by cases A<;>rfl
 simp[Instr.sliceAt,Instr.slice,run_underlying b,Instr.sliceBounds,hb,sizeOf,typeInfo,g,j]
theorem fp.drop{A:Option Addr}{cs:List Value}(h:fp w A cs)(c l z:Nat)(e:c=l->cs.length<=l*z):fp w (if c=l then A else A.map (·.add (l*z))) (cs.drop (l*z)):=by
 intro j u d;rw[List.getElem?_drop]at d;obtain⟨p,hp,a⟩:=h _ _ d;subst hp;by_cases b:c=l
 ·have:=e b;have:=(bY.1 d).1;omega
 ·rw[bV b];exact⟨p.add (l*z),rfl,by rw[add_add];exact a⟩
theorem fp.take{A:Option Addr}{cs:List Value}(h:fp w A cs)(n:Nat):fp w A (cs.take n):=by
 intro j u a;rw[List.getElem?_take]at a;split at a
 ·exact h j u a
 ·cases a
def hI(w:World)(x x':Value):Prop:=∀k,x'.ownBlock=some k->x.ownBlock=some k\/w.heap.size<=k
theorem append_new{t q e:TypeId}{i:TypeInfo}{z:Value}{base n:Nat}{v v':Value}{H:World}{xs:List Value}(y:P.underlying t=some (.slice e))(A:P.info? e=some i)(G:i.zero=some z)(I:0<i.size)(l:w.ownsRow base e i.size v n xs)
  {a:Addr} {m c:Nat} {news:List Value} (r:news.length=m*i.size) (b:∀j u,news[j]? =some u->w.cell? (a.add j)=some u) (J:∀u∈news,u.oneCell'=true)
  (D:n+m<=maxLen) (f:(n+m)*i.bytes<=140737488355328) (p:(Builtin.append_ #[t,t] q #[v,.slice (some a) m c]).run P w= .ok v' H):hI w v v':=by
 have B:n+m<=9223372036854775807:=by simp only[maxLen]at D;omega
 intro k C;rcases l.2 with⟨rfl,rfl⟩|⟨g,cap,s,rfl,K,L,M,O,E,F⟩
 ·by_cases Q:m=0
  ·subst Q;have R:news= []:=List.eq_nil_of_length_eq_zero (by simpa using r);subst R;have d:(Builtin.append_ #[t,t] q #[.slice none 0 0,.slice (some a) 0 c]).run P w= .ok (.slice none 0 0) w:=by
    simp[Builtin.append_,run_underlying y,sizeOf,typeInfo,A,Builtin.lenOf,Builtin.firstCells,loadCells,loadCellsFrom]
   rw[d]at p;cases p;exact .inl C
  ·have d:=run_append_nil (P:=P) w t q e i z y A G a m c news r b dB dB (by have hb:=f;simp only[cM]at hb;omega);rw[d]at p;cases p;simp[Value.ownBlock]at C;exact .inr dB
 ·by_cases o:n+m<=cap
  ·have x:n*i.size+news.length<=s.size:=by rw[r,E,<-Nat.add_mul];exact Nat.mul_le_mul_right _ o
   have d:=run_append_room (P:=P) w t q e i y A g n cap s L a m c news r b J o x;rw[d]at p;cases p;exact .inl C
  ·have holds:∀j u,xs[j]? =some u->w.cell? ((⟨g,0,none⟩:Addr).add j)=some u:=l.cells (g:=g) rfl;have d:=run_append_grow (P:=P) w t q e i z y A G ⟨g,0,none⟩ n cap xs l.1 holds a m c news r b dB dB (growslice_fits dB f);rw[d]at p;cases p;simp[Value.ownBlock]at C;exact .inr dB
theorem fP{t E e:TypeId}{f v x:Value}{i:TypeInfo}{base n z:Nat}{xs cs:List Value}(p:P.underlying t=some (.slice e))(q:P.info? e=some i)(r:i.zero=some f)(J:i.size=z)(s:f.cells.size=z)(F:0<z)(L:z<=16777216)
  (d:Instr.fill (λk=>some (k*z,z)) ((Array.range (1*z)).map (f.cells[· %f.cells.size]!)) [(0,v)]=some cs.toArray) (A:cs.length=z) (G:∀u∈cs,u.oneCell'=true)
  (c:w.ownsRow base e z x n xs) (H:n+1<=maxLen) (a:(n+1)*i.bytes<=140737488355328) (B:base<=w.heap.size)
  (g:∀x' l,l.ownsRow base e z x' (n+1) (xs++cs)->w.grownBy l x.ownBlock->hI w x x'->K x' l):
  cP P (Instr.buildSlice t 1 #[(0,v)]) w λy w1=>cP P (Builtin.append_ #[t,t] E #[x,y]) w1 K:=by
 subst J;have hb:=run_buildSlice (P:=P) w t e 1 #[(0,v)] cs.toArray i f p q r dB dB d;refine effv_of hb ?_;have b:∀j u,cs[j]? =some u->(w.alloc (.cells cs.toArray e)).cell? ((⟨w.heap.size,0,none⟩:Addr).add j)=some u:=λj u M=>by rw[eL,fT,af,bU rfl,aN];simpa using M
 have m:cs.length=1*i.size:=by rw[A,Nat.one_mul]
 obtain⟨x',l,I,O,o,_⟩:=run_append_own (P:=P) (w.alloc (.cells cs.toArray e)) base t E e i f i.size i.bytes p q r rfl rfl s F x n xs (c.alloc _) ⟨w.heap.size,0,none⟩ 1 1 cs m
  b G H a (by simp;omega)
 have C:=append_new p q r F (c.alloc _) m b G H a I;refine effv_of I (g x' l O ⟨o.os,o.tape,o.output,?_,λk g D=>?_⟩ λk g=>(C k g).imp id λh=>by simp at h;omega)
 ·have:=o.size;simp at this;omega
 ·rw[o.block k (by simp;omega) D,Below.heap_alloc w _ k g]
theorem eS{t e:TypeId}{len:Nat}{a:Array (Nat×Value)}{b:Array Value}{d:Value}{f:TypeInfo}{z:Nat}(g:P.underlying t=some (.slice e))(i:P.info? e=some f)(j:f.zero=some d)(l:f.size=z)(n:0<len*z)(m:len*z<=16777216)
  (c:Instr.fill (λk=>some (k*z,z)) ((Array.range (len*z)).map (d.cells[· %d.cells.size]!)) a.toList=some b):
  cP P (Instr.buildSlice t len a) w K=K (.slice (some ⟨w.heap.size,0,none⟩) len len) (w.alloc (.cells b e)):=by
 subst l;have hb:=run_buildSlice (P:=P) w t e len a b f d g i j dB dB c;unfold cP;rw[hb]
@[simp] theorem bp_or {t : TypeId} {k : IntKind} {a b : Int} : bp P .or t (.int k a) (.int k b) = some (.int k (k.wrap (BitVec.ofInt k.bits a ||| BitVec.ofInt k.bits b).toNat)) := qH λw => by simp [binOp, Op.intBits]
end
section
variable{P:Program}
def eqF(d:Nat)(xs c:Array Value):List (Bool×TypeId×Nat)->Sem Bool
 | []=>pure true
 |f::fs=>
  if f.1=true then do
   let a<-part f.2.1 xs f.2.2
   let b<-part f.2.1 c f.2.2
   let r<-Op.equalIn d f.2.1 a b
   if(!r)=true then pure false else eqF d xs c fs
  else eqF d xs c fs
theorem eqFields_eqF (d : Nat) (xs ys : Array Value) : ∀ fs : List Field, Op.eqFields d xs ys fs = eqF d xs ys (fs.map fun f => (decide (f.name ≠ "_"), f.type, f.offset))
 | []=>rfl
 |f::fs=>by
  rw[Op.eqFields,List.map_cons,eqF,eqFields_eqF d xs ys fs]
  by_cases h : f.name = "_" <;> simp [h]
theorem fU{d:Nat}{xs c:Array Value}{t:TypeId}{o:Nat}{fs:List (Bool×TypeId×Nat)}{w:World}{a b:Value}{r rs:Bool}(f:(part t xs o).run P w= .ok a w)(hb:(part t c o).run P w= .ok b w)(g:(Op.equalIn d t a b).run P w= .ok r w)
  (e:(eqF d xs c fs).run P w= .ok rs w):(eqF d xs c ((true,t,o)::fs)).run P w= .ok (r&&rs) w:=by
 simp only[eqF,if_true,Sem.run_bind,f,hb,g,Result.andThen_ok];cases r
 ·simp
 ·simp[e]
theorem eqF_nil{d:Nat}{xs a:Array Value}{w:World}:(eqF d xs a []).run P w= .ok true w:=by simp[eqF]
theorem bD{t:TypeId}{xs:Array Value}{o:Nat}{w:World}{v:Value}(h:(P.underlying t).map iX=some false)(a:xs[o]? =some v):(part t xs o).run P w= .ok v w:=by
 obtain⟨d,b,h⟩:=dc.1 h;simp[part,isAgg_run b,h,a]
theorem part_ag{t:TypeId}{xs:Array Value}{o n:Nat}{w:World}(h:(P.underlying t).map iX=some true)(a:(P.info? t).map (·.size)=some n):(part t xs o).run P w= .ok (.agg (xs.extract o (o+n))) w:=by
 obtain⟨d,b,h⟩:=dc.1 h;obtain⟨i,c,a⟩:=dc.1 a;simp[part,isAgg_run b,h,sizeOf,typeInfo,c,a]
theorem my{d:Nat}{t:TypeId}{xs ys:Array Value}{fs:List (Bool×TypeId×Nat)}{w:World}{r:Bool}(ht:P.underlying t=some (.struct (P.fieldsOf t)))(hp:P.stoodInHeld t=false)
  (hf : ((P.fieldsOf t).toList.map fun f => (decide (f.name ≠ "_"), f.type, f.offset)) = fs) (h : (eqF d xs ys fs).run P w = .ok r w) : (Op.equalIn (d + 1) t (.agg xs) (.agg ys)).run P w = .ok r w := by
 rw[run_equalIn_struct w d t xs ys ht hp,eqFields_eqF,hf];exact h
theorem gK{d:Nat}{t:TypeId}{k c:IntKind}{a b:Int}{w:World}(h:P.underlying t=some (.int c)):(Op.equalIn (d+1) t (.int k a) (.int k b)).run P w= .ok (a==b) w:=run_equalIn_int w d t k c a b h
theorem be_eqls{t:TypeId}{x y:Operand}{xs a:Array Value}{r:Bool}(b:P.eqGuardType P.depth t=false)(h:∀w,(Op.equalIn (9999+1) t (.agg xs) (.agg a)).run P w= .ok r w):be P .eql t x y (.agg xs) (.agg a)=some (.bool r):=
 be_eq1 (λw=>run_eqGuard_agg w _ _ _ _ _ _ b) (λw=>by simp only[binOp]) h
theorem be_neqs{t:TypeId}{x y:Operand}{xs a:Array Value}{r:Bool}(b:P.eqGuardType P.depth t=false)(h:∀w,(Op.equalIn (9999+1) t (.agg xs) (.agg a)).run P w= .ok r w):be P .neq t x y (.agg xs) (.agg a)=some (.bool (!r)):=
 be_ne1 (λw=>run_eqGuard_agg w _ _ _ _ _ _ b) (λw=>by simp only[binOp]) h
end
theorem gL{α:Type}{a:α->List Value}{z:Nat}(h:∀x,(a x).length=z):∀xs:List α,(xs.flatMap a).length=xs.length*z
 | []=>by simp
 |x::xs=>by simp[gL h xs,h,Nat.add_mul,Nat.add_comm]
theorem jX{α:Type}{a:α->List Value}{z:Nat}(h:∀x,(a x).length=z):∀(xs:List α) (i:Nat) (b:i<xs.length),((xs.flatMap a).drop (i*z)).take z=a xs[i]
 |x::xs,0,_=>by
  simp only[dj,Nat.zero_mul,List.drop_zero,List.getElem_cons_zero];rw[List.take_append_of_le_length (by rw[h];exact cy _),dA (by rw[h];exact cy _)]
 |x::xs,i+1,b=>by
  have:=jX h xs i (by simpa using b);rw[dj,Nat.add_mul,Nat.one_mul,List.getElem_cons_succ,<-this];congr 1;rw[Nat.add_comm,<-h x,List.drop_append];simp[h]
theorem flat_get{α:Type}{a:α->List Value}{z:Nat}(h:∀x,(a x).length=z)(xs:List α)(i:Nat)(b:i<xs.length)(k:Nat)(c:k<z):(xs.flatMap a)[i*z+k]? =(a xs[i])[k]? :=by
 rw[<- jX h xs i b,List.getElem?_take,bU c,List.getElem?_drop]
theorem flat_snoc{α:Type}(a:α->List Value)(xs:List α)(x:α):(xs++ [x]).flatMap a=xs.flatMap a++a x:=by simp
theorem zS:(∀ (α:Type) (v:α) (K:α->Prop),mV (some v) K=K v)/\
  (∀ v:Option Value,gd (.bool true) true v=v)/\
  (∀ v:Option Value,gd (.bool false) false v=v)/\
  (∀ v:Option Value,gd (.bool true) false v=some undef)/\
  (∀ v:Option Value,gd (.bool false) true v=some undef)/\
  (∀ v:Option Value,gd undef true v=some undef)/\
  (∀ v:Option Value,gd undef false v=some undef)/\
  (∀ v:Value,gv (.bool true) true v=v)/\
  (∀ v:Value,gv (.bool false) false v=v)/\
  (∀ v:Value,gv (.bool true) false v=undef)/\
  (∀ v:Value,gv (.bool false) true v=undef)/\
  (∀ v:Value,gv undef true v=undef)/\
  (∀ v:Value,gv undef false v=undef)/\
  (∀ (C:(Value->World->Prop)->Prop) (K:Value->World->Prop) (w:World),gE (.bool true) true C K w=C K)/\
  (∀ (C:(Value->World->Prop)->Prop) (K:Value->World->Prop) (w:World),gE (.bool false) false C K w=C K)/\
  (∀ (C:(Value->World->Prop)->Prop) (K:Value->World->Prop) (w:World),gE (.bool true) false C K w=K undef w)/\
  (∀ (C:(Value->World->Prop)->Prop) (K:Value->World->Prop) (w:World),gE (.bool false) true C K w=K undef w)/\
  (∀ (C:(Value->World->Prop)->Prop) (K:Value->World->Prop) (w:World),gE undef true C K w=K undef w)/\
  (∀ (C:(Value->World->Prop)->Prop) (K:Value->World->Prop) (w:World),gE undef false C K w=K undef w)/\
  (∀ (C:(World->Prop)->Prop) (K:World->Prop) (w:World),gU (.bool true) true C K w=C K)/\
  (∀ (C:(World->Prop)->Prop) (K:World->Prop) (w:World),gU (.bool false) false C K w=C K)/\
  (∀ (C:(World->Prop)->Prop) (K:World->Prop) (w:World),gU (.bool true) false C K w=K w)/\
  (∀ (C:(World->Prop)->Prop) (K:World->Prop) (w:World),gU (.bool false) true C K w=K w)/\
  (∀ a b:Option Value,qV (.bool true) a b=a)/\
  (∀ a b:Option Value,qV (.bool false) a b=b)/\
  (∀ a b:Prop,cnd (.bool true) a b=a)/\
  (∀ a b:Prop,cnd (.bool false) a b=b)/\
  (∀ h:Decidable True, @decide True h=true)/\
  (∀ h:Decidable False, @decide False h=false)/\
  ((!true)=false)/\
  ((!false)=true)/\
  (∀ (P:Program) (b:Bool),ai P (Op.unary .not (.bool b))=some (.bool (!b)))/\
  (∀ a:Addr,nilv (.pointer (some a))=some (.pointer (some a)))/\
  (∀ (P:Program) (t:TypeId) (k:IntKind) (a b:Int),bp P .lss t (.int k a) (.int k b)=some (.bool (decide (a<b))))/\
  (∀ (P:Program) (t:TypeId) (k:IntKind) (a b:Int),bp P .leq t (.int k a) (.int k b)=some (.bool (decide (a<=b))))/\
  (∀ (P:Program) (t:TypeId) (k:IntKind) (a b:Int),bp P .gtr t (.int k a) (.int k b)=some (.bool (decide (b<a))))/\
  (∀ (P:Program) (t:TypeId) (k:IntKind) (a b:Int),bp P .geq t (.int k a) (.int k b)=some (.bool (decide (b<=a))))/\
  (∀ (P:Program) (t:TypeId) (x y:Operand) (k:IntKind) (a b:Int),be P .eql t x y (.int k a) (.int k b)=some (.bool (a==b)))/\
  (∀ (P:Program) (t:TypeId) (x y:Operand) (k:IntKind) (a b:Int),be P .neq t x y (.int k a) (.int k b)=some (.bool (a !=b)))/\
  (∀ (α:Type) [BEq α] [LawfulBEq α] (a:α),(a !=a)=false)/\
  (∀ (α:Type) [BEq α] [ReflBEq α] (a:α),(a==a)=true)/\
  (∀ (c:Array Value) (e:TypeId) (f:Nat×Nat) (o:Nat),an (some (.cells c e f)) o=c[o]?)/\
  (∀ (α:Type),(none:Option α).isNone=true)/\
  (∀ (α:Type) (a:α),(some a).isNone=false)/\
  (∀ (w:World) (b:Nat),hp w.drew b=hp w b):=
 ⟨λ_=>ac,ox,gJ,gd_tf,gd_ft,gd_ut,gd_uf,m5,gI,gv_tf,gv_ft,gv_ut,gv_uf,gE_true,gE_false,gE_tf,gE_ft,gE_ut,gE_uf,gU_true,gU_false,gU_tf,gU_ft,bH,bv,bE,bf,λh=>by simp,λh=>by simp,rfl,rfl,λ_ _=>kn,ae,λ_ _ _ _ _=>aG,λ_ _ _ _ _=>qj,λ_ _ _ _ _=>fS,λ_ _ _ _ _=>mM,λ_ _ _ _ _ _ _=>be_eql,λ_ _ _ _ _ _ _=>be_neq,λ_ _ _ a=>bne_self_eq_false a,λ_ _ _ a=>by simp,aN,λ_=>rfl,λ_ _=>rfl,hp_drew⟩
end Go.Proofs.YtnpflajdbchghaaGreat.Ev
