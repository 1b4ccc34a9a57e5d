/- Parts of the proof of OrderChecks, one behind the other. Conditions: none. -/
import Derived.Below
import Derived.Laws.AppendOwn
import Derived.Laws.OwnMore
import Derived.Laws.StructEq
import Derived.RowKit
import Derived.IntWalk
import Derived.Test.YtnpflajdbchghaaGreatZOrderChecks3
set_option linter.unusedSimpArgs false
set_option linter.unusedVariables false
noncomputable section
namespace Go.Proofs.YtnpflajdbchghaaGreat.Ev
open Go Go.RowKit
@[congr] theorem wpB_congr {α : Type} {o o' : Option α} {K : α -> Prop} (h : o = o') : mV o K = mV o' K := by rw [h]
@[simp] theorem ac {α : Type} (v : α) (K : α -> Prop) : mV (some v) K = K v := (rfl)
@[simp] theorem bE (a b : Prop) : cnd (.bool true) a b = a := (rfl)
@[simp] theorem bf (a b : Prop) : cnd (.bool false) a b = b := (rfl)
@[congr] theorem cnd_congr {c d : Value} {a b : Prop} (h : c = d) : cnd c a b = cnd d a b := by rw [h]
@[simp] theorem yes_bool (b want : Bool) : yes (.bool b) want = (b == want) := (rfl)
@[simp] theorem m5 (v : Value) : gv (.bool true) true v = v := (rfl)
@[simp] theorem gI (v : Value) : gv (.bool false) false v = v := (rfl)
@[simp] theorem gv_tf (v : Value) : gv (.bool true) false v = undef := (rfl)
@[simp] theorem gv_ft (v : Value) : gv (.bool false) true v = undef := (rfl)
@[simp] theorem ox (v : Option Value) : gd (.bool true) true v = v := (rfl)
@[simp] theorem gJ (v : Option Value) : gd (.bool false) false v = v := (rfl)
@[simp] theorem gd_tf (v : Option Value) : gd (.bool true) false v = some undef := (rfl)
@[simp] theorem gd_ft (v : Option Value) : gd (.bool false) true v = some undef := (rfl)
@[simp] theorem gd_ut (v : Option Value) : gd undef true v = some undef := (rfl)
@[simp] theorem gd_uf (v : Option Value) : gd undef false v = some undef := (rfl)
@[simp] theorem gv_ut (v : Value) : gv undef true v = undef := (rfl)
@[simp] theorem gv_uf (v : Value) : gv undef false v = undef := (rfl)
@[simp] theorem gE_true (C : (Value -> World -> Prop) -> Prop) (K : Value -> World -> Prop) (w : World) : gE (.bool true) true C K w = C K := (rfl)
@[simp] theorem gE_false (C : (Value -> World -> Prop) -> Prop) (K : Value -> World -> Prop) (w : World) : gE (.bool false) false C K w = C K := (rfl)
@[simp] theorem gE_tf (C : (Value -> World -> Prop) -> Prop) (K : Value -> World -> Prop) (w : World) : gE (.bool true) false C K w = K undef w := (rfl)
@[simp] theorem gE_ft (C : (Value -> World -> Prop) -> Prop) (K : Value -> World -> Prop) (w : World) : gE (.bool false) true C K w = K undef w := (rfl)
@[simp] theorem gE_ut (C : (Value -> World -> Prop) -> Prop) (K : Value -> World -> Prop) (w : World) : gE undef true C K w = K undef w := (rfl)
@[simp] theorem gE_uf (C : (Value -> World -> Prop) -> Prop) (K : Value -> World -> Prop) (w : World) : gE undef false C K w = K undef w := (rfl)
@[simp] theorem gU_true (C : (World -> Prop) -> Prop) (K : World -> Prop) (w : World) : gU (.bool true) true C K w = C K := (rfl)
@[simp] theorem gU_false (C : (World -> Prop) -> Prop) (K : World -> Prop) (w : World) : gU (.bool false) false C K w = C K := (rfl)
@[simp] theorem gU_tf (C : (World -> Prop) -> Prop) (K : World -> Prop) (w : World) : gU (.bool true) false C K w = K w := (rfl)
@[simp] theorem gU_ft (C : (World -> Prop) -> Prop) (K : World -> Prop) (w : World) : gU (.bool false) true C K w = K w := (rfl)
@[congr] theorem gE_congr {c a : Value} {want : Bool} {C : (Value -> World -> Prop) -> Prop} {K : Value -> World -> Prop} {w : World} (h : c = a) : gE c want C K w = gE a want C K w := by rw [h]
@[congr] theorem gU_congr {c a : Value} {want : Bool} {C : (World -> Prop) -> Prop} {K : World -> Prop} {w : World} (h : c = a) : gU c want C K w = gU a want C K w := by rw [h]
@[simp] theorem bH (a b : Option Value) : qV (.bool true) a b = a := (rfl)
@[simp] theorem bv (a b : Option Value) : qV (.bool false) a b = b := (rfl)
@[simp] theorem ae (a : Addr) : nilv (.pointer (some a)) = some (.pointer (some a)) := (rfl)
section
variable{P:Program}{t:TypeId}{k:IntKind}{a b:Int}
theorem qH{op:BinOp}{x y v:Value}(h:∀w,(binOp op t x y).run P w= .ok v w):bp P op t x y=some v:=aU h
@[simp] theorem aj : bp P .add t (.int k a) (.int k b) = some (.int k (k.wrap (a + b))) := qH λw => by simp [binOp, Op.intArith]
@[simp] theorem aH : bp P .sub t (.int k a) (.int k b) = some (.int k (k.wrap (a - b))) := qH λw => by simp [binOp, Op.intArith]
@[simp] theorem jB : bp P .mul t (.int k a) (.int k b) = some (.int k (k.wrap (a * b))) := qH λw => by simp [binOp, Op.intArith]
theorem kN(h:b≠0):bp P .quo t (.int k a) (.int k b)=some (.int k (k.wrap (a.tdiv b))):=qH λw=>by simp[binOp,Op.intDiv,h]
theorem km(h:b≠0):bp P .rem t (.int k a) (.int k b)=some (.int k (a.tmod b)):=qH λw=>by simp[binOp,Op.intDiv,h]
@[simp] theorem aG : bp P .lss t (.int k a) (.int k b) = some (.bool (decide (a < b))) := qH λw => by simp [binOp, Op.intCmp]
@[simp] theorem qj : bp P .leq t (.int k a) (.int k b) = some (.bool (decide (a <= b))) := qH λw => by simp [binOp, Op.intCmp]
@[simp] theorem fS : bp P .gtr t (.int k a) (.int k b) = some (.bool (decide (b < a))) := qH λw => by simp [binOp, Op.intCmp]
@[simp] theorem mM : bp P .geq t (.int k a) (.int k b) = some (.bool (decide (b <= a))) := qH λw => by simp [binOp, Op.intCmp]
theorem bp_shl{j:IntKind}(h:0<=b):bp P .shl t (.int k a) (.int j b)=some (.int k (k.wrap (a*2 ^ (min b.toNat k.bits)))):=qH λw=>by
 simp[binOp,Op.shift,show¬b<0 by omega]
theorem bp_shr{j:IntKind}(h:0<=b):bp P .shr t (.int k a) (.int j b)=some (.int k (a.fdiv (2 ^ (min b.toNat k.bits)))):=qH λw=>by
 simp[binOp,Op.shift,show¬b<0 by omega]
theorem be_of{op:BinOp}{x y:Operand}{u v r:Value}(h:∀w,(do eqGuard op t x y u v;binOp op t u v).run P w= .ok r w):be P op t x y u v=some r:=aU h
@[simp] theorem be_eql {x y : Operand} : be P .eql t x y (.int k a) (.int k b) = some (.bool (a == b)) := be_of λw => by simp [eqGuard, binOp, Op.intCmp]
@[simp] theorem be_neq {x y : Operand} : be P .neq t x y (.int k a) (.int k b) = some (.bool (a != b)) := be_of λw => by simp [eqGuard, binOp, Op.intCmp]
theorem be_eq1{x y:Operand}{u v:Value}{r:Bool}(a:∀w,(eqGuard .eql t x y u v).run P w= .ok () w)(hb:∀w,(binOp .eql t u v).run P w=(do Pure.pure (Value.bool (<- Op.equal t u v)):Sem Value).run P w)
  (h:∀w,(Op.equalIn (9999+1) t u v).run P w= .ok r w):be P .eql t x y u v=some (.bool r):=be_of λw=>by
 rw[Sem.run_bind,a,Result.andThen_ok,hb,Sem.run_bind];have:(Op.equal t u v).run P w= .ok r w:=h w;rw[this];rfl
theorem be_ne1{x y:Operand}{u v:Value}{r:Bool}(a:∀w,(eqGuard .neq t x y u v).run P w= .ok () w)(hb:∀w,(binOp .neq t u v).run P w=(do Pure.pure (Value.bool (!(<- Op.equal t u v))):Sem Value).run P w)
  (h:∀w,(Op.equalIn (9999+1) t u v).run P w= .ok r w):be P .neq t x y u v=some (.bool (!r)):=be_of λw=>by
 rw[Sem.run_bind,a,Result.andThen_ok,hb,Sem.run_bind];have:(Op.equal t u v).run P w= .ok r w:=h w;rw[this];rfl
theorem eqIn_bool{d:Nat}{p q:Bool}{w:World}(h:P.underlying t=some .bool):(Op.equalIn (d+1) t (.bool p) (.bool q)).run P w= .ok (p==q) w:=run_equalIn_bool w d t p q h
theorem eqIn_ptr{d:Nat}{e:TypeId}{p:Option Addr}{w:World}(h:P.underlying t=some (.pointer e)):(Op.equalIn (d+1) t (.pointer p) (.pointer none)).run P w= .ok p.isNone w:=by
 cases p<;>simp[Op.equalIn,run_underlying h]
theorem be_eqlb{x y:Operand}{p q:Bool}(h:P.underlying t=some .bool):be P .eql t x y (.bool p) (.bool q)=some (.bool (p==q)):=
 be_eq1 (λw=>by simp[eqGuard]) (λw=>by simp only[binOp]) λw=>eqIn_bool h
theorem be_neqb{x y:Operand}{p q:Bool}(h:P.underlying t=some .bool):be P .neq t x y (.bool p) (.bool q)=some (.bool (p !=q)):=
 be_ne1 (λw=>by simp[eqGuard]) (λw=>by simp only[binOp]) λw=>eqIn_bool h
theorem sx{x y:Operand}{e:TypeId}{p:Option Addr}(h:P.underlying t=some (.pointer e)):be P .eql t x y (.pointer p) (.pointer none)=some (.bool p.isNone):=
 be_eq1 (λw=>by simp[eqGuard]) (λw=>by simp only[binOp]) λw=>eqIn_ptr h
@[simp] theorem kn {b : Bool} : ai P (Op.unary .not (.bool b)) = some (.bool (!b)) := aU λw => by simp [Op.unary]
@[simp] theorem pr_neg : ai P (Op.unary .neg (.int k a)) = some (.int k (k.wrap (0 - a))) := aU λw => by simp [Op.unary, Op.intArith]
@[simp] theorem pr_max {c : Array TypeId} : ai P (Builtin.max_ c t #[.int k a, .int k b]) = some (.int k (if b > a then b else a)) := aU λw => by simp [Builtin.max_, Builtin.max2]
@[simp] theorem pr_min {c : Array TypeId} : ai P (Builtin.min_ c t #[.int k a, .int k b]) = some (.int k (if b < a then b else a)) := aU λw => by simp [Builtin.min_, Builtin.min2]
theorem kO{s e a:TypeId}{A:Option Addr}{n c:Nat}(h:P.underlying s=some (.slice e)):ai P (Builtin.len_ #[s] a #[.slice A n c])=some (bN n):=aU λw=>by
 simp[Builtin.len_,run_underlying h,goInt]
theorem pr_conv{s:TypeId}{j:IntKind}{d:TypeDesc}(h:P.underlying s=some d)(b:P.underlying t=some (.int j)):ai P (convert s t (.int k a))=some (.int j (j.wrap a)):=aU λw=>by
 simp[convert,run_underlying h,run_underlying b,Conv.intToInt]
theorem pr_index{s e:TypeId}{z:Nat}{A:Addr}{n c:Nat}(h:P.underlying s=some (.slice e))(d:(P.info? e).map (·.size)=some z)(f:0<=a)(g:a<n):
  ai P (Instr.indexAt s (.slice (some A) n c) (.int k a))=some (.pointer (some (A.add (a.toNat*z)))):=aU λw=>by
 obtain⟨i,b,rfl⟩:=dc.1 d;have j:(typeInfo e).run P w= .ok i w:=by simp[typeInfo,b]
 simp[Instr.indexAt,asIntOf,run_underlying h,f,g,sizeOf,j]
theorem ap{n:Int}(a: -9223372036854775808<=n)(b:n<=9223372036854775807):IntKind.i64.wrap n=n:=IntWalk.i64_in n ⟨a,b⟩
theorem nr{n:Int}(a:0<=n)(b:n<=18446744073709551615):IntKind.u64.wrap n=n:=IntWalk.u64_in n ⟨a,b⟩
theorem ldv_scalar{d:TypeDesc}{A:Addr}{w:World}(h:P.underlying t=some d)(a:iX d=false):gi P t (.pointer (some A)) w=w.cell? A:=by
 simp[gi,h,a]
end
theorem aa.step{P:Program}{f:FuncId}{args:List Value}{w:World}{a:Value}(h:aa P f args w λv b=>v=a/\b=w){K:Value->World->Prop}(c:K a w):aa P f args w K:=
 h.mono λv b ⟨d,e⟩=>by subst d;subst e;exact c
def InInts(k:IntKind)(w:World)(a:Option Addr)(len cap:Nat)(zs:List Int):Prop:=
 (a=none/\len=0/\cap=0/\zs= [])\/
 ∃x,a=some x/\len<=cap/\cap<=maxLen/\zs.length=cap/\(∀ i,i<zs.length->w.cell? (x.add i)=some (.int k (zs.getD i 0)))/\∀n∈zs,(Lit.int k n).wf=true
def ints(xs:List Int):List Value:=xs.map (Value.int .i64)
@[simp] theorem ints_length (xs : List Int) : (ints xs).length = xs.length := by simp [ints]
def sZ(k:IntKind)(w:World)(A:Option Addr)(xs:List Int):Prop:=∀i,i<xs.length->∃p,A=some p/\w.cell? (p.add i)=some (.int k (xs.getD i 0))
theorem qk{w:World}{p:Addr}{v:Value}(h:w.cell? p=some v):p.block<w.heap.size:=by
 unfold World.cell? at h;rcases dh p.block w.heap.size with h1|h1
 ·exact h1
 ·simp[Array.getElem?_eq_none h1]at h
theorem Below.cellKeep{w a:World}(h:Below w.heap.size w a){p:Addr}{v:Value}(b:w.cell? p=some v):a.cell? p=some v:=by
 rw[Below.cell h (qk b)];exact b
theorem sZ.ao{k:IntKind}{w a:World}{A:Option Addr}{xs:List Int}(h:sZ k w A xs)(hb:Below w.heap.size w a):sZ k a A xs:=λi b=>by
 obtain⟨p,hp,c⟩:=h i b;exact⟨p,hp,Below.cellKeep hb c⟩
theorem sZ.drew{k:IntKind}{w:World}{A:Option Addr}{xs:List Int}(h:sZ k w A xs):sZ k w.drew A xs:=h
theorem InInts.rd{k:IntKind}{w:World}{A:Option Addr}{n c:Nat}{zs:List Int}(h:InInts k w A n c zs):sZ k w A (zs.take n)/\(zs.take n).length=n/\n<=c/\c<=maxLen/\∀x∈zs.take n,(Lit.int k x).wf=true:=by
 rcases h with⟨rfl,rfl,rfl,rfl⟩|⟨x,rfl,e,f,l,g,j⟩
 ·exact⟨λi b=>by simp at b,rfl,cy _,cQ _,λx d=>by simp at d⟩
 ·refine⟨λi b=>⟨x,rfl,?_⟩,by simp;omega,e,f,λx d=>j x (List.mem_of_mem_take d)⟩;have a:i<n/\i<zs.length:=by rw[dt]at b;omega
  rw[g i a.2];simp[cu,a.1]
theorem sZ.at{P:Program}{s e:TypeId}{k j:IntKind}{w:World}{A:Option Addr}{xs:List Int}{c:Nat}{i:Int}(h:sZ k w A xs)(a:P.underlying s=some (.slice e))(b:P.underlying e=some (.int k))
  (d:(P.info? e).map (·.size)=some 1) (f:0<=i) (g:i<xs.length):
  ∃q,ai P (Instr.indexAt s (.slice A xs.length c) (.int j i))=some (.pointer (some q))/\gi P e (.pointer (some q)) w=some (.int k (xs.getD i.toNat 0)):=by
 obtain⟨p,rfl,l⟩:=h i.toNat dB;refine⟨p.add (i.toNat*1),pr_index a d f g,?_⟩;rw[ldv_scalar b rfl,dr,l]
theorem rd_of_own{w:World}{base:Nat}{e:TypeId}{v:Value}{n:Nat}{xs:List Int}(h:w.ownsRow base e 1 v n (ints xs)):n=xs.length/\∃A c,v= .slice A xs.length c/\sZ .i64 w A xs/\c<=maxLen:=by
 have f:n=xs.length:=by have:=h.1;simp at this;omega
 subst f;refine⟨rfl,?_⟩;rcases h.2 with⟨rfl,j⟩|⟨g,cap,k,rfl,l,p,m,a,o,b⟩
 ·exact⟨none,0,by rw[j],λi d=>dB,by simp[maxLen]⟩
 ·refine⟨some ⟨g,0,none⟩,cap,rfl,λi d=>⟨_,rfl,?_⟩,a⟩;refine h.cells (g:=g) rfl i _ ?_;simp[ints,cu,d]
def SlI(w:World)(v:Value)(xs:List Int):Prop:=∃A c,v= .slice A xs.length c/\sZ .i64 w A xs
theorem SlI.ao{w a:World}{v:Value}{xs:List Int}(h:SlI w v xs)(hb:Below w.heap.size w a):SlI a v xs:=by
 obtain⟨A,c,b,d⟩:=h;exact⟨A,c,b,d.ao hb⟩
theorem ownsRow_mono{w:World}{base a:Nat}{e:TypeId}{size:Nat}{v:Value}{n:Nat}{xs:List Value}(h:w.ownsRow base e size v n xs)(hb:a<=base):w.ownsRow a e size v n xs:=
 ⟨h.1,h.2.imp id fun⟨g,cap,b,c,d,f⟩=>⟨g,cap,b,c,cU hb d,f⟩⟩
theorem kP{w:World}{base:Nat}{e:TypeId}{size:Nat}{v:Value}{n:Nat}{xs:List Value}(h:w.ownsRow base e size v n xs):w.drew.ownsRow base e size v n xs:=h
section
variable{P:Program}{w:World}{K:Value->World->Prop}
theorem ja{t q e:TypeId}{z:Value}{x:Value}{i:TypeInfo}{base n size:Nat}{xs news:List Value}{A:Option Addr}{m c:Nat}(r:P.underlying t=some (.slice e))(s:P.info? e=some i)(F:i.zero=some z)(G:i.size=size)(v:z.cells.size=size)(C:0<size)
  (b:w.ownsRow base e size x n xs) (D:news.length=m*size) (d:∀j u,news[j]? =some u->∃p,A=some p/\w.cell? (p.add j)=some u) (H:∀u∈news,u.oneCell'=true)
  (I:n+m<=maxLen) (f:(n+m)*i.bytes<=140737488355328) (k:base<=w.heap.size)
  (E:∀x' l,l.ownsRow base e size x' (n+m) (xs++news)->w.grownBy l x.ownBlock->K x' l):cP P (Builtin.append_ #[t,t] q #[x,.slice A m c]) w K:=by
 cases A with
 |some a=>
  obtain⟨x',l,y,J,L,_⟩:=run_append_own (P:=P) w base t q e i z size i.bytes r s F G rfl v C x n xs b a m c news D
   (λj u M=>by obtain⟨p,hp,O⟩:=d j u M;cases hp;exact O) H I f k
  exact effv_of y (E x' l J L)
 |none=>
  have o:news= []:=by
   cases news with
   |nil=>rfl
   |cons u us=>obtain⟨p,hp,_⟩:=d 0 u rfl;cases hp
  subst o;have Q:m=0:=by
   rcases Nat.eq_zero_or_pos m with h|h
   ·exact h
   ·have:=Nat.mul_pos h C;simp only[cY]at D;omega
  subst Q;have y:(Builtin.append_ #[t,t] q #[x,.slice none 0 c]).run P w= .ok x w:=by
   rcases b.2 with⟨rfl,_⟩|⟨g,cap,R,rfl,_,_,B,_⟩
   ·simp[Builtin.append_,run_underlying r,sizeOf,typeInfo,s,Builtin.lenOf,Builtin.firstCells]
   ·simp[Builtin.append_,run_underlying r,sizeOf,typeInfo,s,Builtin.lenOf,Builtin.firstCells,B,storeCells]
  refine effv_of y (E x w (by simpa using b) ⟨rfl,rfl,rfl,cy _,λ_ _ _=>rfl⟩)
end
def hp(w:World)(b:Nat):Option Obj:=w.heap[b]?
def put(w:World)(b:Nat)(c:Array Value)(e:TypeId):World:={w with heap:=w.heap.setIfInBounds b (.cells c e)}
@[simp] theorem nt (w : World) (b : Nat) (c : Array Value) (e : TypeId) : (put w b c e).heap.size = w.heap.size := by simp [put]
@[simp] theorem bm (w : World) (b : Nat) (c : Array Value) (e : TypeId) (k : Nat) : hp (put w b c e) k = if k = b then (if b < w.heap.size then some (.cells c e) else none) else hp w k := by
 show(w.heap.setIfInBounds b (.cells c e))[k]? =_;unfold hp;rw[Array.getElem?_setIfInBounds];by_cases h:b=k
 ·subst h;simp
 ·rw[bV h,bV λe=>h e.symm]
theorem ar{w:World}{b:Nat}(h:b<w.heap.size)(c:Array Value)(e:TypeId):hp (put w b c e) b=some (.cells c e):=by rw[bm,bU rfl,bU h]
theorem bj{w:World}{b k:Nat}(h:k≠b)(c:Array Value)(e:TypeId):hp (put w b c e) k=hp w k:=by rw[bm,bV h]
@[simp] theorem ah (w : World) (o : Obj) : (w.alloc o).heap.size = w.heap.size + 1 := by show (w.heap.push o).size = _; simp
@[simp] theorem af (w : World) (o : Obj) (k : Nat) : hp (w.alloc o) k = if k = w.heap.size then some o else hp w k := by
 show(w.heap.push o)[k]? =_;rw[Array.getElem?_push];rfl
@[simp] theorem drew_heap (w : World) : w.drew.heap = w.heap := rfl
@[simp] theorem hp_drew (w : World) (b : Nat) : hp w.drew b = hp w b := (rfl)
theorem m6(w:World)(b:Nat)(c a:Array Value)(e e':TypeId):put (put w b c e) b a e'=put w b a e':=by
 simp[put,Array.setIfInBounds_setIfInBounds]
theorem aD{w:World}{b:Nat}{o:Obj}(h:hp w b=some o):b<w.heap.size:=(Array.getElem?_eq_some_iff.1 h).1
def an:Option Obj->Nat->Option Value
 |some (.cells c _ _),o=>c[o]?
 |_,_=>none
@[simp] theorem aN (c : Array Value) (e : TypeId) (f : Nat × Nat) (o : Nat) : an (some (.cells c e f)) o = c[o]? := (rfl)
theorem fT(w:World)(b o:Nat):w.cell? ⟨b,o,none⟩=an (hp w b) o:=by
 unfold World.cell? hp an;show(match w.heap[b]? with|some (.cells c _ _)=>if(none:Option Nat).isSome then none else c[o]? |_=>none)=_;split<;>simp_all
theorem eL(b o j:Nat):(⟨b,o,none⟩:Addr).add j=⟨b,o+j,none⟩:=by unfold Addr.add;split<;>simp_all
theorem cellsAt_blk{w:World}{b:Nat}{c:Array Value}{e:TypeId}{f:Nat×Nat}(h:hp w b=some (.cells c e f))(o:Nat):∀(n i:Nat),((c.toList.drop (o+i)).take n).length=n->gZ w ⟨b,o,none⟩ i n=some ((c.toList.drop (o+i)).take n)
 |0,i,_=>by simp[gZ]
 |n+1,i,d=>by
  have a:o+i<c.toList.length:=by simp at d ⊢;omega
  have g:c.toList.drop (o+i)=c.toList[o+i]::c.toList.drop (o+i+1):=List.drop_eq_getElem_cons a;have j:=cellsAt_blk h o n (i+1) (by rw[g]at d;simpa [Nat.add_assoc]using d);have k:w.cell? ((⟨b,o,none⟩:Addr).add i)=some c.toList[o+i]:=by
   rw[eL,fT,h,aN];have:o+i<c.size:=by simpa using a
   simp[this]
  rw[gZ,k,j,g,List.take_succ_cons,Nat.add_assoc]
section
variable{P:Program}{w:World}
theorem ldv_blk{t:TypeId}{b o:Nat}(h:(P.underlying t).map iX=some false):gi P t (.pointer (some ⟨b,o,none⟩)) w=an (hp w b) o:=by
 obtain⟨d,a,h⟩:=dc.1 h;rw[ldv_scalar a h,fT]
theorem ldv_agg{t:TypeId}{b o n:Nat}{c:Array Value}{e:TypeId}{f:Nat×Nat}(h:(P.underlying t).map iX=some true)(a:(P.info? t).map (·.size)=some n)(hb:hp w b=some (.cells c e f))(g:((c.toList.drop o).take n).length=n):
  gi P t (.pointer (some ⟨b,o,none⟩)) w=some (.agg ((c.toList.drop o).take n).toArray):=by
 obtain⟨d,j,h⟩:=dc.1 h;obtain⟨i,k,a⟩:=dc.1 a;simp only[gi,j,Option.bind_some,h,cond_true,k,a,cellsAt_blk hb o n 0 (by simpa using g),Option.map_some,Nat.add_zero]
theorem aR{t:TypeId}{b:Nat}{c:Array Value}{e:TypeId}{f:Nat×Nat}(h:(P.underlying t).map iX=some true)(d:(P.info? t).map (·.size)=some c.size)(hb:hp w b=some (.cells c e f)):
  gi P t (bS b) w=some (.agg c):=by
 have a:(c.toList.drop 0).take c.size=c.toList:=by rw[List.drop_zero];exact dA (by simp)
 rw[ldv_agg h d hb (by rw[a];simp),a]
def ldL(x:Option Obj):Nat->Nat->Option (List Value)
 |_,0=>some []
 |o,n+1=>match an x o,ldL x (o+1) n with
  |some v,some vs=>some (v::vs)
  |_,_=>none
theorem cellsAt_L(b o:Nat):∀(n i:Nat),gZ w ⟨b,o,none⟩ i n=ldL (hp w b) (o+i) n
 |0,i=>rfl
 |n+1,i=>by
  simp only[gZ,ldL,eL,fT,cellsAt_L b o n (i+1),Nat.add_assoc];cases an (hp w b) (o+i)<;>cases ldL (hp w b) (o+(i+1)) n<;>rfl
theorem ldv_L{t:TypeId}{b o n:Nat}(h:(P.underlying t).map iX=some true)(a:(P.info? t).map (·.size)=some n):
  gi P t (.pointer (some ⟨b,o,none⟩)) w=(ldL (hp w b) o n).map λl=> .agg l.toArray:=by
 obtain⟨d,c,h⟩:=dc.1 h;obtain⟨i,e,a⟩:=dc.1 a;simp only[gi,c,Option.bind_some,h,cond_true,e,a,cellsAt_L,Nat.add_zero]
@[simp] theorem ldL_some {c : Array Value} {e : TypeId} {f : Nat × Nat} {o n : Nat} (h : o + n <= c.size) : ldL (some (.cells c e f)) o n = some ((c.toList.drop o).take n) := by
 induction n generalizing o with
 |zero=>simp[ldL]
 |succ n b=>
  have a:o<c.toList.length:=by simp;omega
  rw[ldL,b dB,aN,Array.getElem?_eq_getElem dB,List.drop_eq_getElem_cons a,List.take_succ_cons];rfl
def pY:Option Obj->Nat->Bool
 |some (.cells c _ (0,0)),o=>decide (o<=c.size)
 |_,_=>false
def dL:Option Obj->Array Value
 |some (.cells c _ _)=>c
 |_=> #[]
def dM:Option Obj->TypeId
 |some (.cells _ e _)=>e
 |_=>0
@[simp] theorem bq (c : Array Value) (e : TypeId) (o : Nat) : pY (some (.cells c e)) o = decide (o <= c.size) := (rfl)
@[simp] theorem aB (c : Array Value) (e : TypeId) (f : Nat × Nat) : dL (some (.cells c e f)) = c := (rfl)
@[simp] theorem au (c : Array Value) (e : TypeId) (f : Nat × Nat) : dM (some (.cells c e f)) = e := (rfl)
theorem okC_cases{x:Option Obj}{o:Nat}(h:pY x o=true):∃c e,x=some (.cells c e)/\o<=c.size:=by
 unfold pY at h;split at h
 ·exact⟨_,_,rfl,of_decide_eq_true h⟩
 ·cases h
def m7(c:Array Value):Nat->List Value->Array Value
 |_, []=>c
 |o,v::r=>m7 (c.setIfInBounds o v) (o+1) r
theorem setL_size:∀(vs:List Value) (c:Array Value) (o:Nat),(m7 c o vs).size=c.size
 | [],_,_=>rfl
 |v::r,c,o=>by rw[m7,setL_size r];simp
theorem rn:∀(vs:List Value) (c:Array Value) (o:Nat),o+vs.length<=c.size->(m7 c o vs).toList=c.toList.take o++vs++c.toList.drop (o+vs.length)
 | [],c,o,h=>by simp[m7]
 |v::r,c,o,h=>by
  simp only[du]at h;rw[m7,rn r _ _ (by simp;omega),Array.toList_setIfInBounds];have a:o<c.toList.length:=by simp;omega
  have b:(c.toList.set o v).take (o+1)=c.toList.take o++ [v]:=by
   rw[List.set_eq_take_append_cons_drop,bU a,List.take_append,dt,Nat.min_eq_left (Nat.le_of_lt a)];simp[List.take_take]
  have d:(c.toList.set o v).drop (o+1+r.length)=c.toList.drop (o+(r.length+1)):=by
   rw[List.drop_set_of_lt dB];congr 1;omega
  rw[b,d];simp
theorem setL_whole(c:Array Value)(vs:List Value)(h:vs.length=c.size):m7 c 0 vs=vs.toArray:=by
 apply Array.toList_inj.1;rw[rn vs c 0 dB];simp[h]
theorem setCell_put{b o:Nat}{c:Array Value}{e:TypeId}(h:hp w b=some (.cells c e))(v:Value):w.setCell ⟨b,o,none⟩ v=put w b (c.setIfInBounds o v) e:=by
 have f:(w.setCell ⟨b,o,none⟩ v).heap=(put w b (c.setIfInBounds o v) e).heap:=by
  apply Array.ext_getElem?;intro k;by_cases d:k=b
  ·subst d;rw[heap_setCell_same w k o c e v h];exact(ar (aD h) _ _).symm
  ·rw[heap_setCell_other w _ k v d];exact(bj d _ _).symm
 have g:∀a b:World,a.heap=b.heap->a.tape=b.tape->a.drawn=b.drawn->a.os=b.os->a.output=b.output->a=b:=by
  intro a b i j l m n;cases a;cases b;simp_all
 exact g _ _ f rfl rfl rfl rfl
theorem run_storeL{b:Nat}{e:TypeId}:∀(vs:List Value) (o:Nat) (c:Array Value) (w:World),hp w b=some (.cells c e)->o+vs.length<=c.size->(∀ v∈vs,v.oneCell'=true)->∀(a:Addr) (i:Nat),a.add i=⟨b,o,none⟩->
  (∀ j,a.add (i+j)=⟨b,o+j,none⟩)->(storeCells a vs i).run P w= .ok () (if vs= []then w else put w b (m7 c o vs) e)
 | [],_,_,_,_,_,_,_,_,_,_=>rfl
 |v::r,o,c,w,h,k,f,a,i,l,g=>by
  simp only[du]at k;have d:=run_store P w ⟨b,o,none⟩ v .plain (f v (by simp));rw[fT,h,aN,Array.getElem?_eq_getElem dB,frozen_of_row w b o c e h]at d;simp only[Bool.false_eq_true,if_false]at d;have m:=run_storeL r (o+1) (c.setIfInBounds o v) (put w b (c.setIfInBounds o v) e) (ar (aD h) _ _) (by simp;omega) (λu n=>f u (List.mem_cons_of_mem _ n)) a (i+1) (g 1) (λj=>by rw[Nat.add_assoc,g,Nat.add_assoc]);simp only[storeCells,Sem.run_bind,l,d,Result.andThen_ok,setCell_put h,m];cases r with
  |nil=>simp[m7]
  |cons u r=>simp[m7,m6]
theorem kq{t:TypeId}{b o:Nat}{v:Value}{K:World->Prop}{n:Nat}(d:(P.info? t).map (·.size)=some n)(f:v.cells.size=n)(l:v.cells.toList.all (·.oneCell')=true)(q:0<n)(h:pY (hp w b) (o+n)=true):
  ck P (Instr.storeAt t (.pointer (some ⟨b,o,none⟩)) v) w K=K (put w b (m7 (dL (hp w b)) o v.cells.toList) (dM (hp w b))):=by
 obtain⟨i,m,d⟩:=dc.1 d;obtain⟨c,e,hb,r⟩:=okC_cases h;have k:=run_storeL (P:=P) v.cells.toList o c w hb (by rw[Array.length_toList,f];omega) (λu p=>List.all_eq_true.1 l u p) ⟨b,o,none⟩ 0 rfl (λj=>by rw[cM,eL]);have g:¬v.cells.toList= []:=λh=>by
  have:=congrArg List.length h;rw[Array.length_toList,f]at this;simp only[cY]at this;omega
 rw[bV g]at k;have a:(Instr.storeAt t (.pointer (some ⟨b,o,none⟩)) v).run P w= .ok () (put w b (m7 c o v.cells.toList) e):=by
  simp[Instr.storeAt,Instr.sureAddr,storeVar,sizeOf,typeInfo,m,d,f,k]
 rw[hb,aB,au];unfold ck;rw[a]
theorem mv{t:TypeId}{b o:Nat}{v:Value}{K:World->Prop}(c:(P.info? t).map (·.size)=some 1)(a:v.cells= #[v])(d:v.oneCell'=true)(h:pY (hp w b) (o+1)=true):
  ck P (Instr.storeAt t (.pointer (some ⟨b,o,none⟩)) v) w K=K (put w b ((dL (hp w b)).setIfInBounds o v) (dM (hp w b))):=by
 rw[kq c (by rw[a];rfl) (by rw[a];simp[d]) Nat.one_pos h,a];rfl
theorem effu_storeW{t:TypeId}{b:Nat}{c:Array Value}{K:World->Prop}{n:Nat}(d:(P.info? t).map (·.size)=some n)(a:c.size=n)(e:c.toList.all (·.oneCell')=true)(f:0<n)(h:pY (hp w b) n=true)(g:(dL (hp w b)).size=n):
  ck P (Instr.storeAt t (bS b) (.agg c)) w K=K (put w b c (dM (hp w b))):=by
 rw[kq (v:= .agg c) d a e f (by simpa using h)];show K (put w b (m7 _ 0 c.toList) _)=_;rw[setL_whole _ _ (by rw[g];simpa using a)]
theorem effv_alloc{t:TypeId}{x z:Value}{K:Value->World->Prop}(a:(P.info? t).bind (·.zero)=some z):
  cP P (Instr.alloc t true x) w K=K (bS w.heap.size) (w.alloc (.cells z.cells t)):=by
 obtain⟨i,b,a⟩:=Option.bind_eq_some_iff.1 a;have:(Instr.alloc t true x).run P w= .ok (bS w.heap.size) (w.alloc (.cells z.cells t)):=by
  simp[Instr.alloc,zeroValue,typeInfo,b,a,newVar,newRow]
 unfold cP;rw[this]
theorem ak{t:TypeId}{v:Value}{K:Value->World->Prop}:
  cP P (Instr.box t v) w K=K (bS w.heap.size) (w.alloc (.cells v.cells t)):=by
 have:(Instr.box t v).run P w= .ok (bS w.heap.size) (w.alloc (.cells v.cells t)):=by
  simp[Instr.box,newVar,newRow]
 unfold cP;rw[this]
def fOff(P:Program)(s:TypeId)(k:Nat):Option (Nat×Nat×Bool):=
 match P.underlying s with
 |some (.struct fs)=>match fs[k]? with
  |some f=>match P.info? f.type,P.underlying f.type with
   |some i,some d=>some (f.offset,i.size,iX d)
   |_,_=>none
  |none=>none
 |_=>none
theorem fOff_cases{s:TypeId}{k:Nat}{x:Nat×Nat×Bool}(h:fOff P s k=some x):∃fs f i d,P.underlying s=some (.struct fs)/\fs[k]? =some f/\P.info? f.type=some i/\P.underlying f.type=some d/\x=(f.offset,i.size,iX d):=by
 unfold fOff at h;repeat' split at h
 all_goals first|(cases h;done)|skip
 exact⟨_,_,_,_,by assumption,by assumption,by assumption,by assumption,(Option.some.inj h).symm⟩
theorem pr_fieldAt{s:TypeId}{k:Nat}{b o off z:Nat}{g:Bool}(h:fOff P s k=some (off,z,g))(a:z≠0):
  ai P (Instr.fieldAt s (.pointer (some ⟨b,o,none⟩)) k)=some (.pointer (some ⟨b,o+off,none⟩)):=aU λw=>by
 obtain⟨fs,f,i,d,c,j,l,m,e⟩:=fOff_cases h;simp only[Prod.mk.injEq]at e;obtain⟨rfl,rfl,rfl⟩:=e;simp[Instr.fieldAt,run_underlying c,j,Instr.sureAddr,fieldPlace,sizeOf,typeInfo,l,a,eL]
theorem isAgg_run{t:TypeId}{d:TypeDesc}(a:P.underlying t=some d)(w:World):(isAgg t).run P w= .ok (iX d) w:=by
 simp only[isAgg,underlying,Sem.run_bind,run_program,Result.andThen_ok,a,Sem.run_pure];cases d<;>rfl
theorem pr_field1{s:TypeId}{k:Nat}{c:Array Value}{off z:Nat}{v:Value}(h:fOff P s k=some (off,z,false))(a:c[off]? =some v):
  ai P (Instr.field s (.agg c) k)=some v:=aU λw=>by
 obtain⟨fs,f,i,d,b,g,m,j,e⟩:=fOff_cases h;simp only[Prod.mk.injEq]at e;obtain⟨rfl,rfl,l⟩:=e;simp[Instr.field,run_underlying b,g,asAgg,part,isAgg_run j,<-l,a]
@[simp] theorem pr_extract {vs : Array Value} {k : Nat} : ai P (Instr.extract (.tuple vs) k) = match vs[k]? with | some v => some v | none => ai P (Instr.extract (.tuple vs) k) := by
 cases h:vs[k]? with
 |none=>rfl
 |some v=>exact aU λw=>by simp[Instr.extract,h]
end
@[simp] theorem cells_int (k : IntKind) (n : Int) : (Value.int k n).cells = #[.int k n] := (rfl)
@[simp] theorem cells_bool (b : Bool) : (Value.bool b).cells = #[.bool b] := (rfl)
@[simp] theorem cells_slice (a : Option Addr) (n c : Nat) : (Value.slice a n c).cells = #[.slice a n c] := (rfl)
@[simp] theorem cells_ptr (a : Option Addr) : (Value.pointer a).cells = #[.pointer a] := (rfl)
@[simp] theorem aq (c : Array Value) : (Value.agg c).cells = c := (rfl)
@[simp] theorem cells_string (s : ByteArray) : (Value.string s).cells = #[.string s] := (rfl)
@[simp] theorem one_string (s : ByteArray) : (Value.string s).oneCell' = true := (rfl)
@[simp] theorem one_int (k : IntKind) (n : Int) : (Value.int k n).oneCell' = true := (rfl)
@[simp] theorem one_bool (b : Bool) : (Value.bool b).oneCell' = true := (rfl)
@[simp] theorem one_slice (a : Option Addr) (n c : Nat) : (Value.slice a n c).oneCell' = true := (rfl)
@[simp] theorem one_ptr (a : Option Addr) : (Value.pointer a).oneCell' = true := (rfl)
@[simp] theorem szlt2 (n : Nat) : (n < n + 1 + 1) = True := eq_true dB
@[simp] theorem szne2 (n : Nat) : (n = n + 1 + 1) = False := eq_false dB
@[simp] theorem szen2 (n : Nat) : (n + 1 + 1 = n) = False := eq_false dB
@[simp] theorem szlt3 (n : Nat) : (n < n + 1 + 1 + 1) = True := eq_true dB
@[simp] theorem szne3 (n : Nat) : (n = n + 1 + 1 + 1) = False := eq_false dB
@[simp] theorem szen3 (n : Nat) : (n + 1 + 1 + 1 = n) = False := eq_false dB
@[simp] theorem szlt4 (n : Nat) : (n < n + 1 + 1 + 1 + 1) = True := eq_true dB
@[simp] theorem szne4 (n : Nat) : (n = n + 1 + 1 + 1 + 1) = False := eq_false dB
@[simp] theorem szen4 (n : Nat) : (n + 1 + 1 + 1 + 1 = n) = False := eq_false dB
@[simp] theorem szlt5 (n : Nat) : (n < n + 1 + 1 + 1 + 1 + 1) = True := eq_true dB
@[simp] theorem szne5 (n : Nat) : (n = n + 1 + 1 + 1 + 1 + 1) = False := eq_false dB
@[simp] theorem szen5 (n : Nat) : (n + 1 + 1 + 1 + 1 + 1 = n) = False := eq_false dB
@[simp] theorem szlt6 (n : Nat) : (n < n + 1 + 1 + 1 + 1 + 1 + 1) = True := eq_true dB
@[simp] theorem szne6 (n : Nat) : (n = n + 1 + 1 + 1 + 1 + 1 + 1) = False := eq_false dB
@[simp] theorem szen6 (n : Nat) : (n + 1 + 1 + 1 + 1 + 1 + 1 = n) = False := eq_false dB
structure ad(S:List Nat)(w w':World):Prop where
 os:w'.os=w.os
 tape:w'.tape=w.tape
 output:w'.output=w.output
 size:w.heap.size<=w'.heap.size
 block:∀k,k<w.heap.size->k∉S->hp w' k=hp w k
theorem ad.refl(S:List Nat)(w:World):ad S w w:=⟨rfl,rfl,rfl,cy _,λ_ _ _=>rfl⟩
theorem ad.trans{S:List Nat}{a b c:World}(h:ad S a b)(k:ad S b c):ad S a c:=
 ⟨k.os.trans h.os,k.tape.trans h.tape,k.output.trans h.output,cU h.size k.size,λi d e=>(k.block i (de d h.size) e).trans (h.block i d e)⟩
theorem ad.mono{S T:List Nat}{a b:World}(h:ad S a b)(d:∀k,k∈S->k<a.heap.size->k∈T):ad T a b:=⟨h.os,h.tape,h.output,h.size,λk c e=>h.block k c λf=>e (d k f c)⟩
theorem ad.below{w a:World}(h:ad [] w a):Below w.heap.size w a:=⟨h.os,h.tape,h.output,h.size,λk b=>h.block k b (by simp)⟩
theorem ad.drew{S:List Nat}{a w:World}(h:ad S a w):ad S a w.drew:=⟨h.os,h.tape,h.output,h.size,h.block⟩
theorem ad.alloc{S:List Nat}{a w:World}(h:ad S a w)(o:Obj):ad S a (w.alloc o):=
 h.trans ⟨rfl,rfl,rfl,by simp,λk b _=>by rw[af,bV dB]⟩
theorem ad.put{S:List Nat}{a w:World}(h:ad S a w){b:Nat}(hb:b∈S\/a.heap.size<=b)(c:Array Value)(e:TypeId):ad S a (put w b c e):=
 ⟨h.os,h.tape,h.output,by simpa using h.size,λk f d=>by
  rw[bj (λhkb=>by subst hkb;rcases hb with hb|hb;exact d hb;omega)];exact h.block k f d⟩
theorem ad.grown{S:List Nat}{a w c:World}{row:Option Nat}(h:ad S a w)(b:w.grownBy c row)(g:∀k,row=some k->k∈S\/a.heap.size<=k):ad S a c:=
 ⟨b.os.trans h.os,b.tape.trans h.tape,b.output.trans h.output,cU h.size b.size,λk d f=>by
  exact(b.block k (de d h.size) (λe=>by rcases g k e.symm with h1|h1;exact f h1;omega)).trans (h.block k d f)⟩
theorem ad.at{S:List Nat}{w a:World}(h:ad S w a){b:Nat}{o:Obj}(hb:hp w b=some o)(c:b∉S):hp a b=some o:=by rw[h.block b (aD hb) c];exact hb
theorem ad.cell{S:List Nat}{w a:World}(h:ad S w a){p:Addr}{v:Value}(b:w.cell? p=some v)(c:p.block∉S):a.cell? p=some v:=by
 have:a.heap[p.block]? =w.heap[p.block]? :=h.block p.block (qk b) c;unfold World.cell? at b⊢;rw[this];exact b
end Go.Proofs.YtnpflajdbchghaaGreat.Ev
