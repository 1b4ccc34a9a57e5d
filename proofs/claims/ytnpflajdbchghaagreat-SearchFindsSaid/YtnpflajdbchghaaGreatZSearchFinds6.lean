/- Parts of the proof of SearchFinds, one behind the other. Conditions: none. -/
import Derived.Laws.CopyRow
import Derived.Laws.MakeOwn
import Derived.Test.YtnpflajdbchghaaGreatZSearchFinds5
set_option linter.unusedSimpArgs false
set_option linter.unusedVariables false
noncomputable section
namespace Go.Proofs.YtnpflajdbchghaaGreat.Ev
open Go Go.RowKit
def eY(v:Value):List Nat:=v.ownBlock.toList
@[simp] theorem blk_nil : eY (.slice none 0 0) = [] := (rfl)
@[simp] theorem blk_some (a : Addr) (n c : Nat) : eY (.slice (some a) n c) = [a.block] := (rfl)
@[simp] theorem mem_blk {v : Value} {k : Nat} : k ∈ eY v <-> v.ownBlock = some k := by unfold eY; simp
structure Upd(F F':List Nat)(w w':World):Prop where
 aw:ad F w w'
 sub:∀k∈F',k∈F\/w.heap.size<=k
theorem Upd.refl(F:List Nat)(w:World):Upd F F w w:=⟨ad.refl _ _,λk a=> .inl a⟩
theorem Upd.trans{F G H:List Nat}{a b c:World}(h:Upd F G a b)(k:Upd G H b c):Upd F H a c:=
 ⟨⟨k.aw.os.trans h.aw.os,k.aw.tape.trans h.aw.tape,k.aw.output.trans h.aw.output,cQ h.aw.size k.aw.size,λi d e=>
  (k.aw.block i (cY d h.aw.size) λf=>by rcases h.sub i f with h1|h1;exact e h1;omega).trans (h.aw.block i d e)⟩,
  λi d=>by
  rcases k.sub i d with h1|h1
  ·exact h.sub i h1
  ·exact .inr (cQ h.aw.size h1)⟩
theorem Upd.grow{F G H:List Nat}{a b c:World}(h:Upd F G a b)(k:ad [] b c):Upd F G a c:=h.trans ⟨k.mono (by simp),λi d=> .inl d⟩
theorem Upd.pre{F G:List Nat}{a b c:World}(k:ad [] a b)(h:Upd F G b c):Upd F G a c:=
 ⟨(k.mono (by simp)).trans h.aw,λi d=>(h.sub i d).imp id (cQ k.size)⟩
def Dis(F G:List Nat):Prop:=∀k,k∈F->k∈G->False
theorem Dis.upd{F a G:List Nat}{w c:World}(h:Dis F G)(u:Upd F a w c)(d:∀k∈G,k<w.heap.size):Dis a G:=λk e b=>by
 rcases u.sub k e with h3|h3
 ·exact h k h3 b
 ·have:=d k b;omega
theorem Dis.symm{F G:List Nat}(h:Dis F G):Dis G F:=λk a b=>h k b a
theorem ad.upd{S F d:List Nat}{W w a:World}(h:ad S W w)(u:Upd F d w a)(e:∀k∈F,k∈S\/W.heap.size<=k):ad S W a:=
 ⟨u.aw.os.trans h.os,u.aw.tape.trans h.tape,u.aw.output.trans h.output,cQ h.size u.aw.size,λk b c=>
  (u.aw.block k (cY b h.size) λf=>by rcases e k f with h1|h1;exact c h1;omega).trans (h.block k b c)⟩
theorem Upd.news{F a:List Nat}{W w b:World}(u:Upd F a w b)(e:W.heap.size<=w.heap.size)(c:∀k∈F,W.heap.size<=k):∀k∈a,W.heap.size<=k:=λk d=>by
 rcases u.sub k d with h|h
 ·exact c k h
 ·omega
theorem drop_take{α:Type}(l:List α)(n o:Nat):(l.take n).drop o=(l.drop o).take (n-o):=List.drop_take
theorem setL_take{c:Array Value}{o m:Nat}{vs:List Value}(d:m<=c.size)(e:o+vs.length<=m):(nz c o vs).toList.take m=(c.toList.take m).take o++vs++(c.toList.take m).drop (o+vs.length):=by
 rw[rM vs c o dy,List.append_assoc,List.append_assoc,List.take_append,List.take_append];have a:(c.toList.take o).length=o:=by simp;omega
 have b:(c.toList.take o).take m=(c.toList.take m).take o:=by rw[List.take_take,List.take_take,Nat.min_comm]
 rw[b,a,List.take_of_length_le (show vs.length<=m-o by omega),List.drop_take,Nat.sub_sub]
theorem rN{w:World}{base:Nat}{e:TypeId}{size:Nat}{v:Value}{n:Nat}{xs:List Value}{g o:Nat}{vs:List Value}(h:w.ownsRow base e size v n xs)(hv:v.ownBlock=some g)(p:o+vs.length<=n*size):
  (put w g (nz (dG (hp w g)) o vs) (dH (hp w g))).ownsRow base e size v n (xs.take o++vs++xs.drop (o+vs.length))/\mX (hp w g) (o+vs.length)=true:=by
 rcases h.2 with⟨rfl,r⟩|⟨i,j,a,rfl,k,q,d,l,f,b⟩
 ·cases hv
 ·have:i=g:=by simpa [Value.ownBlock]using hv
  subst this;have m:n*size<=a.size:=by rw[f];exact Nat.mul_le_mul_right _ d
  have c:hp w i=some (.cells a e (0,0)):=q;refine⟨⟨?_,.inr ⟨i,j,nz a o vs,rfl,k,?_,d,l,by rw[setL_size,f],?_⟩⟩,?_⟩
  ·have:=h.1;simp;omega
  ·rw[c];exact aq (w:=w) (az c) (nz a o vs) e
  ·rw[setL_take m p,b]
  ·rw[c];simp;omega
theorem flat_set1:∀(xs:List Int) (i:Nat) (x:Int),(ints xs).set i (bS x)=ints (xs.set i x)
 | [],_,_=>rfl
 |y::a,0,x=>rfl
 |y::a,i+1,x=>by
  show Value.int .i64 y::(ints a).set i _=Value.int .i64 y::ints (a.set i x);rw[flat_set1 a i x]
theorem set_eq(xs:List Value)(i:Nat)(v:Value)(a:i<xs.length):xs.take i++ [v]++xs.drop (i+1)=xs.set i v:=by
 rw[List.set_eq_take_append_cons_drop,bX a];simp
theorem mK{P:Program}{w:World}{base:Nat}{t e:TypeId}{z:Nat}{v:Value}{n:Nat}{xs:List Value}{i:Int}{j:IntKind}(h:w.ownsRow base e z v n xs)(s:P.underlying t=some (.slice e))(x:(P.info? e).map (·.size)=some z)(y:0<=i)(B:i<n):
  ∃g c,v= .slice (some ⟨g,0,none⟩) n c/\v.ownBlock=some g/\ai P (Instr.indexAt t v (.int j i))=some (.pointer (some ⟨g,i.toNat*z,none⟩))/\(∀ k,k<z->ao (hp w g) (i.toNat*z+k)=xs[i.toNat*z+k]?)/\ldL (hp w g) (i.toNat*z) z=some ((xs.drop (i.toNat*z)).take z)/\i.toNat*z+z<=n*z:=by
 rcases h.2 with⟨rfl,C⟩|⟨g,d,f,rfl,D,E,m,F,o,b⟩
 ·omega
 ·have p:hp w g=some (.cells f e (0,0)):=E;have q:i.toNat*z+z<=n*z:=by
   have G:i.toNat+1<=n:=dy;have H:=Nat.mul_le_mul_right z G;rw[Nat.add_mul,Nat.one_mul]at H;omega
  have I:n*z<=f.size:=by rw[o];exact Nat.mul_le_mul_right _ m
  have a:∀k,k<z->ao (hp w g) (i.toNat*z+k)=xs[i.toNat*z+k]? :=λk l=>by
   rw[p,aN,<-b,List.getElem?_take,bX dy];simp
  refine⟨g,d,rfl,rfl,?_,a,?_,q⟩
  ·have:=pr_index (P:=P) (A:=⟨g,0,none⟩) (c:=d) (k:=j) s x y B;rw[eR,cV]at this;exact this
  ·refine mI z _ _ (by have:=h.1;simp;omega) λk u l=>?_;rw[List.getElem?_take]at l;split at l
   ·rename_i r;rw[a k r,<-List.getElem?_drop];exact l
   ·cases l
section
variable{P:Program}{w:World}{K:Value->World->Prop}
theorem jJ{t e:TypeId}{i:TypeInfo}{z:Value}{kl kc:IntKind}{n:Nat}(d:P.underlying t=some (.slice e))(f:P.info? e=some i)(g:i.zero=some z)(a:n*i.size<=16777216)(b:i.bytes*n<=281474976710656)(j:n<=9223372036854775807):
  dF P (Instr.makeSlice t (.int kl (n:Int)) (.int kc (n:Int))) w K=K (.slice (some ⟨w.heap.size,0,none⟩) n n) (w.alloc (.cells (madeCells z.cells (n*i.size)) e)):=by
 have hb:(i.bytes:Int)*(n:Int)<=281474976710656:=by
  have h:((i.bytes*n:Nat):Int)<=281474976710656:=dy
  rwa[Int.natCast_mul]at h
 have c:=run_makeSlice (P:=P) w t e i z d f g kl kc n n dy (dj _) (by rw[cq];exact a) hb dy;simp only[cq]at c;unfold dF;rw[c]
theorem eqIn_slice{d:Nat}{t e:TypeId}{A:Option Addr}{n c:Nat}{w:World}(h:P.underlying t=some (.slice e)):(Op.equalIn (d+1) t (.slice A n c) (.slice none 0 0)).run P w= .ok A.isNone w:=by
 cases A<;>simp[Op.equalIn,run_underlying h]
theorem fL{t e:TypeId}{x y:Operand}{A:Option Addr}{n c:Nat}(h:P.underlying t=some (.slice e)):be P .eql t x y (.slice A n c) (.slice none 0 0)=some (.bool A.isNone):=
 be_eq1 (λw=>by simp[eqGuard]) (λw=>by simp only[binOp]) λw=>eqIn_slice h
theorem effv_build0{t e:TypeId}{i:TypeInfo}(a:P.underlying t=some (.slice e))(b:P.info? e=some i):dF P (Instr.buildSlice t 0 #[]) w K=K (.slice (some ⟨w.heap.size,0,none⟩) 0 0) (w.alloc (.cells #[] e)):=by
 have c:(Instr.buildSlice t 0 #[]).run P w= .ok (.slice (some ⟨w.heap.size,0,none⟩) 0 0) (w.alloc (.cells #[] e)):=by
  simp[Instr.buildSlice,run_underlying a,sizeOf,typeInfo,b,Instr.fill,newRow,Array.range_zero']
 unfold dF;rw[c]
theorem kS{t e:TypeId}{i:TypeInfo}{z:Value}{size:Nat}{A:Option Addr}{m c:Nat}{news:List Value}(l:P.underlying t=some (.slice e))(o:P.info? e=some i)(q:i.zero=some z)(r:i.size=size)(f:z.cells.size=size)(s:0<size)
  (v:news.length=m*size) (b:ed w A news) (y:∀u∈news,u.oneCell'=true) (F:m<=maxLen) (a:m*i.bytes<=140737488355328)
  (g:∀x' d,d.ownsRow w.heap.size e size x' m news->ad [] w d->K x' d):
  dF P (Instr.buildSlice t 0 #[]) w λx w=>dF P (Builtin.append_ #[t,t] t #[x,.slice A m c]) w K:=by
 rw[effv_build0 l o];refine iI (base:=w.heap.size) (xs:= []) (n:=0) (news:=news) (m:=m) l o q r f s (World.ownsRow_made w #[] 0 (cy _) (cX _) (by simp)) v (λj u B=>?_) y dy (by simpa using a) (by simp) λx' d C D=>?_
 ·obtain⟨p,hp,E⟩:=b j u B;exact⟨p,hp,Below.rL ((ad.refl [] w).alloc _).below E⟩
 ·refine g x' d (by simpa using C) (((ad.refl [] w).alloc _).grown D λk g=> .inr ?_);simp[Value.ownBlock]at g;omega
end
end Go.Proofs.YtnpflajdbchghaaGreat.Ev
