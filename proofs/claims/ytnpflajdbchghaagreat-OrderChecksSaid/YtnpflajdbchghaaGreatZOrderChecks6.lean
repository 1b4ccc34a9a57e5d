/- Parts of the proof of OrderChecks, one behind the other. Conditions: none. -/
import Derived.Laws.CopyRow
import Derived.Laws.MakeOwn
import Derived.Test.YtnpflajdbchghaaGreatZOrderChecks5
set_option linter.unusedSimpArgs false
set_option linter.unusedVariables false
noncomputable section
namespace Go.Proofs.YtnpflajdbchghaaGreat.Ev
open Go Go.RowKit
def eK(v:Value):List Nat:=v.ownBlock.toList
@[simp] theorem blk_nil : eK (.slice none 0 0) = [] := (rfl)
@[simp] theorem blk_some (a : Addr) (n c : Nat) : eK (.slice (some a) n c) = [a.block] := (rfl)
@[simp] theorem mem_blk {v : Value} {k : Nat} : k ∈ eK v <-> v.ownBlock = some k := by unfold eK; simp
structure Upd(F F':List Nat)(w w':World):Prop where
 aF:ad F w w'
 sub:∀k∈F',k∈F\/w.heap.size<=k
theorem Upd.refl(F:List Nat)(w:World):Upd F F w w:=⟨ad.refl _ _,λk a=> .inl a⟩
theorem Upd.trans{F G H:List Nat}{a b c:World}(h:Upd F G a b)(k:Upd G H b c):Upd F H a c:=
 ⟨⟨k.aF.os.trans h.aF.os,k.aF.tape.trans h.aF.tape,k.aF.output.trans h.aF.output,cU h.aF.size k.aF.size,λi d e=>
  (k.aF.block i (de d h.aF.size) λf=>by rcases h.sub i f with h1|h1;exact e h1;omega).trans (h.aF.block i d e)⟩,
  λi d=>by
  rcases k.sub i d with h1|h1
  ·exact h.sub i h1
  ·exact .inr (cU h.aF.size h1)⟩
theorem Upd.grow{F G H:List Nat}{a b c:World}(h:Upd F G a b)(k:ad [] b c):Upd F G a c:=h.trans ⟨k.mono (by simp),λi d=> .inl d⟩
theorem Upd.pre{F G:List Nat}{a b c:World}(k:ad [] a b)(h:Upd F G b c):Upd F G a c:=
 ⟨(k.mono (by simp)).trans h.aF,λi d=>(h.sub i d).imp id (cU k.size)⟩
def Dis(F G:List Nat):Prop:=∀k,k∈F->k∈G->False
theorem Dis.upd{F a G:List Nat}{w c:World}(h:Dis F G)(u:Upd F a w c)(d:∀k∈G,k<w.heap.size):Dis a G:=λk e b=>by
 rcases u.sub k e with h3|h3
 ·exact h k h3 b
 ·have:=d k b;omega
theorem Dis.symm{F G:List Nat}(h:Dis F G):Dis G F:=λk a b=>h k b a
theorem ad.upd{S F d:List Nat}{W w a:World}(h:ad S W w)(u:Upd F d w a)(e:∀k∈F,k∈S\/W.heap.size<=k):ad S W a:=
 ⟨u.aF.os.trans h.os,u.aF.tape.trans h.tape,u.aF.output.trans h.output,cU h.size u.aF.size,λk b c=>
  (u.aF.block k (de b h.size) λf=>by rcases e k f with h1|h1;exact c h1;omega).trans (h.block k b c)⟩
theorem Upd.news{F a:List Nat}{W w b:World}(u:Upd F a w b)(e:W.heap.size<=w.heap.size)(c:∀k∈F,W.heap.size<=k):∀k∈a,W.heap.size<=k:=λk d=>by
 rcases u.sub k d with h|h
 ·exact c k h
 ·omega
theorem drop_take{α:Type}(l:List α)(n o:Nat):(l.take n).drop o=(l.drop o).take (n-o):=List.drop_take
theorem setL_take{c:Array Value}{o m:Nat}{vs:List Value}(d:m<=c.size)(e:o+vs.length<=m):(m7 c o vs).toList.take m=(c.toList.take m).take o++vs++(c.toList.take m).drop (o+vs.length):=by
 rw[rn vs c o dB,cJ,cJ,List.take_append,List.take_append];have a:(c.toList.take o).length=o:=by simp;omega
 have b:(c.toList.take o).take m=(c.toList.take m).take o:=by rw[List.take_take,List.take_take,Nat.min_comm]
 rw[b,a,dA (show vs.length<=m-o by omega),List.drop_take,Nat.sub_sub]
theorem oy{w:World}{base:Nat}{e:TypeId}{size:Nat}{v:Value}{n:Nat}{xs:List Value}{g o:Nat}{vs:List Value}(h:w.ownsRow base e size v n xs)(m:v.ownBlock=some g)(p:o+vs.length<=n*size):
  (put w g (m7 (dL (hp w g)) o vs) (dM (hp w g))).ownsRow base e size v n (xs.take o++vs++xs.drop (o+vs.length))/\pY (hp w g) (o+vs.length)=true:=by
 rcases h.2 with⟨rfl,r⟩|⟨i,cap,a,rfl,j,q,d,k,f,b⟩
 ·cases m
 ·have:i=g:=by simpa [Value.ownBlock]using m
  subst this;have l:n*size<=a.size:=by rw[f];exact Nat.mul_le_mul_right _ d
  have c:hp w i=some (.cells a e (0,0)):=q;refine⟨⟨?_,.inr ⟨i,cap,m7 a o vs,rfl,j,?_,d,k,by rw[setL_size,f],?_⟩⟩,?_⟩
  ·have:=h.1;simp;omega
  ·rw[c];exact ar (w:=w) (aD c) (m7 a o vs) e
  ·rw[setL_take l p,b]
  ·rw[c];simp;omega
theorem flat_part{α:Type}{a:α->List Value}{z:Nat}(h:∀x,(a x).length=z)(x':α)(k:Nat)(vs:List Value)(e:k+vs.length<=z):∀(xs:List α) (i:Nat) (b:i<xs.length),a x'=(a xs[i]).take k++vs++(a xs[i]).drop (k+vs.length)->
  (xs.flatMap a).take (i*z+k)++vs++(xs.flatMap a).drop (i*z+k+vs.length)=(xs.set i x').flatMap a
 | [],i,b,_=>by simp at b
 |x::xs,0,b,c=>by
  simp only[List.getElem_cons_zero]at c;have d:=h x;simp only[Nat.zero_mul,cM,dj,List.set_cons_zero,c];rw[List.take_append_of_le_length dB,List.drop_append_of_le_length dB];simp
 |x::xs,i+1,b,c=>by
  have f:=flat_part h x' k vs e xs i (by simpa using b) (by simpa using c);have d:=h x;simp only[dj,List.set_cons_succ];rw[<- f,show(i+1)*z+k=z+(i*z+k)by rw[Nat.add_mul];omega,show z+(i*z+k)+vs.length=z+(i*z+k+vs.length)by omega];rw[List.take_append,List.drop_append,d,dA dB,dk dB,Nat.add_sub_cancel_left,Nat.add_sub_cancel_left];simp
theorem flat_set1:∀(xs:List Int) (i:Nat) (x:Int),(ints xs).set i (bN x)=ints (xs.set i x)
 | [],_,_=>rfl
 |y::a,0,x=>rfl
 |y::a,i+1,x=>by
  show Value.int .i64 y::(ints a).set i _=Value.int .i64 y::ints (a.set i x);rw[flat_set1 a i x]
theorem set_eq(xs:List Value)(i:Nat)(v:Value)(a:i<xs.length):xs.take i++ [v]++xs.drop (i+1)=xs.set i v:=by
 rw[List.set_eq_take_append_cons_drop,bU a];simp
theorem kQ{P:Program}{w:World}{base:Nat}{t e:TypeId}{z:Nat}{v:Value}{n:Nat}{xs:List Value}{i:Int}{j:IntKind}(h:w.ownsRow base e z v n xs)(r:P.underlying t=some (.slice e))(s:(P.info? e).map (·.size)=some z)(x:0<=i)(y:i<n):
  ∃g c,v= .slice (some ⟨g,0,none⟩) n c/\v.ownBlock=some g/\ai P (Instr.indexAt t v (.int j i))=some (.pointer (some ⟨g,i.toNat*z,none⟩))/\(∀ k,k<z->an (hp w g) (i.toNat*z+k)=xs[i.toNat*z+k]?)/\ldL (hp w g) (i.toNat*z) z=some ((xs.drop (i.toNat*z)).take z)/\i.toNat*z+z<=n*z:=by
 rcases h.2 with⟨rfl,B⟩|⟨g,cap,d,rfl,C,D,l,E,m,b⟩
 ·omega
 ·have o:hp w g=some (.cells d e (0,0)):=D;have p:i.toNat*z+z<=n*z:=by
   have F:i.toNat+1<=n:=dB;have G:=Nat.mul_le_mul_right z F;rw[Nat.add_mul,Nat.one_mul]at G;omega
  have H:n*z<=d.size:=by rw[m];exact Nat.mul_le_mul_right _ l
  have a:∀k,k<z->an (hp w g) (i.toNat*z+k)=xs[i.toNat*z+k]? :=λk f=>by
   rw[o,aN,<-b,List.getElem?_take,bU dB];simp
  refine⟨g,cap,rfl,rfl,?_,a,?_,p⟩
  ·have:=pr_index (P:=P) (A:=⟨g,0,none⟩) (c:=cap) (k:=j) r s x y;rw[eL,cM]at this;exact this
  ·refine mw z _ _ (by have:=h.1;simp;omega) λk u f=>?_;rw[List.getElem?_take]at f;split at f
   ·rename_i q;rw[a k q,<-List.getElem?_drop];exact f
   ·cases f
section
variable{P:Program}{w:World}{K:Value->World->Prop}
theorem jm{t e:TypeId}{i:TypeInfo}{z:Value}{kl kc:IntKind}{n:Nat}(d:P.underlying t=some (.slice e))(f:P.info? e=some i)(g:i.zero=some z)(a:n*i.size<=16777216)(b:i.bytes*n<=281474976710656)(j:n<=9223372036854775807):
  cP P (Instr.makeSlice t (.int kl (n:Int)) (.int kc (n:Int))) w K=K (.slice (some ⟨w.heap.size,0,none⟩) n n) (w.alloc (.cells (madeCells z.cells (n*i.size)) e)):=by
 have hb:(i.bytes:Int)*(n:Int)<=281474976710656:=by
  have h:((i.bytes*n:Nat):Int)<=281474976710656:=dB
  rwa[Int.natCast_mul]at h
 have c:=run_makeSlice (P:=P) w t e i z d f g kl kc n n dB (dm _) (by rw[cj];exact a) hb dB;simp only[cj]at c;unfold cP;rw[c]
end
end Go.Proofs.YtnpflajdbchghaaGreat.Ev
