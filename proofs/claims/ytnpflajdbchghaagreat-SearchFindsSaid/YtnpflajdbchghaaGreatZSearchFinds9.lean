/- Parts of the proof of SearchFinds, one behind the other. Conditions: none. -/
import Derived.Test.YtnpflajdbchghaaGreatChecked
import Derived.Eval
import Derived.Laws.Tables
import Derived.Test.YtnpflajdbchghaaGreatZSearchFinds8
set_option linter.unusedSimpArgs false
set_option linter.unusedVariables false
set_option maxHeartbeats 4000000
set_option maxRecDepth 100000
noncomputable section
namespace Go.Proofs.YtnpflajdbchghaaGreat
open Tryz(f38 f66 prog underlying3)
open Go Ev
variable{w:World}{K:Value->World->Prop}{L:World->Prop}
section
variable{t e k j z n:Nat}{a b:Array Value}{w:World}{v:Value}{K:Value->World->Prop}{L:World->Prop}
abbrev FA(t:TypeId)(k j:Nat):Prop:=∀{b o:Nat},ai prog (Instr.fieldAt t (.pointer (some ⟨b,o,none⟩)) k)=some (.pointer (some ⟨b,o+j,none⟩))
theorem fk(z:Nat)(g:Bool)(h:fOff prog t k=some (j,z,g):=by kernel_rfl)(a:z≠0:=by decide):FA t k j:=pr_fieldAt h a
abbrev SZ(t:TypeId)(n:Nat):Prop:=(Tryz.prog.info? t).map (·.size)=some n
abbrev AG(t:TypeId)(b:Bool):Prop:=(Tryz.prog.underlying t).map jq=some b
theorem nA(h:(Tryz.prog.info? t).map (·.size)=some n:=by kernel_rfl):SZ t n:=h
theorem lX{b:Bool}(h:(Tryz.prog.underlying t).map jq=some b:=by kernel_rfl):AG t b:=h
abbrev LD(t:TypeId):Prop:=∀{w:World} {b o:Nat},fR prog t (.pointer (some ⟨b,o,none⟩)) w=ao (hp w b) o
theorem pz(h:AG t false):LD t:=ldv_blk h
abbrev LA(t:TypeId)(n:Nat):Prop:=∀{w:World} {b o:Nat},fR prog t (.pointer (some ⟨b,o,none⟩)) w=(ldL (hp w b) o n).map λl=> .agg l.toArray
theorem lak(h:AG t true)(a:SZ t n):LA t n:=ldv_L h a
abbrev SA(t:TypeId)(n:Nat):Prop:=∀{w:World} {L:World->Prop} {b:Nat} {c:Array Value} (_:c.size=n) (_:c.toList.all (·.oneCell')=true) (_:mX (hp w b) n=true) (_:(dG (hp w b)).size=n),dE prog (Instr.storeAt t (bU b) (.agg c)) w L=L (put w b c (dH (hp w b)))
theorem sak(h:SZ t n)(a:0<n:=by decide):SA t n:=λb c d e=>effu_storeW h b c a d e
abbrev SV(t:TypeId):Prop:=∀{w:World} {L:World->Prop} {b o:Nat} {v:Value} (_:v.cells= #[v]) (_:v.oneCell'=true) (_:mX (hp w b) (o+1)=true),dE prog (Instr.storeAt t (.pointer (some ⟨b,o,none⟩)) v) w L=L (put w b ((dG (hp w b)).setIfInBounds o v) (dH (hp w b)))
theorem svk(h:SZ t 1):SV t:=λhv a b=>fC h hv a b
abbrev AL(t:TypeId)(z:Array Value):Prop:=∀{w:World} {K:Value->World->Prop} {x:Value},dF prog (Instr.alloc t true x) w K=K (bU w.heap.size) (w.alloc (.cells z t))
theorem alk(h:(Tryz.prog.info? t).bind (·.zero)=some (.agg a):=by kernel_rfl):AL t a:=effv_alloc h
abbrev BD(t:TypeId)(a:Array (Nat×Value))(b:Array Value):Prop:=ai prog (Instr.build t a)=some (.agg b)
theorem kH{a:Array (Nat×Value)}(h:Tryz.prog.built t a.toList=some b:=by kernel_rfl):BD t a b:=aX λw=>run_build w t _ _ h
abbrev IA(t:TypeId)(z:Nat):Prop:=∀{b p n c:Nat} {j:IntKind} {i:Int} (_:0<=i) (_:i<n),ai prog (Instr.indexAt t (.slice (some ⟨b,p,none⟩) n c) (.int j i))=some (.pointer (some ⟨b,p+i.toNat*z,none⟩))
theorem iak(h:Tryz.prog.underlying t=some (.slice e))(a:(Tryz.prog.info? e).map (·.size)=some z:=by kernel_rfl):IA t z:=λb c=>by rw[<- eR];exact pr_index h a b c
abbrev LN(t:TypeId):Prop:=∀{A:Option Addr} {n c:Nat},ai prog (Builtin.len_ #[t] 3 #[.slice A n c])=some (bS n)
abbrev IF(e:TypeId)(z:Value)(s b:Nat):Prop:=∃i,Tryz.prog.info? e=some i/\i.zero=some z/\i.size=s/\i.bytes=b
end
@[simp] theorem eS : FA 25 0 0 := fk 1 false
@[simp] theorem jK : FA 25 1 1 := fk 1 false
@[simp] theorem fj : FA 25 2 2 := fk 1 false
@[simp] theorem iJ : FA 25 3 3 := fk 1 false
@[simp] theorem fa_25_4 : FA 25 4 4 := fk 1 false
@[simp] theorem fa_25_5 : FA 25 5 5 := fk 1 false
@[simp] theorem bG : FA 32 0 0 := fk 1 false
@[simp] theorem gR : FA 32 1 1 := fk 1 false
@[simp] theorem fy : FA 32 2 2 := fk 1 false
@[simp] theorem ib : FA 32 3 3 := fk 1 false
@[simp] theorem iK : FA 32 4 4 := fk 1 false
@[simp] theorem mz : FA 35 0 0 := fk 1 false
@[simp] theorem lh : FA 35 1 1 := fk 5 true
@[simp] theorem fa_35_2 : FA 35 2 6 := fk 1 false
@[simp] theorem fa_35_3 : FA 35 3 7 := fk 1 false
@[simp] theorem am : FA 37 0 0 := fk 1 false
@[simp] theorem iL : FA 37 1 1 := fk 1 false
@[simp] theorem iM : FA 37 2 2 := fk 1 false
@[simp] theorem bm : FA 37 3 3 := fk 1 false
@[simp] theorem fB : FA 37 4 4 := fk 1 false
@[simp] theorem mB : FA 37 5 5 := fk 1 false
@[simp] theorem ic : FA 39 0 0 := fk 1 false
@[simp] theorem ky : FA 39 1 1 := fk 1 false
@[simp] theorem jf : FA 39 2 2 := fk 6 true
@[simp] theorem fa_39_3 : FA 39 3 8 := fk 1 false
@[simp] theorem lj : FA 39 4 9 := fk 1 false
@[simp] theorem fa_39_5 : FA 39 5 10 := fk 1 false
@[simp] theorem gS : FA 39 6 11 := fk 1 false
@[simp] theorem jg : FA 39 7 12 := fk 8 true
@[simp] theorem fa_78_0 : FA 78 0 0 := fk 6 true
@[simp] theorem fa_78_1 : FA 78 1 6 := fk 1 false
@[simp] theorem mC : FA 78 2 7 := fk 1 false
@[simp] theorem sZ : FA 78 3 8 := fk 1 false
@[simp] theorem fa_78_4 : FA 78 4 9 := fk 1 false
@[simp] theorem s6 : FA 78 5 10 := fk 1 false
@[simp] theorem kB : FA 78 6 11 := fk 1 false
@[simp] theorem fa_78_7 : FA 78 7 12 := fk 1 false
@[simp] theorem s7 : FA 78 8 13 := fk 1 false
@[simp] theorem fa_84_0 : FA 84 0 0 := fk 1 false
@[simp] theorem fa_84_1 : FA 84 1 1 := fk 1 false
@[simp] theorem fa_84_2 : FA 84 2 2 := fk 1 false
@[simp] theorem fa_84_3 : FA 84 3 3 := fk 1 false
@[simp] theorem fa_84_4 : FA 84 4 4 := fk 1 false
@[simp] theorem fa_84_5 : FA 84 5 5 := fk 1 false
@[simp] theorem s8 : FA 90 0 0 := fk 6 true
@[simp] theorem fa_90_1 : FA 90 1 6 := fk 1 false
@[simp] theorem nC : FA 90 2 7 := fk 1 false
@[simp] theorem qw : FA 90 3 8 := fk 1 false
@[simp] theorem qx : FA 90 4 9 := fk 1 false
@[simp] theorem fa_96_0 : FA 96 0 0 := fk 1 false
@[simp] theorem fa_96_1 : FA 96 1 1 := fk 1 false
@[simp] theorem fa_99_0 : FA 99 0 0 := fk 2 true
@[simp] theorem fa_99_1 : FA 99 1 2 := fk 1 false
@[simp] theorem fa_99_2 : FA 99 2 3 := fk 1 false
@[simp] theorem nD : FA 99 3 4 := fk 1 false
@[simp] theorem qy : FA 99 4 5 := fk 1 false
@[simp] theorem fa_99_5 : FA 99 5 6 := fk 1 false
@[simp] theorem fa_114_0 : FA 114 0 0 := fk 1 false
@[simp] theorem rO : FA 114 1 1 := fk 1 false
@[simp] theorem lA : FA 123 0 0 := fk 1 false
@[simp] theorem fa_123_1 : FA 123 1 1 := fk 1 false
@[simp] theorem fa_123_2 : FA 123 2 2 := fk 1 false
@[simp] theorem jX : FA 136 0 0 := fk 1 false
@[simp] theorem mL : FA 136 1 1 := fk 1 false
@[simp] theorem nS : FA 142 0 0 := fk 1 false
@[simp] theorem fa_142_1 : FA 142 1 1 := fk 1 false
@[simp] theorem bR : FA 153 0 0 := fk 6 true
@[simp] theorem fq : FA 153 1 6 := fk 1 false
@[simp] theorem rP : FA 153 2 7 := fk 1 false
@[simp] theorem fa_153_3 : FA 153 3 8 := fk 1 false
@[simp] theorem fa_153_4 : FA 153 4 9 := fk 1 false
@[simp] theorem lB : FA 156 0 0 := fk 1 false
@[simp] theorem rQ : FA 156 1 1 := fk 1 false
@[simp] theorem fa_156_2 : FA 156 2 2 := fk 1 false
@[simp] theorem pF : FA 156 3 3 := fk 1 false
@[simp] theorem pG : FA 158 0 0 := fk 1 false
@[simp] theorem fa_158_1 : FA 158 1 1 := fk 1 false
@[simp] theorem fa_158_2 : FA 158 2 2 := fk 1 false
@[simp] theorem fa_158_3 : FA 158 3 3 := fk 1 false
@[simp] theorem gV : FA 163 0 0 := fk 1 false
@[simp] theorem jY : FA 163 1 1 := fk 1 false
@[simp] theorem ie : FA 172 0 0 := fk 1 false
@[simp] theorem fa_172_1 : FA 172 1 1 := fk 1 false
@[simp] theorem fa_172_2 : FA 172 2 2 := fk 1 false
@[simp] theorem jZ : FA 172 3 3 := fk 2 true
@[simp] theorem bj : FA 172 4 5 := fk 1 false
@[simp] theorem gm : FA 172 5 6 := fk 6 true
@[simp] theorem fa_172_6 : FA 172 6 12 := fk 5 true
@[simp] theorem j0 : FA 172 7 17 := fk 1 false
@[simp] theorem eU : FA 172 8 18 := fk 1 false
@[simp] theorem fa_172_9 : FA 172 9 19 := fk 1 false
@[simp] theorem fa_172_10 : FA 172 10 20 := fk 8 true
@[simp] theorem pH : FA 172 11 28 := fk 1 false
@[simp] theorem fa_172_12 : FA 172 12 29 := fk 1 false
@[simp] theorem fa_172_13 : FA 172 13 30 := fk 1 false
@[simp] theorem fa_172_14 : FA 172 14 31 := fk 1 false
@[simp] theorem pI : FA 172 15 32 := fk 1 false
@[simp] theorem fa_172_16 : FA 172 16 33 := fk 1 false
@[simp] theorem fa_172_17 : FA 172 17 34 := fk 1 false
@[simp] theorem fM : FA 182 0 0 := fk 6 true
@[simp] theorem fa_182_1 : FA 182 1 6 := fk 1 false
@[simp] theorem nU : FA 182 2 7 := fk 1 false
@[simp] theorem fa_182_3 : FA 182 3 8 := fk 1 false
@[simp] theorem aS : FA 182 4 9 := fk 1 false
@[simp] theorem lC : FA 182 5 10 := fk 1 false
@[simp] theorem lD : FA 182 6 11 := fk 1 false
@[simp] theorem fa_193_0 : FA 193 0 0 := fk 1 false
@[simp] theorem fa_193_1 : FA 193 1 1 := fk 1 false
@[simp] theorem fa_193_2 : FA 193 2 2 := fk 1 false
@[simp] theorem fa_193_3 : FA 193 3 3 := fk 1 false
@[simp] theorem fa_193_4 : FA 193 4 4 := fk 1 false
@[simp] theorem ke : FA 204 0 0 := fk 1 false
@[simp] theorem fa_204_1 : FA 204 1 1 := fk 1 false
@[simp] theorem fa_209_0 : FA 209 0 0 := fk 1 false
@[simp] theorem fa_209_1 : FA 209 1 1 := fk 1 false
@[simp] theorem jv : FA 215 0 0 := fk 1 false
@[simp] theorem nV : FA 215 1 1 := fk 1 false
@[simp] theorem fa_215_2 : FA 215 2 2 := fk 1 false
@[simp] theorem fa_220_0 : FA 220 0 0 := fk 1 false
@[simp] theorem fa_220_1 : FA 220 1 1 := fk 1 false
@[simp] theorem fa_220_2 : FA 220 2 2 := fk 1 false
@[simp] theorem fa_220_3 : FA 220 3 3 := fk 1 false
@[simp] theorem rU : FA 220 4 4 := fk 1 false
@[simp] theorem fa_224_0 : FA 224 0 0 := fk 1 false
@[simp] theorem fa_224_1 : FA 224 1 1 := fk 1 false
@[simp] theorem fa_224_2 : FA 224 2 2 := fk 1 false
@[simp] theorem fa_226_0 : FA 226 0 0 := fk 1 false
@[simp] theorem fa_226_1 : FA 226 1 1 := fk 1 false
@[simp] theorem fa_226_2 : FA 226 2 2 := fk 1 false
@[simp] theorem fa_226_3 : FA 226 3 3 := fk 1 false
@[simp] theorem rV : FA 226 4 4 := fk 1 false
@[simp] theorem fa_226_5 : FA 226 5 5 := fk 1 false
@[simp] theorem fa_231_0 : FA 231 0 0 := fk 1 false
@[simp] theorem mM : FA 231 1 1 := fk 1 false
@[simp] theorem fa_231_2 : FA 231 2 2 := fk 1 false
@[simp] theorem pK : FA 231 3 3 := fk 1 false
@[simp] theorem fa_233_0 : FA 233 0 0 := fk 1 false
@[simp] theorem fa_233_1 : FA 233 1 1 := fk 1 false
@[simp] theorem fa_233_2 : FA 233 2 2 := fk 1 false
@[simp] theorem fa_233_3 : FA 233 3 3 := fk 1 false
@[simp] theorem fa_233_4 : FA 233 4 4 := fk 1 false
@[simp] theorem nW : FA 233 5 5 := fk 1 false
@[simp] theorem fa_233_6 : FA 233 6 6 := fk 1 false
@[simp] theorem fa_233_7 : FA 233 7 7 := fk 1 false
@[simp] theorem fa_233_8 : FA 233 8 8 := fk 4 true
@[simp] theorem fa_233_9 : FA 233 9 12 := fk 1 false
@[simp] theorem mi : FA 233 10 13 := fk 1 false
@[simp] theorem pM : FA 237 0 0 := fk 1 false
@[simp] theorem fa_237_1 : FA 237 1 1 := fk 1 false
@[simp] theorem fa_237_2 : FA 237 2 2 := fk 1 false
@[simp] theorem fa_237_3 : FA 237 3 3 := fk 1 false
@[simp] theorem ig : FA 237 4 4 := fk 1 false
@[simp] theorem fa_237_5 : FA 237 5 5 := fk 1 false
@[simp] theorem fa_237_6 : FA 237 6 6 := fk 1 false
@[simp] theorem rW : FA 237 7 7 := fk 1 false
@[simp] theorem lE : FA 237 8 8 := fk 1 false
@[simp] theorem fa_237_9 : FA 237 9 9 := fk 1 false
@[simp] theorem fa_237_10 : FA 237 10 10 := fk 1 false
@[simp] theorem s9 : FA 237 11 11 := fk 1 false
@[simp] theorem fa_237_12 : FA 237 12 12 := fk 1 false
@[simp] theorem ta : FA 237 13 13 := fk 1 false
@[simp] theorem fa_237_14 : FA 237 14 14 := fk 5 true
@[simp] theorem fa_237_15 : FA 237 15 19 := fk 1 false
@[simp] theorem pN : FA 237 16 20 := fk 1 false
@[simp] theorem fa_243_0 : FA 243 0 0 := fk 1 false
@[simp] theorem fa_243_1 : FA 243 1 1 := fk 1 false
@[simp] theorem fa_243_2 : FA 243 2 2 := fk 1 false
@[simp] theorem fa_243_3 : FA 243 3 3 := fk 1 false
@[simp] theorem fa_243_4 : FA 243 4 4 := fk 1 false
@[simp] theorem fa_243_5 : FA 243 5 5 := fk 1 false
@[simp] theorem fa_243_6 : FA 243 6 6 := fk 1 false
@[simp] theorem fa_243_7 : FA 243 7 7 := fk 1 false
@[simp] theorem fa_243_8 : FA 243 8 8 := fk 1 false
@[simp] theorem fa_243_9 : FA 243 9 9 := fk 1 false
@[simp] theorem fa_243_10 : FA 243 10 10 := fk 1 false
@[simp] theorem tc : FA 243 11 11 := fk 1 false
@[simp] theorem fa_246_0 : FA 246 0 0 := fk 1 false
@[simp] theorem rX : FA 246 1 1 := fk 1 false
@[simp] theorem fa_246_2 : FA 246 2 2 := fk 1 false
@[simp] theorem fa_246_3 : FA 246 3 3 := fk 1 false
@[simp] theorem fa_246_4 : FA 246 4 4 := fk 1 false
@[simp] theorem pO : FA 246 5 5 := fk 1 false
@[simp] theorem fa_250_0 : FA 250 0 0 := fk 1 false
@[simp] theorem fa_250_1 : FA 250 1 1 := fk 1 false
@[simp] theorem fa_250_2 : FA 250 2 2 := fk 1 false
@[simp] theorem mN : FA 250 3 3 := fk 1 false
@[simp] theorem jw : FA 250 4 4 := fk 1 false
@[simp] theorem lF : FA 250 5 5 := fk 1 false
@[simp] theorem jx : FA 250 6 6 := fk 1 false
@[simp] theorem rY : FA 250 7 7 := fk 1 false
@[simp] theorem fa_256_0 : FA 256 0 0 := fk 1 false
@[simp] theorem fa_256_1 : FA 256 1 1 := fk 1 false
@[simp] theorem fa_258_0 : FA 258 0 0 := fk 1 false
@[simp] theorem rZ : FA 258 1 1 := fk 1 false
@[simp] theorem nX : FA 262 0 0 := fk 3 true
@[simp] theorem iU : FA 262 1 3 := fk 3 true
@[simp] theorem fa_262_2 : FA 262 2 6 := fk 1 false
@[simp] theorem fa_268_0 : FA 268 0 0 := fk 1 false
@[simp] theorem fa_268_1 : FA 268 1 1 := fk 1 false
@[simp] theorem fa_268_2 : FA 268 2 2 := fk 1 false
@[simp] theorem fa_268_3 : FA 268 3 3 := fk 1 false
@[simp] theorem nY : FA 268 4 4 := fk 1 false
@[simp] theorem fa_270_0 : FA 270 0 0 := fk 1 false
@[simp] theorem fa_270_1 : FA 270 1 1 := fk 1 false
@[simp] theorem fa_270_2 : FA 270 2 2 := fk 1 false
@[simp] theorem fa_270_3 : FA 270 3 3 := fk 1 false
@[simp] theorem fa_270_4 : FA 270 4 4 := fk 1 false
@[simp] theorem r8 : FA 270 5 5 := fk 1 false
@[simp] theorem kf : FA 270 6 6 := fk 1 false
@[simp] theorem fa_279_0 : FA 279 0 0 := fk 1 false
@[simp] theorem fa_279_1 : FA 279 1 1 := fk 1 false
@[simp] theorem fa_279_2 : FA 279 2 2 := fk 1 false
@[simp] theorem fa_279_3 : FA 279 3 3 := fk 1 false
@[simp] theorem fa_279_4 : FA 279 4 4 := fk 1 false
@[simp] theorem kj : FA 279 5 5 := fk 1 false
@[simp] theorem fa_282_0 : FA 282 0 0 := fk 1 false
@[simp] theorem mO : FA 282 2 2 := fk 1 false
@[simp] theorem fa_287_0 : FA 287 0 0 := fk 1 false
@[simp] theorem fa_287_1 : FA 287 1 1 := fk 1 false
@[simp] theorem fa_287_2 : FA 287 2 2 := fk 1 false
@[simp] theorem pP : FA 287 3 3 := fk 1 false
@[simp] theorem fa_287_4 : FA 287 4 4 := fk 1 false
@[simp] theorem fa_287_5 : FA 287 5 5 := fk 1 false
@[simp] theorem fa_287_6 : FA 287 6 6 := fk 1 false
@[simp] theorem fa_287_7 : FA 287 7 7 := fk 1 false
@[simp] theorem fa_287_8 : FA 287 8 8 := fk 1 false
@[simp] theorem pQ : FA 287 9 9 := fk 1 false
@[simp] theorem fa_290_0 : FA 290 0 0 := fk 1 false
@[simp] theorem se : FA 290 1 1 := fk 1 false
@[simp] theorem fa_290_2 : FA 290 2 2 := fk 1 false
@[simp] theorem fa_293_0 : FA 293 0 0 := fk 1 false
@[simp] theorem fa_293_1 : FA 293 1 1 := fk 1 false
@[simp] theorem sf : FA 293 2 2 := fk 1 false
@[simp] theorem fa_293_3 : FA 293 3 3 := fk 1 false
@[simp] theorem mP : FA 293 4 4 := fk 1 false
@[simp] theorem fi_193_1 {x0 x1 x2 x3 x4 : Value} : ai prog (Instr.field 193 (.agg #[x0, x1, x2, x3, x4]) 1) = some x1 := pr_field1 (off := 1) (z := 1) dA rfl
theorem aE:SZ 3 1:=nA
theorem ag_3:AG 3 false:=lX
@[simp] theorem ag : LD 3 := pz ag_3
theorem mQ:SZ 4 1:=nA
theorem ag_4:AG 4 false:=lX
@[simp] theorem aB : LD 4 := pz ag_4
theorem ag_9:AG 9 false:=lX
@[simp] theorem ld_9 : LD 9 := pz ag_9
theorem sz_22:SZ 22 1:=nA
theorem ag_22:AG 22 false:=lX
@[simp] theorem aH : LD 22 := pz ag_22
theorem sz_25:SZ 25 6:=nA
theorem ag_25:AG 25 true:=lX
theorem ld_25:LA 25 6:=lak ag_25 sz_25
theorem sz_26:SZ 26 1:=nA
theorem ag_26:AG 26 false:=lX
@[simp] theorem iV : LD 26 := pz ag_26
theorem sz_30:SZ 30 1:=nA
theorem ag_30:AG 30 false:=lX
@[simp] theorem jy : LD 30 := pz ag_30
theorem ma:SZ 32 5:=nA
theorem qX:AG 32 true:=lX
theorem ld_32:LA 32 5:=lak qX ma
theorem sz_33:SZ 33 1:=nA
theorem ag_33:AG 33 false:=lX
@[simp] theorem bx : LD 33 := pz ag_33
theorem sz_35:SZ 35 8:=nA
theorem ag_35:AG 35 true:=lX
theorem ld_35:LA 35 8:=lak ag_35 sz_35
theorem nZ:SZ 37 6:=nA
theorem tJ:AG 37 true:=lX
theorem ld_37:LA 37 6:=lak tJ nZ
theorem sz_39:SZ 39 20:=nA
theorem ag_39:AG 39 true:=lX
theorem ld_39:LA 39 20:=lak ag_39 sz_39
theorem sz_70:SZ 70 1:=nA
theorem ag_70:AG 70 false:=lX
@[simp] theorem ld_70 : LD 70 := pz ag_70
theorem ag_74:AG 74 false:=lX
@[simp] theorem gp : LD 74 := pz ag_74
theorem sz_75:SZ 75 1:=nA
theorem ag_75:AG 75 false:=lX
@[simp] theorem ld_75 : LD 75 := pz ag_75
theorem sz_76:SZ 76 1:=nA
theorem ag_76:AG 76 false:=lX
@[simp] theorem sh : LD 76 := pz ag_76
theorem sz_86:SZ 86 1:=nA
theorem ag_86:AG 86 false:=lX
@[simp] theorem ld_86 : LD 86 := pz ag_86
theorem sz_87:SZ 87 1:=nA
theorem ag_87:AG 87 false:=lX
@[simp] theorem ld_87 : LD 87 := pz ag_87
theorem sz_88:SZ 88 1:=nA
theorem ag_88:AG 88 false:=lX
@[simp] theorem ld_88 : LD 88 := pz ag_88
theorem sz_90:SZ 90 10:=nA
theorem ag_90:AG 90 true:=lX
theorem sz_96:SZ 96 2:=nA
theorem ag_96:AG 96 true:=lX
theorem ld_96:LA 96 2:=lak ag_96 sz_96
theorem sz_97:SZ 97 1:=nA
theorem ag_97:AG 97 false:=lX
@[simp] theorem od : LD 97 := pz ag_97
theorem sz_99:SZ 99 7:=nA
theorem ag_99:AG 99 true:=lX
theorem ld_99:LA 99 7:=lak ag_99 sz_99
theorem sz_116:SZ 116 1:=nA
theorem ag_116:AG 116 false:=lX
@[simp] theorem oe : LD 116 := pz ag_116
theorem sz_118:SZ 118 1:=nA
theorem ag_118:AG 118 false:=lX
@[simp] theorem si : LD 118 := pz ag_118
theorem sz_134:SZ 134 1:=nA
theorem ag_134:AG 134 false:=lX
@[simp] theorem ld_134 : LD 134 := pz ag_134
theorem sz_139:SZ 139 1:=nA
theorem ag_139:AG 139 false:=lX
@[simp] theorem jc : LD 139 := pz ag_139
theorem sz_142:SZ 142 2:=nA
theorem ag_142:AG 142 true:=lX
theorem ld_142:LA 142 2:=lak ag_142 sz_142
theorem ag_147:AG 147 false:=lX
@[simp] theorem bD : LD 147 := pz ag_147
theorem sz_150:SZ 150 1:=nA
theorem ag_150:AG 150 false:=lX
@[simp] theorem mj : LD 150 := pz ag_150
theorem sz_151:SZ 151 1:=nA
theorem ag_151:AG 151 false:=lX
@[simp] theorem qz : LD 151 := pz ag_151
theorem ag_159:AG 159 false:=lX
@[simp] theorem jO : LD 159 := pz ag_159
theorem sz_161:SZ 161 1:=nA
theorem ag_161:AG 161 false:=lX
@[simp] theorem kJ : LD 161 := pz ag_161
theorem sz_164:SZ 164 1:=nA
theorem ag_164:AG 164 false:=lX
@[simp] theorem ld_164 : LD 164 := pz ag_164
theorem sz_165:SZ 165 1:=nA
theorem ag_165:AG 165 false:=lX
@[simp] theorem ld_165 : LD 165 := pz ag_165
theorem sz_166:SZ 166 1:=nA
theorem ag_166:AG 166 false:=lX
@[simp] theorem ld_166 : LD 166 := pz ag_166
theorem sz_167:SZ 167 1:=nA
theorem ag_167:AG 167 false:=lX
@[simp] theorem ld_167 : LD 167 := pz ag_167
theorem sz_168:SZ 168 1:=nA
theorem ag_168:AG 168 false:=lX
@[simp] theorem ld_168 : LD 168 := pz ag_168
theorem sz_169:SZ 169 1:=nA
theorem ag_169:AG 169 false:=lX
@[simp] theorem ld_169 : LD 169 := pz ag_169
theorem sz_170:SZ 170 1:=nA
theorem ag_170:AG 170 false:=lX
@[simp] theorem ld_170 : LD 170 := pz ag_170
theorem sz_179:SZ 179 1:=nA
theorem ag_179:AG 179 false:=lX
@[simp] theorem bv : LD 179 := pz ag_179
theorem sz_180:SZ 180 1:=nA
theorem ag_180:AG 180 false:=lX
@[simp] theorem qA : LD 180 := pz ag_180
theorem sz_193:SZ 193 5:=nA
theorem ag_193:AG 193 true:=lX
theorem ld_193:LA 193 5:=lak ag_193 sz_193
theorem sz_201:SZ 201 4:=nA
theorem ag_201:AG 201 true:=lX
theorem ld_201:LA 201 4:=lak ag_201 sz_201
theorem sz_209:SZ 209 2:=nA
theorem ag_209:AG 209 true:=lX
theorem ag_210:AG 210 false:=lX
@[simp] theorem ud : LD 210 := pz ag_210
theorem ag_212:AG 212 false:=lX
@[simp] theorem ld_212 : LD 212 := pz ag_212
theorem sz_229:SZ 229 1:=nA
theorem ag_229:AG 229 false:=lX
@[simp] theorem ld_229 : LD 229 := pz ag_229
theorem sz_231:SZ 231 4:=nA
theorem ag_231:AG 231 true:=lX
theorem sz_234:SZ 234 1:=nA
theorem ag_234:AG 234 false:=lX
@[simp] theorem ld_234 : LD 234 := pz ag_234
theorem sz_235:SZ 235 1:=nA
theorem ag_235:AG 235 false:=lX
@[simp] theorem ld_235 : LD 235 := pz ag_235
theorem ag_239:AG 239 false:=lX
@[simp] theorem ld_239 : LD 239 := pz ag_239
theorem sz_240:SZ 240 1:=nA
theorem ag_240:AG 240 false:=lX
@[simp] theorem ld_240 : LD 240 := pz ag_240
theorem sz_241:SZ 241 1:=nA
theorem ag_241:AG 241 false:=lX
@[simp] theorem ld_241 : LD 241 := pz ag_241
theorem ag_244:AG 244 false:=lX
@[simp] theorem ld_244 : LD 244 := pz ag_244
theorem sz_250:SZ 250 8:=nA
theorem ag_250:AG 250 true:=lX
theorem ld_250:LA 250 8:=lak ag_250 sz_250
theorem sz_256:SZ 256 2:=nA
theorem ag_256:AG 256 true:=lX
theorem ld_256:LA 256 2:=lak ag_256 sz_256
theorem hC:SV 3:=svk aE
theorem st_4:SV 4:=svk mQ
theorem sj:SV 22:=svk sz_22
theorem st_25:SA 25 6:=sak sz_25
theorem st_32:SA 32 5:=sak ma
theorem og:SV 33:=svk sz_33
theorem st_35:SA 35 8:=sak sz_35
theorem st_37:SA 37 6:=sak nZ
theorem st_39:SA 39 20:=sak sz_39
theorem st_76:SV 76:=svk sz_76
theorem st_86:SV 86:=svk sz_86
theorem st_87:SV 87:=svk sz_87
theorem st_88:SV 88:=svk sz_88
theorem st_90:SA 90 10:=sak sz_90
theorem st_96:SA 96 2:=sak sz_96
theorem st_97:SV 97:=svk sz_97
theorem st_99:SA 99 7:=sak sz_99
theorem st_116:SV 116:=svk sz_116
theorem st_134:SV 134:=svk sz_134
theorem st_139:SV 139:=svk sz_139
theorem st_142:SA 142 2:=sak sz_142
theorem st_161:SV 161:=svk sz_161
theorem st_179:SV 179:=svk sz_179
theorem st_180:SV 180:=svk sz_180
theorem st_193:SA 193 5:=sak sz_193
theorem st_201:SA 201 4:=sak sz_201
theorem st_209:SA 209 2:=sak sz_209
theorem st_229:SV 229:=svk sz_229
theorem st_231:SA 231 4:=sak sz_231
theorem st_250:SA 250 8:=sak sz_250
@[simp] theorem al_25 : AL 25 #[bS 0, bS 0, bS 0, bS 0, bS 0, bS 0] := alk
@[simp] theorem al_32 : AL 32 #[bS 0, bS 0, bS 0, bS 0, bS 0] := alk
@[simp] theorem sn : AL 35 #[bS 0, bS 0, bS 0, bS 0, bS 0, bS 0, bS 0, bT 0] := alk
@[simp] theorem al_37 : AL 37 #[bS 0, bS 0, bS 0, bS 0, bT 0, bT 0] := alk
@[simp] theorem al_39 : AL 39 #[bS 0, bS 0, bS 0, bS 0, bS 0, bS 0, bT 0, bT 0, bS 0, bS 0, bS 0, bS 0, bS 0, bS 0, bS 0, bS 0, bS 0, bS 0, bS 0, bT 0] := alk
@[simp] theorem al_90 : AL 90 #[bS 0, bS 0, bS 0, bS 0, bS 0, bS 0, .bool false, .slice none 0 0, .slice none 0 0, .slice none 0 0] := alk
@[simp] theorem al_96 : AL 96 #[bS 0, bS 0] := alk
@[simp] theorem al_99 : AL 99 #[bS 0, bS 0, bS 0, bS 0, .slice none 0 0, .slice none 0 0, .slice none 0 0] := alk
@[simp] theorem al_142 : AL 142 #[bS 0, bS 0] := alk
@[simp] theorem al_193 : AL 193 #[.string { data := #[] }, bS 0, .bool false, .bool false, .bool false] := alk
@[simp] theorem al_201 : AL 201 #[bS 0, bS 0, bS 0, bS 0] := alk
@[simp] theorem al_209 : AL 209 #[bS 0, bS 0] := alk
@[simp] theorem ue : AL 231 #[bS 0, bS 0, bS 0, bS 0] := alk
@[simp] theorem al_250 : AL 250 #[bS 0, bS 0, bS 0, bS 0, .bool false, .slice none 0 0, .slice none 0 0, .slice none 0 0] := alk
@[simp] theorem bd_25_0_1_2_3_4_5 {x0 : Int} {x1 : Int} {x2 : Int} {x3 : Int} {x4 : Int} {x5 : Int} : BD 25 #[(0, (bS x0)), (1, (bS x1)), (2, (bS x2)), (3, (bS x3)), (4, (bS x4)), (5, (bS x5))] #[(bS x0), (bS x1), (bS x2), (bS x3), (bS x4), (bS x5)] := kH
@[simp] theorem bd_25_0_1_2_3_5 {x0 : Int} {x1 : Int} {x2 : Int} {x3 : Int} {x5 : Int} : BD 25 #[(0, (bS x0)), (1, (bS x1)), (2, (bS x2)), (3, (bS x3)), (5, (bS x5))] #[(bS x0), (bS x1), (bS x2), (bS x3), (bS 0), (bS x5)] := kH
@[simp] theorem bd_32_0_1 {x0 : Int} {x1 : Int} : BD 32 #[(0, (bS x0)), (1, (bS x1))] #[(bS x0), (bS x1), (bS 0), (bS 0), (bS 0)] := kH
@[simp] theorem bd_32_0_1_2_3_4 {x0 : Int} {x1 : Int} {x2 : Int} {x3 : Int} {x4 : Int} : BD 32 #[(0, (bS x0)), (1, (bS x1)), (2, (bS x2)), (3, (bS x3)), (4, (bS x4))] #[(bS x0), (bS x1), (bS x2), (bS x3), (bS x4)] := kH
@[simp] theorem tK {x0 : Int} {x1 : Int} {x2 : Int} {x4 : Int} : BD 32 #[(0, (bS x0)), (1, (bS x1)), (2, (bS x2)), (4, (bS x4))] #[(bS x0), (bS x1), (bS x2), (bS 0), (bS x4)] := kH
@[simp] theorem bd_35_  : BD 35 #[] #[(bS 0), (bS 0), (bS 0), (bS 0), (bS 0), (bS 0), (bS 0), (bT 0)] := kH
@[simp] theorem bd_35_0 {x0 : Int} : BD 35 #[(0, (bS x0))] #[(bS x0), (bS 0), (bS 0), (bS 0), (bS 0), (bS 0), (bS 0), (bT 0)] := kH
@[simp] theorem bd_35_0_1 {x0 : Int} {a b c d e : Value} : BD 35 #[(0, (bS x0)), (1, (.agg #[a, b, c, d, e]))] #[(bS x0), a, b, c, d, e, (bS 0), (bT 0)] := kH
@[simp] theorem bd_35_0_2 {x0 : Int} {x2 : Int} : BD 35 #[(0, (bS x0)), (2, (bS x2))] #[(bS x0), (bS 0), (bS 0), (bS 0), (bS 0), (bS 0), (bS x2), (bT 0)] := kH
@[simp] theorem bd_35_1 {a b c d e : Value} : BD 35 #[(1, (.agg #[a, b, c, d, e]))] #[(bS 0), a, b, c, d, e, (bS 0), (bT 0)] := kH
@[simp] theorem bd_35_2 {x2 : Int} : BD 35 #[(2, (bS x2))] #[(bS 0), (bS 0), (bS 0), (bS 0), (bS 0), (bS 0), (bS x2), (bT 0)] := kH
@[simp] theorem bd_35_3 {x3 : Int} : BD 35 #[(3, (bT x3))] #[(bS 0), (bS 0), (bS 0), (bS 0), (bS 0), (bS 0), (bS 0), (bT x3)] := kH
@[simp] theorem bd_37_0 {x0 : Int} : BD 37 #[(0, (bS x0))] #[(bS x0), (bS 0), (bS 0), (bS 0), (bT 0), (bT 0)] := kH
@[simp] theorem bd_37_1_2 {x1 : Int} {x2 : Int} : BD 37 #[(1, (bS x1)), (2, (bS x2))] #[(bS 0), (bS x1), (bS x2), (bS 0), (bT 0), (bT 0)] := kH
@[simp] theorem tB {x0 : Int} {x1 : Int} {a b c d e f : Value} {x3 : Int} {x4 : Int} {x5 : Int} {x6 : Int} : BD 39 #[(0, (bS x0)), (1, (bS x1)), (2, (.agg #[a, b, c, d, e, f])), (3, (bS x3)), (4, (bS x4)), (5, (bS x5)), (6, (bS x6))] #[(bS x0), (bS x1), a, b, c, d, e, f, (bS x3), (bS x4), (bS x5), (bS x6), (bS 0), (bS 0), (bS 0), (bS 0), (bS 0), (bS 0), (bS 0), (bT 0)] := kH
@[simp] theorem bd_39_2_4_5_6 {a b c d e f : Value} {x4 : Int} {x5 : Int} {x6 : Int} : BD 39 #[(2, (.agg #[a, b, c, d, e, f])), (4, (bS x4)), (5, (bS x5)), (6, (bS x6))] #[(bS 0), (bS 0), a, b, c, d, e, f, (bS 0), (bS x4), (bS x5), (bS x6), (bS 0), (bS 0), (bS 0), (bS 0), (bS 0), (bS 0), (bS 0), (bT 0)] := kH
@[simp] theorem bd_78_0_1 {a b c d e f : Value} {x1 : Option Addr} : BD 78 #[(0, (.agg #[a, b, c, d, e, f])), (1, (.pointer x1))] #[a, b, c, d, e, f, (.pointer x1), (.slice none 0 0), (.slice none 0 0), (.slice none 0 0), (.slice none 0 0), (.slice none 0 0), (.slice none 0 0), (bS 0)] := kH
@[simp] theorem bd_84_0_4 {x0 : Option Addr} {a b : Nat} {x4 : Int} : BD 84 #[(0, (.slice x0 a b)), (4, (bS x4))] #[(.slice x0 a b), (.slice none 0 0), (.slice none 0 0), (bS 0), (bS x4), (.bool false)] := kH
@[simp] theorem bd_90_0_2_4 {a b c d e f : Value} {x2 : Option Addr} {g i : Nat} {x4 : Option Addr} {j k : Nat} : BD 90 #[(0, (.agg #[a, b, c, d, e, f])), (2, (.slice x2 g i)), (4, (.slice x4 j k))] #[a, b, c, d, e, f, (.bool false), (.slice x2 g i), (.slice none 0 0), (.slice x4 j k)] := kH
@[simp] theorem bd_96_0_1 {x0 : Int} {x1 : Int} : BD 96 #[(0, (bS x0)), (1, (bS x1))] #[(bS x0), (bS x1)] := kH
@[simp] theorem bd_99_0_1 {a b : Value} {x1 : Int} : BD 99 #[(0, (.agg #[a, b])), (1, (bS x1))] #[a, b, (bS x1), (bS 0), (.slice none 0 0), (.slice none 0 0), (.slice none 0 0)] := kH
@[simp] theorem bd_114_0 {x0 : Option Addr} {a b : Nat} : BD 114 #[(0, (.slice x0 a b))] #[(.slice x0 a b), (bS 0)] := kH
@[simp] theorem bd_123_0_1 {x0 : Option Addr} {a b : Nat} {x1 : Int} : BD 123 #[(0, (.slice x0 a b)), (1, (bS x1))] #[(.slice x0 a b), (bS x1), (.bool false)] := kH
@[simp] theorem bd_142_0_1 {x0 : Int} {x1 : Int} : BD 142 #[(0, (bS x0)), (1, (bS x1))] #[(bS x0), (bS x1)] := kH
@[simp] theorem bd_153_0_1 {a b c d e f : Value} {x1 : Option Addr} : BD 153 #[(0, (.agg #[a, b, c, d, e, f])), (1, (.pointer x1))] #[a, b, c, d, e, f, (.pointer x1), (.pointer none), (.pointer none), (.pointer none)] := kH
@[simp] theorem sp {x0 : Option Addr} {x1 : Int} {x2 : Int} {x3 : Int} : BD 156 #[(0, (.pointer x0)), (1, (bS x1)), (2, (bS x2)), (3, (bS x3))] #[(.pointer x0), (bS x1), (bS x2), (bS x3)] := kH
@[simp] theorem bd_158_0_1_2_3 {x0 : Option Addr} {x1 : Int} {x2 : Int} {x3 : Int} : BD 158 #[(0, (.pointer x0)), (1, (bS x1)), (2, (bS x2)), (3, (bS x3))] #[(.pointer x0), (bS x1), (bS x2), (bS x3)] := kH
@[simp] theorem bd_172_0_1_2 {x0 : Option Addr} {x1 : Int} {x2 : Option Addr} : BD 172 #[(0, (.pointer x0)), (1, (bS x1)), (2, (.pointer x2))] #[(.pointer x0), (bS x1), (.pointer x2), (bS 0), (.slice none 0 0), (.bool false), (bS 0), (bS 0), (bS 0), (bS 0), (bT 0), (bT 0), (bS 0), (bS 0), (bS 0), (bS 0), (bS 0), (bS 0), (bS 0), (bS 0), (bS 0), (bS 0), (bS 0), (bS 0), (bS 0), (bS 0), (bS 0), (bT 0), (.pointer none), (.pointer none), (.pointer none), (.pointer none), (.pointer none), (.pointer none), (.pointer none)] := kH
@[simp] theorem bd_182_0_1_2_3_5 {a b c d e f : Value} {x1 : Bool} {x2 : Option Addr} {g i : Nat} {x3 : Option Addr} {j k : Nat} {x5 : Option Addr} {l m : Nat} : BD 182 #[(0, (.agg #[a, b, c, d, e, f])), (1, (.bool x1)), (2, (.slice x2 g i)), (3, (.slice x3 j k)), (5, (.slice x5 l m))] #[a, b, c, d, e, f, (.bool x1), (.slice x2 g i), (.slice x3 j k), (.slice none 0 0), (.slice x5 l m), (.slice none 0 0)] := kH
@[simp] theorem uf {a b c d e f : Value} {x1 : Bool} {x2 : Option Addr} {g i : Nat} {x3 : Option Addr} {j k : Nat} {x5 : Option Addr} {l m : Nat} {x6 : Option Addr} {n o : Nat} : BD 182 #[(0, (.agg #[a, b, c, d, e, f])), (1, (.bool x1)), (2, (.slice x2 g i)), (3, (.slice x3 j k)), (5, (.slice x5 l m)), (6, (.slice x6 n o))] #[a, b, c, d, e, f, (.bool x1), (.slice x2 g i), (.slice x3 j k), (.slice none 0 0), (.slice x5 l m), (.slice x6 n o)] := kH
@[simp] theorem bd_193_  : BD 193 #[] #[(.string { data := #[] }), (bS 0), (.bool false), (.bool false), (.bool false)] := kH
@[simp] theorem bd_193_0 {x0 : ByteArray} : BD 193 #[(0, (.string x0))] #[(.string x0), (bS 0), (.bool false), (.bool false), (.bool false)] := kH
@[simp] theorem bd_193_0_1 {x0 : ByteArray} {x1 : Int} : BD 193 #[(0, (.string x0)), (1, (bS x1))] #[(.string x0), (bS x1), (.bool false), (.bool false), (.bool false)] := kH
@[simp] theorem bd_193_0_1_2 {x0 : ByteArray} {x1 : Int} {x2 : Bool} : BD 193 #[(0, (.string x0)), (1, (bS x1)), (2, (.bool x2))] #[(.string x0), (bS x1), (.bool x2), (.bool false), (.bool false)] := kH
@[simp] theorem bd_193_0_1_2_3 {x0 : ByteArray} {x1 : Int} {x2 : Bool} {x3 : Bool} : BD 193 #[(0, (.string x0)), (1, (bS x1)), (2, (.bool x2)), (3, (.bool x3))] #[(.string x0), (bS x1), (.bool x2), (.bool x3), (.bool false)] := kH
@[simp] theorem bd_193_0_1_2_3_4 {x0 : ByteArray} {x1 : Int} {x2 : Bool} {x3 : Bool} {x4 : Bool} : BD 193 #[(0, (.string x0)), (1, (bS x1)), (2, (.bool x2)), (3, (.bool x3)), (4, (.bool x4))] #[(.string x0), (bS x1), (.bool x2), (.bool x3), (.bool x4)] := kH
@[simp] theorem bd_193_0_2 {x0 : ByteArray} {x2 : Bool} : BD 193 #[(0, (.string x0)), (2, (.bool x2))] #[(.string x0), (bS 0), (.bool x2), (.bool false), (.bool false)] := kH
@[simp] theorem bd_201_0_1_2_3 {x0 : Int} {x1 : Int} {x2 : Int} {x3 : Int} : BD 201 #[(0, (bS x0)), (1, (bS x1)), (2, (bS x2)), (3, (bS x3))] #[(bS x0), (bS x1), (bS x2), (bS x3)] := kH
@[simp] theorem bd_204_0 {x0 : Option Addr} {a b : Nat} : BD 204 #[(0, (.slice x0 a b))] #[(.slice x0 a b), (bS 0)] := kH
@[simp] theorem bd_209_0 {x0 : Int} : BD 209 #[(0, (bS x0))] #[(bS x0), (bS 0)] := kH
@[simp] theorem bd_209_0_1 {x0 : Int} {x1 : Int} : BD 209 #[(0, (bS x0)), (1, (bS x1))] #[(bS x0), (bS x1)] := kH
@[simp] theorem bd_215_0_1_2 {x0 : Option Addr} {x1 : Option Addr} {x2 : Option Addr} : BD 215 #[(0, (.pointer x0)), (1, (.pointer x1)), (2, (.pointer x2))] #[(.pointer x0), (.pointer x1), (.pointer x2)] := kH
@[simp] theorem bd_220_0_1 {x0 : Option Addr} {x1 : Int} : BD 220 #[(0, (.pointer x0)), (1, (bS x1))] #[(.pointer x0), (bS x1), (bS 0), (bS 0), (.bool false)] := kH
@[simp] theorem bd_224_0_1 {x0 : Option Addr} {x1 : Int} : BD 224 #[(0, (.pointer x0)), (1, (bS x1))] #[(.pointer x0), (bS x1), (.bool false)] := kH
@[simp] theorem bd_226_0_1_2 {x0 : Option Addr} {x1 : Int} {x2 : Int} : BD 226 #[(0, (.pointer x0)), (1, (bS x1)), (2, (bS x2))] #[(.pointer x0), (bS x1), (bS x2), (bS 0), (bS 0), (.bool false)] := kH
@[simp] theorem bd_231_0 {x0 : Int} : BD 231 #[(0, (bS x0))] #[(bS x0), (bS 0), (bS 0), (bS 0)] := kH
@[simp] theorem bd_231_0_1_2 {x0 : Int} {x1 : Int} {x2 : Int} : BD 231 #[(0, (bS x0)), (1, (bS x1)), (2, (bS x2))] #[(bS x0), (bS x1), (bS x2), (bS 0)] := kH
@[simp] theorem bd_231_0_1_2_3 {x0 : Int} {x1 : Int} {x2 : Int} {x3 : Int} : BD 231 #[(0, (bS x0)), (1, (bS x1)), (2, (bS x2)), (3, (bS x3))] #[(bS x0), (bS x1), (bS x2), (bS x3)] := kH
@[simp] theorem bd_233_0_1_7 {x0 : Option Addr} {x1 : Int} {x7 : Option Addr} : BD 233 #[(0, (.pointer x0)), (1, (bS x1)), (7, (.pointer x7))] #[(.pointer x0), (bS x1), (bS 0), (bS 0), (bS 0), (bS 0), (bS 0), (.pointer x7), (bS 0), (bS 0), (bS 0), (bS 0), (bS 0), (.bool false)] := kH
@[simp] theorem bd_237_0_1_2_3_8 {x0 : Option Addr} {x1 : Int} {x2 : Int} {x3 : Int} {x8 : Int} : BD 237 #[(0, (.pointer x0)), (1, (bS x1)), (2, (bS x2)), (3, (bS x3)), (8, (bS x8))] #[(.pointer x0), (bS x1), (bS x2), (bS x3), (bS 0), (bS 0), (bS 0), (bS 0), (bS x8), (bS 0), (bT 0), (.pointer none), (.pointer none), (bS 0), (bS 0), (bS 0), (bS 0), (bS 0), (bS 0), (.bool false), (.bool false)] := kH
@[simp] theorem bd_243_0_6 {x0 : Option Addr} {x6 : Option Addr} : BD 243 #[(0, (.pointer x0)), (6, (.pointer x6))] #[(.pointer x0), (bS 0), (bS 0), (bS 0), (bS 0), (bS 0), (.pointer x6), (.pointer none), (.pointer none), (.pointer none), (bS 0), (.bool false)] := kH
@[simp] theorem bd_246_0_2 {x0 : Option Addr} {x2 : Option Addr} : BD 246 #[(0, (.pointer x0)), (2, (.pointer x2))] #[(.pointer x0), (bS 0), (.pointer x2), (.pointer none), (.bool false), (.bool false)] := kH
@[simp] theorem bd_250_0_1_2_4 {x0 : Int} {x1 : Int} {x2 : Int} {x4 : Bool} : BD 250 #[(0, (bS x0)), (1, (bS x1)), (2, (bS x2)), (4, (.bool x4))] #[(bS x0), (bS x1), (bS x2), (bS 0), (.bool x4), (.slice none 0 0), (.slice none 0 0), (.slice none 0 0)] := kH
@[simp] theorem ug {x0 : Int} {x1 : Int} : BD 256 #[(0, (bS x0)), (1, (bS x1))] #[(bS x0), (bS x1)] := kH
@[simp] theorem bd_258_0 {x0 : Int} : BD 258 #[(0, (bS x0))] #[(bS x0), (.slice none 0 0)] := kH
@[simp] theorem bd_262_2 {x2 : Int} : BD 262 #[(2, (bS x2))] #[(bS 0), (bS 0), (bS 0), (.slice none 0 0), (.slice none 0 0), (.slice none 0 0), (bS x2)] := kH
@[simp] theorem bd_268_0 {x0 : Option Addr} : BD 268 #[(0, (.pointer x0))] #[(.pointer x0), (bS 0), (bT 0), (.bool false), (.bool false)] := kH
@[simp] theorem bd_270_0_1 {x0 : Option Addr} {x1 : Int} : BD 270 #[(0, (.pointer x0)), (1, (bS x1))] #[(.pointer x0), (bS x1), (bS 0), (bS 0), (bT 0), (.slice none 0 0), (.bool false)] := kH
@[simp] theorem bd_279_0_2_3 {x0 : Option Addr} {x2 : Int} {x3 : Int} : BD 279 #[(0, (.pointer x0)), (2, (bS x2)), (3, (bS x3))] #[(.pointer x0), (bS 0), (bS x2), (bS x3), (.pointer none), (.bool false)] := kH
@[simp] theorem bd_282_0_1_2 {x0 : Option Addr} {x1 : Option Addr} {a b : Nat} {x2 : Bool} : BD 282 #[(0, (.pointer x0)), (1, (.slice x1 a b)), (2, (.bool x2))] #[(.pointer x0), (.slice x1 a b), (.bool x2)] := kH
@[simp] theorem bd_287_0_1_2_6 {x0 : Option Addr} {x1 : Int} {x2 : Int} {x6 : Int} : BD 287 #[(0, (.pointer x0)), (1, (bS x1)), (2, (bS x2)), (6, (bS x6))] #[(.pointer x0), (bS x1), (bS x2), (bS 0), (bS 0), (bS 0), (bS x6), (bT 0), (bS 0), (.bool false)] := kH
@[simp] theorem bd_290_0_1 {x0 : Option Addr} {x1 : Option Addr} {a b : Nat} : BD 290 #[(0, (.pointer x0)), (1, (.slice x1 a b))] #[(.pointer x0), (.slice x1 a b), (.bool false)] := kH
@[simp] theorem bd_293_0_1_4 {x0 : Option Addr} {x1 : Option Addr} {a b : Nat} {x4 : Bool} : BD 293 #[(0, (.pointer x0)), (1, (.slice x1 a b)), (4, (.bool x4))] #[(.pointer x0), (.slice x1 a b), (bS 0), (bT 0), (.bool x4)] := kH
theorem mR:IF 3 (bS 0) 1 8:=⟨Tryz.t3,dA,rfl,rfl,rfl⟩
theorem inf_39:IF 39 (.agg #[bS 0,bS 0,bS 0,bS 0,bS 0,bS 0,bT 0,bT 0,bS 0,bS 0,bS 0,bS 0,bS 0,bS 0,bS 0,bS 0,bS 0,bS 0,bS 0,bT 0]) 20 160:=⟨Tryz.t39,dA,rfl,rfl,rfl⟩
theorem inf_116:IF 116 (.slice none 0 0) 1 24:=⟨Tryz.t116,dA,rfl,rfl,rfl⟩
theorem inf_118:IF 118 (.pointer none) 1 8:=⟨Tryz.t118,dA,rfl,rfl,rfl⟩
theorem inf_32:IF 32 (.agg #[bS 0,bS 0,bS 0,bS 0,bS 0]) 5 40:=⟨Tryz.t32,dA,rfl,rfl,rfl⟩
theorem inf_142:IF 142 (.agg #[bS 0,bS 0]) 2 16:=⟨Tryz.t142,dA,rfl,rfl,rfl⟩
theorem inf_99:IF 99 (.agg #[bS 0,bS 0,bS 0,bS 0,.slice none 0 0,.slice none 0 0,.slice none 0 0]) 7 104:=⟨Tryz.t99,dA,rfl,rfl,rfl⟩
theorem inf_136:IF 136 (.agg #[bS 0,.slice none 0 0]) 2 32:=⟨Tryz.t136,dA,rfl,rfl,rfl⟩
theorem inf_139:IF 139 (.slice none 0 0) 1 24:=⟨Tryz.t139,dA,rfl,rfl,rfl⟩
theorem inf_37:IF 37 (.agg #[bS 0,bS 0,bS 0,bS 0,bT 0,bT 0]) 6 48:=⟨Tryz.t37,dA,rfl,rfl,rfl⟩
theorem inf_96:IF 96 (.agg #[bS 0,bS 0]) 2 16:=⟨Tryz.t96,dA,rfl,rfl,rfl⟩
theorem inf_33:IF 33 (bT 0) 1 8:=⟨Tryz.t33,dA,rfl,rfl,rfl⟩
theorem inf_256:IF 256 (.agg #[bS 0,bS 0]) 2 16:=⟨Tryz.t256,dA,rfl,rfl,rfl⟩
theorem inf_250:IF 250 (.agg #[bS 0,bS 0,bS 0,bS 0,.bool false,.slice none 0 0,.slice none 0 0,.slice none 0 0]) 8 112:=⟨Tryz.t250,dA,rfl,rfl,rfl⟩
theorem inf_161:IF 161 (.slice none 0 0) 1 24:=⟨Tryz.t161,dA,rfl,rfl,rfl⟩
theorem ps_22{x0:Int}{x:Value}{base n:Nat}{xs:List Value}(d:∀u∈([(bS x0)]:List Value),u.oneCell'=true)(b:w.ownsRow base 3 1 x n xs)(k:n+1<=1048577)(a:base<=w.heap.size)(e:∀x' c,c.ownsRow base 3 1 x' (n+1) (xs++ [(bS x0)])->w.grownBy c x.ownBlock->iB w x x'->K x' c):
  dF prog (Instr.buildSlice 22 1 #[(0,(bS x0))]) w λy w1=>dF prog (Builtin.append_ #[22,22] 22 #[x,y]) w1 K:=by
 obtain⟨i,f,g,j,hb⟩:=mR;exact gK (cs:= [(bS x0)]) Tryz.underlying22 f g j rfl dz dz dA rfl d b (by unfold maxLen;omega) (by rw[hb];omega) a e
@[simp] theorem bs_22_1 {x0 : Int} : dF prog (Instr.buildSlice 22 1 #[(0, (bS x0))]) w K = K (.slice (some ⟨w.heap.size, 0, none⟩) 1 1) (w.alloc (.cells #[(bS x0)] 3)) := by
 obtain⟨i,a,b,c,hb⟩:=mR;exact fe (z:=1) Tryz.underlying22 a b c dz dz dA
@[simp] theorem bs_22_2 {x0 : Int} {x1 : Int} : dF prog (Instr.buildSlice 22 2 #[(0, (bS x0)), (1, (bS x1))]) w K = K (.slice (some ⟨w.heap.size, 0, none⟩) 2 2) (w.alloc (.cells #[(bS x0), (bS x1)] 3)) := by
 obtain⟨i,a,b,c,hb⟩:=mR;exact fe (z:=1) Tryz.underlying22 a b c dz dz dA
@[simp] theorem bs_22_4 {x0 : Int} {x1 : Int} {x2 : Int} {x3 : Int} : dF prog (Instr.buildSlice 22 4 #[(0, (bS x0)), (1, (bS x1)), (2, (bS x2)), (3, (bS x3))]) w K = K (.slice (some ⟨w.heap.size, 0, none⟩) 4 4) (w.alloc (.cells #[(bS x0), (bS x1), (bS x2), (bS x3)] 3)) := by
 obtain⟨i,a,b,c,hb⟩:=mR;exact fe (z:=1) Tryz.underlying22 a b c dz dz dA
@[simp] theorem bs_22_6 {x0 : Int} {x1 : Int} {x2 : Int} {x3 : Int} {x4 : Int} {x5 : Int} : dF prog (Instr.buildSlice 22 6 #[(0, (bS x0)), (1, (bS x1)), (2, (bS x2)), (3, (bS x3)), (4, (bS x4)), (5, (bS x5))]) w K = K (.slice (some ⟨w.heap.size, 0, none⟩) 6 6) (w.alloc (.cells #[(bS x0), (bS x1), (bS x2), (bS x3), (bS x4), (bS x5)] 3)) := by
 obtain⟨i,a,b,c,hb⟩:=mR;exact fe (z:=1) Tryz.underlying22 a b c dz dz dA
@[simp] theorem bs_22_9 {x0 : Int} {x1 : Int} {x2 : Int} {x3 : Int} {x4 : Int} {x5 : Int} {x6 : Int} {x7 : Int} {x8 : Int} : dF prog (Instr.buildSlice 22 9 #[(0, (bS x0)), (1, (bS x1)), (2, (bS x2)), (3, (bS x3)), (4, (bS x4)), (5, (bS x5)), (6, (bS x6)), (7, (bS x7)), (8, (bS x8))]) w K = K (.slice (some ⟨w.heap.size, 0, none⟩) 9 9) (w.alloc (.cells #[(bS x0), (bS x1), (bS x2), (bS x3), (bS x4), (bS x5), (bS x6), (bS x7), (bS x8)] 3)) := by
 obtain⟨i,a,b,c,hb⟩:=mR;exact fe (z:=1) Tryz.underlying22 a b c dz dz dA
@[simp] theorem bs_22_23 {x0 : Int} {x1 : Int} {x2 : Int} {x3 : Int} {x4 : Int} {x5 : Int} {x6 : Int} {x7 : Int} {x8 : Int} {x9 : Int} {gG : Int} {iZ : Int} {oU : Int} {x13 : Int} {x14 : Int} {x15 : Int} {x16 : Int} {x17 : Int} {x18 : Int} {x19 : Int} {x20 : Int} {x21 : Int} {x22 : Int} : dF prog (Instr.buildSlice 22 23 #[(0, (bS x0)), (1, (bS x1)), (2, (bS x2)), (3, (bS x3)), (4, (bS x4)), (5, (bS x5)), (6, (bS x6)), (7, (bS x7)), (8, (bS x8)), (9, (bS x9)), (10, (bS gG)), (11, (bS iZ)), (12, (bS oU)), (13, (bS x13)), (14, (bS x14)), (15, (bS x15)), (16, (bS x16)), (17, (bS x17)), (18, (bS x18)), (19, (bS x19)), (20, (bS x20)), (21, (bS x21)), (22, (bS x22))]) w K = K (.slice (some ⟨w.heap.size, 0, none⟩) 23 23) (w.alloc (.cells #[(bS x0), (bS x1), (bS x2), (bS x3), (bS x4), (bS x5), (bS x6), (bS x7), (bS x8), (bS x9), (bS gG), (bS iZ), (bS oU), (bS x13), (bS x14), (bS x15), (bS x16), (bS x17), (bS x18), (bS x19), (bS x20), (bS x21), (bS x22)] 3)) := by
 obtain⟨i,a,b,c,hb⟩:=mR;exact fe (z:=1) Tryz.underlying22 a b c dz dz dA
theorem ps_26{m o p q r s t v z A a b c d e f g j k l:Value}{x:Value}{base n:Nat}{xs:List Value}(E:∀u∈([m,o,p,q,r,s,t,v,z,A,a,b,c,d,e,f,g,j,k,l]:List Value),u.oneCell'=true)(C:w.ownsRow base 39 20 x n xs)(J:n+1<=1048577)(B:base<=w.heap.size)(F:∀x' D,D.ownsRow base 39 20 x' (n+1) (xs++ [m,o,p,q,r,s,t,v,z,A,a,b,c,d,e,f,g,j,k,l])->w.grownBy D x.ownBlock->iB w x x'->K x' D):
  dF prog (Instr.buildSlice 26 1 #[(0,(.agg #[m,o,p,q,r,s,t,v,z,A,a,b,c,d,e,f,g,j,k,l]))]) w λy w1=>dF prog (Builtin.append_ #[26,26] 26 #[x,y]) w1 K:=by
 obtain⟨i,G,H,I,hb⟩:=inf_39;exact gK (cs:= [m,o,p,q,r,s,t,v,z,A,a,b,c,d,e,f,g,j,k,l]) Tryz.underlying26 G H I rfl dz dz dA rfl E C (by unfold maxLen;omega) (by rw[hb];omega) B F
@[simp] theorem bs_26_1 {m n o p q r s t u v a b c d e f g j k l : Value} : dF prog (Instr.buildSlice 26 1 #[(0, (.agg #[m, n, o, p, q, r, s, t, u, v, a, b, c, d, e, f, g, j, k, l]))]) w K = K (.slice (some ⟨w.heap.size, 0, none⟩) 1 1) (w.alloc (.cells #[m, n, o, p, q, r, s, t, u, v, a, b, c, d, e, f, g, j, k, l] 39)) := by
 obtain⟨i,x,y,A,hb⟩:=inf_39;exact fe (z:=20) Tryz.underlying26 x y A dz dz dA
theorem ps_70{x0:Option Addr}{c d:Nat}{x:Value}{base n:Nat}{xs:List Value}(f:∀u∈([(.slice x0 c d)]:List Value),u.oneCell'=true)(b:w.ownsRow base 116 1 x n xs)(m:n+1<=1048577)(a:base<=w.heap.size)(g:∀x' e,e.ownsRow base 116 1 x' (n+1) (xs++ [(.slice x0 c d)])->w.grownBy e x.ownBlock->iB w x x'->K x' e):
  dF prog (Instr.buildSlice 70 1 #[(0,(.slice x0 c d))]) w λy w1=>dF prog (Builtin.append_ #[70,70] 70 #[x,y]) w1 K:=by
 obtain⟨i,j,k,l,hb⟩:=inf_116;exact gK (cs:= [(.slice x0 c d)]) Tryz.underlying70 j k l rfl dz dz dA rfl f b (by unfold maxLen;omega) (by rw[hb];omega) a g
theorem ps_75{x0:Option Addr}{x:Value}{base n:Nat}{xs:List Value}(d:∀u∈([(.pointer x0)]:List Value),u.oneCell'=true)(b:w.ownsRow base 118 1 x n xs)(k:n+1<=1048577)(a:base<=w.heap.size)(e:∀x' c,c.ownsRow base 118 1 x' (n+1) (xs++ [(.pointer x0)])->w.grownBy c x.ownBlock->iB w x x'->K x' c):
  dF prog (Instr.buildSlice 75 1 #[(0,(.pointer x0))]) w λy w1=>dF prog (Builtin.append_ #[75,75] 75 #[x,y]) w1 K:=by
 obtain⟨i,f,g,j,hb⟩:=inf_118;exact gK (cs:= [(.pointer x0)]) Tryz.underlying75 f g j rfl dz dz dA rfl d b (by unfold maxLen;omega) (by rw[hb];omega) a e
theorem ps_76{a b c d e:Value}{x:Value}{base n:Nat}{xs:List Value}(k:∀u∈([a,b,c,d,e]:List Value),u.oneCell'=true)(g:w.ownsRow base 32 5 x n xs)(q:n+1<=1048577)(f:base<=w.heap.size)(l:∀x' j,j.ownsRow base 32 5 x' (n+1) (xs++ [a,b,c,d,e])->w.grownBy j x.ownBlock->iB w x x'->K x' j):
  dF prog (Instr.buildSlice 76 1 #[(0,(.agg #[a,b,c,d,e]))]) w λy w1=>dF prog (Builtin.append_ #[76,76] 76 #[x,y]) w1 K:=by
 obtain⟨i,m,o,p,hb⟩:=inf_32;exact gK (cs:= [a,b,c,d,e]) Tryz.underlying76 m o p rfl dz dz dA rfl k g (by unfold maxLen;omega) (by rw[hb];omega) f l
theorem ps_87{a b c d e f g:Value}{x:Value}{base n:Nat}{xs:List Value}(m:∀u∈([a,b,c,d,e,f,g]:List Value),u.oneCell'=true)(k:w.ownsRow base 99 7 x n xs)(s:n+1<=1048577)(j:base<=w.heap.size)(o:∀x' l,l.ownsRow base 99 7 x' (n+1) (xs++ [a,b,c,d,e,f,g])->w.grownBy l x.ownBlock->iB w x x'->K x' l):
  dF prog (Instr.buildSlice 87 1 #[(0,(.agg #[a,b,c,d,e,f,g]))]) w λy w1=>dF prog (Builtin.append_ #[87,87] 87 #[x,y]) w1 K:=by
 obtain⟨i,p,q,r,hb⟩:=inf_99;exact gK (cs:= [a,b,c,d,e,f,g]) Tryz.underlying87 p q r rfl dz dz dA rfl m k (by unfold maxLen;omega) (by rw[hb];omega) j o
theorem ps_97{x0:Option Addr}{c d:Nat}{x:Value}{base n:Nat}{xs:List Value}(f:∀u∈([(.slice x0 c d)]:List Value),u.oneCell'=true)(b:w.ownsRow base 139 1 x n xs)(m:n+1<=1048577)(a:base<=w.heap.size)(g:∀x' e,e.ownsRow base 139 1 x' (n+1) (xs++ [(.slice x0 c d)])->w.grownBy e x.ownBlock->iB w x x'->K x' e):
  dF prog (Instr.buildSlice 97 1 #[(0,(.slice x0 c d))]) w λy w1=>dF prog (Builtin.append_ #[97,97] 97 #[x,y]) w1 K:=by
 obtain⟨i,j,k,l,hb⟩:=inf_139;exact gK (cs:= [(.slice x0 c d)]) Tryz.underlying97 j k l rfl dz dz dA rfl f b (by unfold maxLen;omega) (by rw[hb];omega) a g
theorem ps_116{a b c d e f:Value}{x:Value}{base n:Nat}{xs:List Value}(l:∀u∈([a,b,c,d,e,f]:List Value),u.oneCell'=true)(j:w.ownsRow base 37 6 x n xs)(r:n+1<=1048577)(g:base<=w.heap.size)(m:∀x' k,k.ownsRow base 37 6 x' (n+1) (xs++ [a,b,c,d,e,f])->w.grownBy k x.ownBlock->iB w x x'->K x' k):
  dF prog (Instr.buildSlice 116 1 #[(0,(.agg #[a,b,c,d,e,f]))]) w λy w1=>dF prog (Builtin.append_ #[116,116] 116 #[x,y]) w1 K:=by
 obtain⟨i,o,p,q,hb⟩:=inf_37;exact gK (cs:= [a,b,c,d,e,f]) Tryz.underlying116 o p q rfl dz dz dA rfl l j (by unfold maxLen;omega) (by rw[hb];omega) g m
theorem ps_134{a b:Value}{x:Value}{base n:Nat}{xs:List Value}(f:∀u∈([a,b]:List Value),u.oneCell'=true)(d:w.ownsRow base 96 2 x n xs)(m:n+1<=1048577)(c:base<=w.heap.size)(g:∀x' e,e.ownsRow base 96 2 x' (n+1) (xs++ [a,b])->w.grownBy e x.ownBlock->iB w x x'->K x' e):
  dF prog (Instr.buildSlice 134 1 #[(0,(.agg #[a,b]))]) w λy w1=>dF prog (Builtin.append_ #[134,134] 134 #[x,y]) w1 K:=by
 obtain⟨i,j,k,l,hb⟩:=inf_96;exact gK (cs:= [a,b]) Tryz.underlying134 j k l rfl dz dz dA rfl f d (by unfold maxLen;omega) (by rw[hb];omega) c g
theorem ps_161{a b:Value}{x:Value}{base n:Nat}{xs:List Value}(f:∀u∈([a,b]:List Value),u.oneCell'=true)(d:w.ownsRow base 256 2 x n xs)(m:n+1<=1048577)(c:base<=w.heap.size)(g:∀x' e,e.ownsRow base 256 2 x' (n+1) (xs++ [a,b])->w.grownBy e x.ownBlock->iB w x x'->K x' e):
  dF prog (Instr.buildSlice 161 1 #[(0,(.agg #[a,b]))]) w λy w1=>dF prog (Builtin.append_ #[161,161] 161 #[x,y]) w1 K:=by
 obtain⟨i,j,k,l,hb⟩:=inf_256;exact gK (cs:= [a,b]) Tryz.underlying161 j k l rfl dz dz dA rfl f d (by unfold maxLen;omega) (by rw[hb];omega) c g
theorem ps_179{a b c d e f g j:Value}{x:Value}{base n:Nat}{xs:List Value}(o:∀u∈([a,b,c,d,e,f,g,j]:List Value),u.oneCell'=true)(l:w.ownsRow base 250 8 x n xs)(t:n+1<=1048577)(k:base<=w.heap.size)(p:∀x' m,m.ownsRow base 250 8 x' (n+1) (xs++ [a,b,c,d,e,f,g,j])->w.grownBy m x.ownBlock->iB w x x'->K x' m):
  dF prog (Instr.buildSlice 179 1 #[(0,(.agg #[a,b,c,d,e,f,g,j]))]) w λy w1=>dF prog (Builtin.append_ #[179,179] 179 #[x,y]) w1 K:=by
 obtain⟨i,q,r,s,hb⟩:=inf_250;exact gK (cs:= [a,b,c,d,e,f,g,j]) Tryz.underlying179 q r s rfl dz dz dA rfl o l (by unfold maxLen;omega) (by rw[hb];omega) k p
theorem ps_180{x0:Option Addr}{c d:Nat}{x:Value}{base n:Nat}{xs:List Value}(f:∀u∈([(.slice x0 c d)]:List Value),u.oneCell'=true)(b:w.ownsRow base 161 1 x n xs)(m:n+1<=1048577)(a:base<=w.heap.size)(g:∀x' e,e.ownsRow base 161 1 x' (n+1) (xs++ [(.slice x0 c d)])->w.grownBy e x.ownBlock->iB w x x'->K x' e):
  dF prog (Instr.buildSlice 180 1 #[(0,(.slice x0 c d))]) w λy w1=>dF prog (Builtin.append_ #[180,180] 180 #[x,y]) w1 K:=by
 obtain⟨i,j,k,l,hb⟩:=inf_161;exact gK (cs:= [(.slice x0 c d)]) Tryz.underlying180 j k l rfl dz dz dA rfl f b (by unfold maxLen;omega) (by rw[hb];omega) a g
theorem inf_193:IF 193 (.agg #[.string {data:= #[]},bS 0,.bool false,.bool false,.bool false]) 5 32:=⟨Tryz.t193,dA,rfl,rfl,rfl⟩
@[simp] theorem bs_252_13 {r s t u v : Value} {x y A B C : Value} {D E F G H : Value} {I J L M O : Value} {P Q R S T : Value} {U V W X Y : Value} {Z a7 a8 a9 b1 : Value} {b2 b3 b4 b5 b6 : Value} {b7 b8 b9 c1 c2 : Value} {c3 c4 c5 c6 c7 : Value} {a b c d e : Value} {f g j k l : Value} {m n o p q : Value} : dF prog (Instr.buildSlice 252 13 #[(0, (.agg #[r, s, t, u, v])), (1, (.agg #[x, y, A, B, C])), (2, (.agg #[D, E, F, G, H])), (3, (.agg #[I, J, L, M, O])), (4, (.agg #[P, Q, R, S, T])), (5, (.agg #[U, V, W, X, Y])), (6, (.agg #[Z, a7, a8, a9, b1])), (7, (.agg #[b2, b3, b4, b5, b6])), (8, (.agg #[b7, b8, b9, c1, c2])), (9, (.agg #[c3, c4, c5, c6, c7])), (10, (.agg #[a, b, c, d, e])), (11, (.agg #[f, g, j, k, l])), (12, (.agg #[m, n, o, p, q]))]) w K = K (.slice (some ⟨w.heap.size, 0, none⟩) 13 13) (w.alloc (.cells #[r, s, t, u, v, x, y, A, B, C, D, E, F, G, H, I, J, L, M, O, P, Q, R, S, T, U, V, W, X, Y, Z, a7, a8, a9, b1, b2, b3, b4, b5, b6, b7, b8, b9, c1, c2, c3, c4, c5, c6, c7, a, b, c, d, e, f, g, j, k, l, m, n, o, p, q] 193)) := by
 obtain⟨i,hi,hz,hs,hb⟩:=inf_193;exact fe (z:=5) Tryz.underlying252 hi hz hs dz dz dA
@[simp] theorem aK : LN 22 := lf Tryz.underlying22
@[simp] theorem ff : LN 26 := lf Tryz.underlying26
@[simp] theorem uh : LN 70 := lf Tryz.underlying70
@[simp] theorem len_76 : LN 76 := lf Tryz.underlying76
@[simp] theorem len_86 : LN 86 := lf Tryz.underlying86
@[simp] theorem len_87 : LN 87 := lf Tryz.underlying87
@[simp] theorem len_88 : LN 88 := lf Tryz.underlying88
@[simp] theorem len_97 : LN 97 := lf Tryz.underlying97
@[simp] theorem mD : LN 116 := lf Tryz.underlying116
@[simp] theorem len_134 : LN 134 := lf Tryz.underlying134
@[simp] theorem jL : LN 161 := lf Tryz.underlying161
@[simp] theorem nE : LN 179 := lf Tryz.underlying179
@[simp] theorem len_180 : LN 180 := lf Tryz.underlying180
@[simp] theorem len_252 : LN 252 := lf Tryz.underlying252
@[simp] theorem lG {a : Int} : ai prog (convert 3 33 (bS a)) = some (bT ((IntKind.u64).wrap a)) := pr_conv underlying3 Tryz.underlying33
@[simp] theorem cv_33_3 {a : Int} : ai prog (convert 33 3 (bT a)) = some (bS ((IntKind.i64).wrap a)) := pr_conv Tryz.underlying33 underlying3
theorem ia_22:IA 22 1:=iak Tryz.underlying22
theorem ia_70:IA 70 1:=iak Tryz.underlying70
theorem ia_86:IA 86 2:=iak Tryz.underlying86
theorem ia_87:IA 87 7:=iak Tryz.underlying87
theorem ia_88:IA 88 2:=iak Tryz.underlying88
theorem ia_97:IA 97 1:=iak Tryz.underlying97
theorem ia_139:IA 139 1:=iak Tryz.underlying139
theorem ph:IA 179 8:=iak Tryz.underlying179
theorem ia_180:IA 180 1:=iak Tryz.underlying180
theorem ia_252:IA 252 5:=iak Tryz.underlying252
theorem ei_32{d:Nat}{x0 a:Int}{x1 b:Int}{x2 c:Int}{x3 e:Int}{x4 f:Int}:(Op.equalIn (d+2) 32 (.agg #[(bS x0),(bS x1),(bS x2),(bS x3),(bS x4)]) (.agg #[(bS a),(bS b),(bS c),(bS e),(bS f)])).run prog w= .ok ((x0==a)&&((x1==b)&&((x2==c)&&((x3==e)&&((x4==f)&&(true)))))) w:=
 mJ (d:=d+1) (fs:= [(true,3,0),(true,3,1),(true,3,2),(true,3,3),(true,3,4)]) dA dA dA (gj (bE dA rfl) (bE dA rfl) (gQ underlying3) (gj (bE dA rfl) (bE dA rfl) (gQ underlying3) (gj (bE dA rfl) (bE dA rfl) (gQ underlying3) (gj (bE dA rfl) (bE dA rfl) (gQ underlying3) (gj (bE dA rfl) (bE dA rfl) (gQ underlying3) eqF_nil)))))
@[simp] theorem be_eql_32 {x y : Operand} {x0 a : Int} {x1 b : Int} {x2 c : Int} {x3 e : Int} {x4 f : Int} : be prog .eql 32 x y (.agg #[(bS x0), (bS x1), (bS x2), (bS x3), (bS x4)]) (.agg #[(bS a), (bS b), (bS c), (bS e), (bS f)]) = some (.bool (((x0 == a) && ((x1 == b) && ((x2 == c) && ((x3 == e) && ((x4 == f) && (true)))))))) := be_eqls dA λw => ei_32 (d := 9998)
theorem ei_35{d:Nat}{x0 a:Int}{x1 b:Int}{x2 c:Int}{x3 e:Int}{x4 f:Int}{x5 g:Int}{x6 i:Int}{x7 j:Int}:(Op.equalIn (d+3) 35 (.agg #[(bS x0),(bS x1),(bS x2),(bS x3),(bS x4),(bS x5),(bS x6),(bT x7)]) (.agg #[(bS a),(bS b),(bS c),(bS e),(bS f),(bS g),(bS i),(bT j)])).run prog w= .ok ((x0==a)&&(((x1==b)&&((x2==c)&&((x3==e)&&((x4==f)&&((x5==g)&&(true))))))&&((x6==i)&&((x7==j)&&(true))))) w:=
 mJ (d:=d+2) (fs:= [(true,30,0),(true,32,1),(true,3,6),(true,33,7)]) dA dA dA (gj (bE dA rfl) (bE dA rfl) (gQ Tryz.underlying30) (gj (part_ag (n:=5) dA dA) (part_ag (n:=5) dA dA) (ei_32 (d:=d+0)) (gj (bE dA rfl) (bE dA rfl) (gQ underlying3) (gj (bE dA rfl) (bE dA rfl) (gQ Tryz.underlying33) eqF_nil))))
@[simp] theorem be_eql_35 {x y : Operand} {x0 a : Int} {x1 b : Int} {x2 c : Int} {x3 e : Int} {x4 f : Int} {x5 g : Int} {x6 i : Int} {x7 j : Int} : be prog .eql 35 x y (.agg #[(bS x0), (bS x1), (bS x2), (bS x3), (bS x4), (bS x5), (bS x6), (bT x7)]) (.agg #[(bS a), (bS b), (bS c), (bS e), (bS f), (bS g), (bS i), (bT j)]) = some (.bool (((x0 == a) && (((x1 == b) && ((x2 == c) && ((x3 == e) && ((x4 == f) && ((x5 == g) && (true)))))) && ((x6 == i) && ((x7 == j) && (true))))))) := be_eqls dA λw => ei_35 (d := 9997)
@[simp] theorem be_neq_35 {x y : Operand} {x0 a : Int} {x1 b : Int} {x2 c : Int} {x3 e : Int} {x4 f : Int} {x5 g : Int} {x6 i : Int} {x7 j : Int} : be prog .neq 35 x y (.agg #[(bS x0), (bS x1), (bS x2), (bS x3), (bS x4), (bS x5), (bS x6), (bT x7)]) (.agg #[(bS a), (bS b), (bS c), (bS e), (bS f), (bS g), (bS i), (bT j)]) = some (.bool (!((x0 == a) && (((x1 == b) && ((x2 == c) && ((x3 == e) && ((x4 == f) && ((x5 == g) && (true)))))) && ((x6 == i) && ((x7 == j) && (true))))))) := be_neqs dA λw => ei_35 (d := 9997)
theorem ei_96{d:Nat}{x0 a:Int}{x1 b:Int}:(Op.equalIn (d+2) 96 (.agg #[(bS x0),(bS x1)]) (.agg #[(bS a),(bS b)])).run prog w= .ok ((x0==a)&&((x1==b)&&(true))) w:=
 mJ (d:=d+1) (fs:= [(true,3,0),(true,3,1)]) dA dA dA (gj (bE dA rfl) (bE dA rfl) (gQ underlying3) (gj (bE dA rfl) (bE dA rfl) (gQ underlying3) eqF_nil))
@[simp] theorem be_eql_96 {x y : Operand} {x0 a : Int} {x1 b : Int} : be prog .eql 96 x y (.agg #[(bS x0), (bS x1)]) (.agg #[(bS a), (bS b)]) = some (.bool (((x0 == a) && ((x1 == b) && (true))))) := be_eqls dA λw => ei_96 (d := 9998)
theorem ei_142{d:Nat}{x0 a:Int}{x1 b:Int}:(Op.equalIn (d+2) 142 (.agg #[(bS x0),(bS x1)]) (.agg #[(bS a),(bS b)])).run prog w= .ok ((x0==a)&&((x1==b)&&(true))) w:=
 mJ (d:=d+1) (fs:= [(true,3,0),(true,3,1)]) dA dA dA (gj (bE dA rfl) (bE dA rfl) (gQ underlying3) (gj (bE dA rfl) (bE dA rfl) (gQ underlying3) eqF_nil))
@[simp] theorem be_eql_142 {x y : Operand} {x0 a : Int} {x1 b : Int} : be prog .eql 142 x y (.agg #[(bS x0), (bS x1)]) (.agg #[(bS a), (bS b)]) = some (.bool (((x0 == a) && ((x1 == b) && (true))))) := be_eqls dA λw => ei_142 (d := 9998)
theorem ei_256{d:Nat}{x0 a:Int}{x1 b:Int}:(Op.equalIn (d+2) 256 (.agg #[(bS x0),(bS x1)]) (.agg #[(bS a),(bS b)])).run prog w= .ok ((x0==a)&&((x1==b)&&(true))) w:=
 mJ (d:=d+1) (fs:= [(true,3,0),(true,3,1)]) dA dA dA (gj (bE dA rfl) (bE dA rfl) (gQ underlying3) (gj (bE dA rfl) (bE dA rfl) (gQ underlying3) eqF_nil))
@[simp] theorem be_eql_256 {x y : Operand} {x0 a : Int} {x1 b : Int} : be prog .eql 256 x y (.agg #[(bS x0), (bS x1)]) (.agg #[(bS a), (bS b)]) = some (.bool (((x0 == a) && ((x1 == b) && (true))))) := be_eqls dA λw => ei_256 (d := 9998)
end Go.Proofs.YtnpflajdbchghaaGreat
namespace Go.Proofs.YtnpflajdbchghaaGreat.Ev
open Tryz(f38 f66 prog underlying3)
open Go
abbrev QQ:=Value->World->Prop
structure Bx where
 p:Prop
def bWp(o:Option Value)(K:Value->Bx):Bx:=⟨nP o λv=>(K v).p⟩
def bEf(P:Program)(m:Sem Value)(w:World)(K:Value->World->Bx):Bx:=⟨dF P m w λv w=>(K v w).p⟩
def bEu(P:Program)(m:Sem Unit)(w:World)(K:World->Bx):Bx:=⟨dE P m w λw=>(K w).p⟩
def bCa(P:Program)(f:FuncId)(l:List Value)(w:World)(K:Value->World->Bx):Bx:=⟨aa P f l w λv w=>(K v w).p⟩
def bCx(P:Program)(f:FuncId)(l:List Value)(w:World)(K:Value->World->Bx):Bx:=⟨CallX P f l w λv w=>(K v w).p⟩
def bCd(D:Nat->Prop)(P:Program)(f:FuncId)(l:List Value)(w:World)(K:Value->World->Bx):Bx:=⟨CallD D P f l w λv w=>(K v w).p⟩
def bRd(D:Nat->Prop)(x:Value)(b:Bx):Bx:=⟨rdD D x b.p⟩
def bRg(D:Nat->Prop)(c:Value)(k:Bool)(x:Value)(b:Bx):Bx:=⟨rdG D c k x b.p⟩
def bGe(P:Program)(c:Value)(k:Bool)(m:Sem Value)(K:Value->World->Bx)(w:World):Bx:=⟨gE c k (dF P m w) (λv w=>(K v w).p) w⟩
def bGu(P:Program)(c:Value)(k:Bool)(m:Sem Unit)(K:World->Bx)(w:World):Bx:=⟨gU c k (dE P m w) (λw=>(K w).p) w⟩
def bGc(P:Program)(c:Value)(k:Bool)(f:FuncId)(l:List Value)(K:Value->World->Bx)(w:World):Bx:=⟨gE c k (aa P f l w) (λv w=>(K v w).p) w⟩
def bGx(P:Program)(c:Value)(k:Bool)(f:FuncId)(l:List Value)(K:Value->World->Bx)(w:World):Bx:=⟨gE c k (CallX P f l w) (λv w=>(K v w).p) w⟩
def bGd(D:Nat->Prop)(P:Program)(c:Value)(k:Bool)(f:FuncId)(l:List Value)(K:Value->World->Bx)(w:World):Bx:=⟨gE c k (CallD D P f l w) (λv w=>(K v w).p) w⟩
def bGn(c:Value)(k:Bool)(K:Value->World->Bx)(w:World):Bx:=⟨gE c k (λ_=>False) (λv w=>(K v w).p) w⟩
def bCn(c:Value)(a b:Bx):Bx:=⟨cnd c a.p b.p⟩
def bAn(a b:Bx):Bx:=⟨a.p/\b.p⟩
def bQ(Q:QQ)(v:Value)(w:World):Bx:=⟨Q v w⟩
def bC(F:World->QQ->Prop)(w:World)(Q:QQ):Bx:=⟨F w Q⟩
def bNo:Bx:=⟨False⟩
def bEv(P:Program)(ent:FuncId->Bool)(f:Option Value)(l:Option (List Value))(w:World)(K:Value->World->Bx):Bx:=⟨evP P (rC ent f l) w λv w=>(K v w).p⟩
def bEg(P:Program)(ent:FuncId->Bool)(f:Option Value)(l:Option (List Value))(c:Value)(k:Bool)(w:World)(K:Value->World->Bx):Bx:=⟨evG P (rC ent f l) c k w λv w=>(K v w).p⟩
theorem zB:(∀ {o K},(bWp o K).p=nP o λv=>(K v).p)/\(∀ {P m w K},(bEf P m w K).p=dF P m w λv w=>(K v w).p)/\(∀ {P m w K},(bEu P m w K).p=dE P m w λw=>(K w).p)
 /\(∀ {P f l w K},(bCa P f l w K).p=aa P f l w λv w=>(K v w).p)/\(∀ {P f l w K},(bCx P f l w K).p=CallX P f l w λv w=>(K v w).p)/\(∀ {D P f l w K},(bCd D P f l w K).p=CallD D P f l w λv w=>(K v w).p)
 /\(∀ {D x b},(bRd D x b).p=rdD D x b.p)/\(∀ {D c k x b},(bRg D c k x b).p=rdG D c k x b.p)
 /\(∀ {P c k m K w},(bGe P c k m K w).p=gE c k (dF P m w) (λv w=>(K v w).p) w)/\(∀ {P c k m K w},(bGu P c k m K w).p=gU c k (dE P m w) (λw=>(K w).p) w)
 /\(∀ {P c k f l K w},(bGc P c k f l K w).p=gE c k (aa P f l w) (λv w=>(K v w).p) w)/\(∀ {P c k f l K w},(bGx P c k f l K w).p=gE c k (CallX P f l w) (λv w=>(K v w).p) w)
 /\(∀ {D P c k f l K w},(bGd D P c k f l K w).p=gE c k (CallD D P f l w) (λv w=>(K v w).p) w)/\(∀ {c k K w},(bGn c k K w).p=gE c k (λ_=>False) (λv w=>(K v w).p) w)
 /\(∀ {c a b},(bCn c a b).p=cnd c a.p b.p)/\(∀ {a b},(bAn a b).p=(a.p/\b.p))/\(∀ {Q v w},(bQ Q v w).p=Q v w)/\(∀ {F w Q},(bC F w Q).p=F w Q)/\bNo.p=False
 /\(∀ {P e f l w K},(bEv P e f l w K).p=evP P (rC e f l) w λv w=>(K v w).p)/\(∀ {P e f l c k w K},(bEg P e f l c k w K).p=evG P (rC e f l) c k w λv w=>(K v w).p):=by
 refine⟨?_,?_,?_,?_,?_,?_,?_,?_,?_,?_,?_,?_,?_,?_,?_,?_,?_,?_,?_,?_,?_⟩<;>intros<;>rfl
attribute [irreducible] bWp bEf bEu bCa bCx bCd bRd bRg bGe bGu bGc bGx bGd bGn bCn bAn bQ bC bNo bEv bEg
theorem mkA{α:Type}(l:List α):Array.mk l=l.toArray:=rfl
def r0:Nat->Nat->List Nat->List Nat
 |_,0,l=>l
 |a,n+1,l=>a::r0 (a+1) n l
noncomputable def cb(f:Func):Code:=f.body.getD .skip
structure Nm where
 loop:List (Nat×List Nat×(List Value->Option (World->QQ->Prop)))
 join:List (Nat×List Nat×(List Value->Option (World->QQ->Prop)))
 plan:List (Nat×Plan)
def Nm.h(N:Nm):Hints:=⟨N.loop.map λx=>(x.1,x.2.1),N.join.map λx=>(x.1,x.2.1),N.plan⟩
abbrev Vs:=List Value->Option (World->QQ->Prop)
abbrev V0:=World->QQ->Prop
abbrev V1:=Value->V0
abbrev V2:=Value->V1
abbrev V3:=Value->V2
abbrev V4:=Value->V3
abbrev V5:=Value->V4
abbrev V6:=Value->V5
abbrev V7:=Value->V6
abbrev V8:=Value->V7
abbrev V9:=Value->V8
abbrev V10:=Value->V9
abbrev V11:=Value->V10
def u0(F:V0):Vs| []=>some F|_=>none
def u1(F:V1):Vs|x::l=>u0 (F x) l|_=>none
def u2(F:V2):Vs|x::l=>u1 (F x) l|_=>none
def u3(F:V3):Vs|x::l=>u2 (F x) l|_=>none
def u4(F:V4):Vs|x::l=>u3 (F x) l|_=>none
def u5(F:V5):Vs|x::l=>u4 (F x) l|_=>none
def u6(F:V6):Vs|x::l=>u5 (F x) l|_=>none
def u7(F:V7):Vs|x::l=>u6 (F x) l|_=>none
def u8(F:V8):Vs|x::l=>u7 (F x) l|_=>none
def u9(F:V9):Vs|x::l=>u8 (F x) l|_=>none
def u10(F:V10):Vs|x::l=>u9 (F x) l|_=>none
def u11(F:V11):Vs|x::l=>u10 (F x) l|_=>none
section
variable(P:Program)(ent:FuncId->Bool)
noncomputable def xk(ρ:Env)(o:Oper):lW:=match o.op with
 | .binOp op t x y _=>on2 (dB ρ x) (dB ρ y) λa b=> .opt (match op with| .eql| .neq=>be P op t x y a b|_=>bp P op t a b)
 | .call c=>match c.callee with
  | .value (.func g)=>onL (qg ρ c.args.toList) λvs=> .call g vs
  |_=>tz ent ρ o
 |_=>tz ent ρ o
def xv(o:Oper):Option (Operand×List Operand):=match o.op with
 | .call c=>match c.callee with
  | .value (.func _)=>none
  | .value f=>some (f,c.args.toList)
  |_=>none
 |_=>none
noncomputable def xP(D:Option (Option (Nat->Prop)))(k:lW)(w:World)(K:Value->World->Bx):Bx:=
 match k with
 | .val v=>K v w
 | .opt v=>bWp v λv=>K v w
 | .pure m=>bWp (ai P m) λv=>K v w
 | .read t x=>match D with
  |some (some D)=>bRd D x (bWp (fR P t x w) λv=>K v w)
  |_=>bWp (fR P t x w) λv=>K v w
 | .tI m=>bEf P m w K
 | .effU m=>bEu P m w λw'=>K undef w'
 | .call g args=>match D with
  |none=>bCa P g args w K
  |some none=>bCx P g args w K
  |some (some D)=>bCd D P g args w K
 | .bad=>bNo
noncomputable def xG(D:Option (Option (Nat->Prop)))(k:lW)(c:Value)(want:Bool)(w:World)(K:Value->World->Bx):Bx:=
 match k with
 | .val v=>K (gv c want v) w
 | .opt v=>bWp (gd c want v) λv=>K v w
 | .pure m=>bWp (gd c want (ai P m)) λv=>K v w
 | .read t x=>match D with
  |some (some D)=>bRg D c want x (bWp (gd c want (fR P t x w)) λv=>K v w)
  |_=>bWp (gd c want (fR P t x w)) λv=>K v w
 | .tI m=>bGe P c want m K w
 | .effU m=>bGu P c want m (λw'=>K undef w') w
 | .call g args=>match D with
  |none=>bGc P c want g args K w
  |some none=>bGx P c want g args K w
  |some (some D)=>bGd D P c want g args K w
 | .bad=>bGn c want K w
noncomputable def xSeq(m:Option (Option (Nat->Prop)))(ops:Array Oper)(n:Nat):List Nat->Env->World->(Env->World->Bx)->Bx
 | [],ρ,w,K=>K ρ w
 |i::rest,ρ,w,K=>match ops[i]? with
  |none=>bNo
  |some o=>match gOf ops ρ o,xv o with
   |none,_=>bNo
   |some none,none=>xP P m (xk P ent ρ o) w λv w'=>xSeq m ops n rest (iA n o.dst v ρ) w' K
   |some (some (c,want)),none=>xG P m (xk P ent ρ o) c want w λv w'=>xSeq m ops n rest (iA n o.dst v ρ) w' K
   |some none,some (f,l)=>bEv P ent (dB ρ f) (qg ρ l) w λv w'=>xSeq m ops n rest (iA n o.dst v ρ) w' K
   |some (some (c,want)),some (f,l)=>bEg P ent (dB ρ f) (qg ρ l) c want w λv w'=>xSeq m ops n rest (iA n o.dst v ρ) w' K
noncomputable def xPlan(n:Nat)(ops:Array Oper):Plan->Env->World->(Env->World->Bx)->Bx
 | .leaf l,ρ,w,K=>xSeq P ent none ops n l ρ w K
 | .ext l,ρ,w,K=>xSeq P ent (some none) ops n l ρ w K
 | .exd D l,ρ,w,K=>xSeq P ent (some (some D)) ops n l ρ w K
 | .ask _ _ a b,ρ,w,K=>bAn (xPlan n ops a ρ w K) (xPlan n ops b ρ w K)
noncomputable def xReg(n:Nat)(pl:Option Plan)(ops:Array Oper)(draw:Bool)(ρ:Env)(w:World)(K:Env->World->Bx):Bx:=
 match draw with
 |false=>xSeq P ent none ops n (List.range ops.size) ρ w K
 |true=>match pl with
  |none=>bNo
  |some pl=>xPlan P ent n ops pl ρ w.drew K
variable(N:Nm)(n:Nat)(res:List ResultVar)(Q:QQ)
def xCut(x:Option (List Nat×Vs))(ρ:Env)(w:World)(A:Bx):Bx:=match x with
 |some (ks,F)=>match packE ρ ks with
  |some xs=>match F xs with|some F=>bC F w Q|none=>bNo
  |none=>bNo
 |none=>A
noncomputable def xC:Code->Env->World->(Ex->Env->World->Bx)->Bx
 | .skip,ρ,w,K=>K .normal ρ w
 | .region id ops draw,ρ,w,K=>xReg P ent n (look N.plan id) ops draw ρ w λρ' w'=>K .normal ρ' w'
 | .seq x y,ρ,w,K=>xC x ρ w λe ρ' w'=>match e with
  | .normal=>xCut Q (lookC N.join y) ρ' w' (xC y ρ' w' K)
  | .exit id=>K (.exit id) ρ' w'
  | .ret=>K .ret ρ' w'
 | .cond c x y,ρ,w,K=>match dB ρ c with
  |some v=>bCn v (xC x ρ w K) (xC y ρ w K)
  |none=>bNo
 | .block id c,ρ,w,K=>xC c ρ w λe ρ' w'=>match e with
  | .normal=>K .normal ρ' w'
  | .exit id'=>bif Nat.beq id' id then K .normal ρ' w' else K (.exit id') ρ' w'
  | .ret=>K .ret ρ' w'
 | .loop c,ρ,w,_=>xCut Q (lookC N.loop c) ρ w bNo
 | .exit id,ρ,w,K=>K (.exit id) ρ w
 | .ret,ρ,w,K=>K .ret ρ w
 |_,_,_,_=>bNo
noncomputable def xR(ρ:Env)(w:World):List ResultVar->(List Value->Bx)->Bx
 | [],K=>K []
 | .tmp t::rs,K=>match ρ t with|some v=>xR ρ w rs λvs=>K (v::vs)|none=>bNo
 | .cell a t::rs,K=>match ρ a with|some x=>bWp (fR P t x w) λv=>xR ρ w rs λvs=>K (v::vs)|none=>bNo
noncomputable def xT:List It->Ex->Env->World->Bx
 | [],e,ρ,w=>match e with
  | .exit _=>bNo
  |_=>xR P ρ w res λvs=>bQ Q (retv vs) w
 | .jn y::t,e,ρ,w=>match e with
  | .normal=>xCut Q (lookC N.join y) ρ w (xC P ent N n Q y ρ w (xT t))
  | .exit id=>xT t (.exit id) ρ w
  | .ret=>xT t .ret ρ w
 | .eY id::t,e,ρ,w=>match e with
  | .normal=>xT t .normal ρ w
  | .exit id'=>bif Nat.beq id' id then xT t .normal ρ w else xT t (.exit id') ρ w
  | .ret=>xT t .ret ρ w
 | .lp c::t,e,ρ,w=>match e with
  | .normal=>xCut Q (lookC N.loop c) ρ w bNo
  | .exit id=>xT t (.exit id) ρ w
  | .ret=>xT t .ret ρ w
end
end Go.Proofs.YtnpflajdbchghaaGreat.Ev
namespace Go.Proofs.YtnpflajdbchghaaGreat
open Tryz(f38 f66 prog underlying3)
open Go Ev
theorem mixed:Tryz.prog.follows .mixedOrders=true:=Checked.mixed Tryz.checked
theorem entOk:EntOk prog (qq 3 233):=entOk_of dA
section
noncomputable def fx(N:Nm)(f:Func)(l:List Value)(w:World)(Q:QQ):Bx:=xC prog (qq 3 233) N f.ntmps Q (cb f) (nQ 0 l) w (xT prog (qq 3 233) N f.ntmps f.results.toList Q [])
noncomputable def nf(N:Nm)(f:Func)(T:List It)(ks:List Nat)(xs:List Value)(w:World)(Q:QQ):Bx:=match T with
 | .lp c::t=>xC prog (qq 3 233) N f.ntmps Q c (unpack ks xs) w (xT prog (qq 3 233) N f.ntmps f.results.toList Q (.lp c::t))
 |_=>bNo
noncomputable def gu(N:Nm)(f:Func)(T:List It)(ks:List Nat)(xs:List Value)(w:World)(Q:QQ):Bx:=match T with
 | .jn c::t=>xC prog (qq 3 233) N f.ntmps Q c (unpack ks xs) w (xT prog (qq 3 233) N f.ntmps f.results.toList Q t)
 |_=>bNo
theorem cF{fn:Func}{N:Nm}{f:FuncId}{c:Code}{l:List Value}{w:World}{Q:QQ}{L:Prop}(a:Tryz.prog.funcs[f]? =some fn)(hb:fn.body=some c)(b:Nat.ble l.length fn.ntmps=true)
  (e:evC prog (qq 3 233) f fn.ntmps N.h Q c [] (nQ 0 l) w (jt prog (qq 3 233) f fn.ntmps N.h fn.results.toList Q [])=L) (h:L):aa prog f l w Q:=
 call_ofE mixed entOk a hb N.h (Nat.le_of_ble_eq_true b) e h
theorem cG{fn:Func}{f:FuncId}{c:Code}{l:List Value}{w:World}{Q:QQ}{L:Prop}(N:Nm)(a:Tryz.prog.funcs[f]? =some fn)(h:L)(hb:fn.body=some c:=by exact rfl)(b:Nat.ble l.length fn.ntmps=true:=by kernel_rfl)
  (e:evC prog (qq 3 233) f fn.ntmps N.h Q c [] (nQ 0 l) w (jt prog (qq 3 233) f fn.ntmps N.h fn.results.toList Q [])=L:=by kernel_rfl):aa prog f l w Q:=cF a hb b e h
theorem pL{fn:Func}{f:FuncId}{c:Code}{t:List It}{an:List Nat}{xs:List Value}{w:World}{Q:QQ}{L:Prop}(N:Nm)(a:Tryz.prog.funcs[f]? =some fn)(h:L)
  (e:evC prog (qq 3 233) f fn.ntmps N.h Q c (.lp c::t) (unpack an xs) w (jt prog (qq 3 233) f fn.ntmps N.h fn.results.toList Q (.lp c::t))=L:=by kernel_rfl):Part prog f (.lp c::t) an xs w Q:=part_lpE mixed entOk a N.h e h
theorem pJ{fn:Func}{f:FuncId}{c:Code}{t:List It}{an:List Nat}{xs:List Value}{w:World}{Q:QQ}{L:Prop}(N:Nm)(a:Tryz.prog.funcs[f]? =some fn)(h:L)
  (e:evC prog (qq 3 233) f fn.ntmps N.h Q c t (unpack an xs) w (jt prog (qq 3 233) f fn.ntmps N.h fn.results.toList Q t)=L:=by kernel_rfl):Part prog f (.jn c::t) an xs w Q:=part_jnE mixed entOk a N.h e h
end
section
variable(D:Nat->Prop)(a0 a1 a2 a3 a4 a5 a6 x0 x1 x2 x3 x4 x5 x6 x7 x8 x9 gG iZ oU x13 x14 x15 x16 x17 x18 x19 x20 x21 x22 x23 x24 x25 x26 x27 x28 x29 x30 x31 x32 x33 x34 x35 x36 x37 x38 x39 x40 x41 x42 x43 x44 x45 x46 x47 x48 x49 x50 x51 x52 x53 x54 x55 x56 x57 x58 x59 x60 x61 x62 x63 x64 x65 x66 x67 x68 x69 x70 x71 x72 x73 x74 x75 x76 x77 x78 x79 x80 x81 x82 x83 x84 x85 x86 x87 x88 x89 x90 x91 x92 x93 x94 x95 x96 x97 x98 x99 x100 x101 x102 x103 x104 x105 x106 x107 x108 x109 x110 x111 x112 x113 x114 x115 x116 x117:Value)(w:World)(Q:QQ)
def C3:Code:=cb Tryz.f3
def T3_0:List It:= [.jn (bs [1,1,1,1,1,1,1,1] C3)]
def P3_0:Prop:=Part prog 3 T3_0 [4,5,13,14,15,16] [x4,x5,x13,x14,x15,x16] w Q
def H3:Nm:=⟨[], [(26, [4,5,13,14,15,16],u6 P3_0)], [(26,(.ext [0,1,3,4,2,5,6,7,9,10,8,11,12,13,15,16,14,17,18,19,20]))]⟩
def H9:Nm:=⟨[], [], []⟩
def C11:Code:=cb Tryz.f11
def T11_0:List It:= [.jn (bs [1,1,1] C11)]
def P11_0:Prop:=Part prog 11 T11_0 [5] [x5] w Q
def H11:Nm:=⟨[], [(4, [5],u1 P11_0)], []⟩
def H12:Nm:=⟨[], [], [(1,(.ext (1::3::0::2::(r0 4 6 []))))]⟩
def C13:Code:=cb Tryz.f13
def T13_0:List It:= [.lp (bs [1,1,1,0,1,4,5] C13),.eY 0,.jn (bs [1,1,1,1] C13)]
def P13_0:Prop:=Part prog 13 T13_0 [1,3,8,31,32] [x1,x3,x8,x31,x32] w Q
def H13:Nm:=⟨[(5, [1,3,8,31,32],u5 P13_0)], [], [(7,(.ext (0::1::2::3::5::6::4::(r0 7 6 []))))]⟩
def C14:Code:=cb Tryz.f14
def T14_0:List It:= [.jn (bs [1,1,1] C14)]
def P14_0:Prop:=Part prog 14 T14_0 [4,5] [x4,x5] w Q
def H14:Nm:=⟨[], [(4, [4,5],u2 P14_0)], []⟩
def H15:Nm:=⟨[], [], []⟩
def H16:Nm:=⟨[], [], []⟩
def C17:Code:=cb Tryz.f17
def T17_0:List It:= [.jn (bs [1,1,1,1,0,1,4,1] C17),.eY 0,.jn (bs [1,1,1,1,1] C17)]
def P17_0:Prop:=Part prog 17 T17_0 [0,6,7,8,10,28,29] [x0,x6,x7,x8,gG,x28,x29] w Q
def T17_1:List It:= [.jn (bs [1,1,1,1,0,1,4,1,3,1] C17),.eY 0,.jn (bs [1,1,1,1,1] C17)]
def P17_1:Prop:=Part prog 17 T17_1 [0,6,7,8,10,28,33] [x0,x6,x7,x8,gG,x28,x33] w Q
def T17_2:List It:= [.jn (bs [1,1,1,1,1] C17)]
def P17_2:Prop:=Part prog 17 T17_2 [8,10] [x8,gG] w Q
def T17_3:List It:= [.jn (bs [1,1,1,1,0,1,4,1,3,1,3,1,2,1] C17),.eY 0,.jn (bs [1,1,1,1,1] C17)]
def P17_3:Prop:=Part prog 17 T17_3 [8,10,55] [x8,gG,x55] w Q
def H17:Nm:=⟨[], [(9, [0,6,7,8,10,28,29],u7 P17_0),(12, [0,6,7,8,10,28,33],u7 P17_1),(15, [8,10,55],u3 P17_3),(18, [8,10],u2 P17_2)], [(14,(.ask 8 4 (.leaf [0,2,7,1,3,8,4,5,6,9]) (.leaf (r0 0 10 []))))]⟩
def C18:Code:=cb Tryz.f18
def T18_0:List It:= [.jn (bs [1,1,0,1,1,2,1,1] C18),.jn (bs [1,1,1] C18)]
def P18_0:Prop:=Part prog 18 T18_0 [] [] w Q
def H18:Nm:=⟨[], [(9, [],u0 P18_0)], []⟩
def H30:Nm:=⟨[], [], []⟩
def C31:Code:=cb Tryz.f31
def T31_0:List It:= [.lp (bs [1,1,0,1,4,5] C31),.eY 0,.jn (bs [1,1,1] C31)]
def P31_0:Prop:=Part prog 31 T31_0 [0,1,5] [x0,x1,x5] w Q
def H31:Nm:=⟨[(4, [0,1,5],u3 P31_0)], [], [(6,(.leaf (r0 0 9 [])))]⟩
def H32:Nm:=⟨[], [], []⟩
def C33:Code:=cb Tryz.f33
def T33_0:List It:= [.lp (bs [1,0,1,4,5] C33),.eY 0,.jn (bs [1,1] C33)]
def P33_0:Prop:=Part prog 33 T33_0 [0,6,7,8] [x0,x6,x7,x8] w Q
def T33_1:List It:= [.lp (bs [1,0,1,4,5,1,1,0,4,1,1,1,4,5] C33),.eY 2,.eY 1,.jn (bs [1,0,1,4,5,1,1,1] C33),.lp (bs [1,0,1,4,5] C33),.eY 0,.jn (bs [1,1] C33)]
def P33_1:Prop:=Part prog 33 T33_1 [0,4,6,7,8,31,32] [x0,x4,x6,x7,x8,x31,x32] w Q
def H33:Nm:=⟨[(2, [0,6,7,8],u4 P33_0),(7, [0,4,6,7,8,31,32],u7 P33_1)], [], [(4,(.leaf (r0 0 18 []))),(9,(.leaf (r0 0 35 [])))]⟩
def C34:Code:=cb Tryz.f34
def T34_0:List It:= [.lp (bs [1,1,0,1,4,5] C34),.eY 0,.jn (bs [1,1,1] C34)]
def P34_0:Prop:=Part prog 34 T34_0 [0,1,16,17,18] [x0,x1,x16,x17,x18] w Q
def T34_1:List It:= [.jn (bs [1,1,0,1,4,5,1,1,1] C34),.lp (bs [1,1,0,1,4,5] C34),.eY 0,.jn (bs [1,1,1] C34)]
def P34_1:Prop:=Part prog 34 T34_1 [0,1,16,17,18] [x0,x1,x16,x17,x18] w Q
def T34_2:List It:= [.jn (bs [1,1,0,1,4,5,1,1,0,4,1,1,1,0,1,2,1] C34),.jn (bs [1,1,0,1,4,5,1,1,0,4,1,1,1,1] C34),.eY 1,.jn (bs [1,1,0,1,4,5,1,1,1] C34),.lp (bs [1,1,0,1,4,5] C34),.eY 0,.jn (bs [1,1,1] C34)]
def P34_2:Prop:=Part prog 34 T34_2 [0,1,5,6,7,8,9,16,17,18] [x0,x1,x5,x6,x7,x8,x9,x16,x17,x18] w Q
def T34_3:List It:= [.jn (bs [1,1,0,1,4,5,1,1,0,4,1,1,1,1] C34),.eY 1,.jn (bs [1,1,0,1,4,5,1,1,1] C34),.lp (bs [1,1,0,1,4,5] C34),.eY 0,.jn (bs [1,1,1] C34)]
def P34_3:Prop:=Part prog 34 T34_3 [0,1,5,6,7,16,17,18] [x0,x1,x5,x6,x7,x16,x17,x18] w Q
def H34:Nm:=⟨[(4, [0,1,16,17,18],u5 P34_0)], [(10, [0,1,5,6,7,8,9,16,17,18],u10 P34_2),(12, [0,1,5,6,7,16,17,18],u8 P34_3),(24, [0,1,16,17,18],u5 P34_1)], [(9,(.ask 16 12 (.leaf [0,1,3,5,6,7,9,2,4,8,10,11,16,12,13,14,15,17,18]) (.leaf (r0 0 19 [])))),(12,(.leaf (r0 0 9 []))),(17,(.leaf (r0 0 15 []))),(23,(.leaf (r0 0 15 [])))]⟩
def H35:Nm:=⟨[], [], [(3,(.ask 3 6 (.leaf (1::4::0::2::5::3::(r0 6 5 []))) (.leaf [1,4,0,2,5,6,3,7,8,9,10])))]⟩
def C36:Code:=cb Tryz.f36
def T36_0:List It:= [.lp (bs [1,1,1,0,1,4,5] C36),.eY 0,.jn (bs [1,1,1,1] C36)]
def P36_0:Prop:=Part prog 36 T36_0 [0,1,4,5,18,19,20] [x0,x1,x4,x5,x18,x19,x20] w Q
def H36:Nm:=⟨[(5, [0,1,4,5,18,19,20],u7 P36_0)], [], [(7,(.leaf (r0 0 38 [])))]⟩
def H37:Nm:=⟨[], [], []⟩
def C38:Code:=cb f38
def T38_0:List It:= [.jn (bs [1,1,1] C38)]
def P38_0:Prop:=Part prog 38 T38_0 [0,6,7,10,11] [x0,x6,x7,gG,iZ] w Q
def T38_1:List It:= [.jn (bs [1,1,1,1,1,1] C38)]
def P38_1:Prop:=Part prog 38 T38_1 [0,6,7,10,12,13] [x0,x6,x7,gG,oU,x13] w Q
def T38_2:List It:= [.jn (bs [1,1,1,1,1,1,1] C38)]
def P38_2:Prop:=Part prog 38 T38_2 [] [] w Q
def T38_3:List It:= [.jn (bs [1,1,1,1,1,1,0,1,4,1,3,1,3,1,3,1,3,1] C38),.eY 0,.jn (bs [1,1,1,1,1,1,1] C38)]
def P38_3:Prop:=Part prog 38 T38_3 [6,7,12,13,45,94] [x6,x7,oU,x13,x45,x94] w Q
def T38_4:List It:= [.jn (bs [1,1,1,1,1,1,0,1,4,1,3,1,3,1,3,1,3,1,3,1] C38),.eY 0,.jn (bs [1,1,1,1,1,1,1] C38)]
def P38_4:Prop:=Part prog 38 T38_4 [13,108] [x13,x108] w Q
def H38:Nm:=⟨[], [(5, [0,6,7,10,11],u5 P38_0),(9, [0,6,7,10,12,13],u6 P38_1),(31, [6,7,12,13,45,94],u6 P38_3),(37, [13,108],u2 P38_4),(38, [],u0 P38_2)], [(4,(.ask 3 7 (.ask 8 7 (.leaf [0,1,2,4,3,5,6,8,7,9,10]) (.leaf (r0 0 11 []))) (.ask 8 7 (.leaf [0,1,2,4,6,8,7,3,5,9,10]) (.leaf [0,1,2,4,6,7,3,5,8,9,10])))),(5,(.leaf (r0 0 7 []))),(11,(.leaf (r0 0 13 [])))]⟩
def H39:Nm:=⟨[], [], [(2,(.ask 3 10 (.ask 14 10 (.leaf [0,1,2,4,5,6,8,13,15,3,7,9,14,16,10,11,12,17,18]) (.leaf (r0 0 19 []))) (.ask 14 10 (.leaf [0,1,2,4,5,6,8,13,15,7,9,14,16,10,3,11,12,17,18]) (.leaf [0,1,2,4,5,6,8,13,15,7,9,10,3,11,12,14,16,17,18]))))]⟩
def C40:Code:=cb Tryz.f40
def T40_0:List It:= [.lp (bs [1,0,1,4,5] C40),.eY 0,.jn (bs [1,1] C40)]
def P40_0:Prop:=Part prog 40 T40_0 [0,3,10,11] [x0,x3,gG,iZ] w Q
def H40:Nm:=⟨[(2, [0,3,10,11],u4 P40_0)], [], [(4,(.leaf (r0 0 10 [])))]⟩
def H41:Nm:=⟨[], [], []⟩
def C42:Code:=cb Tryz.f42
def T42_0:List It:= [.jn (bs [1,1] C42)]
def P42_0:Prop:=Part prog 42 T42_0 [0,6,7,8,9] [x0,x6,x7,x8,x9] w Q
def H42:Nm:=⟨[], [(2, [0,6,7,8,9],u5 P42_0)], [(1,(.ask 3 7 (.ask 8 7 (.leaf [0,1,2,4,3,5,6,8,7,9,10]) (.leaf (r0 0 11 []))) (.ask 8 7 (.leaf [0,1,2,4,6,8,7,3,5,9,10]) (.leaf [0,1,2,4,6,7,3,5,8,9,10])))),(10,(.leaf (r0 0 7 []))),(11,(.leaf (r0 0 11 []))),(13,(.ask 6 4 (.leaf [0,2,5,1,3,6,4,7,8]) (.leaf (r0 0 9 [])))),(15,(.ask 8 4 (.leaf [0,2,7,1,3,8,4,5,6,9,10,11]) (.leaf (r0 0 12 [])))),(18,(.leaf (r0 0 6 []))),(21,(.leaf (r0 0 9 []))),(23,(.leaf (r0 0 9 [])))]⟩
def C43:Code:=cb Tryz.f43
def T43_0:List It:= [.jn (bs [1,1,1,1,1] C43)]
def P43_0:Prop:=Part prog 43 T43_0 [0,1,5,7] [x0,x1,x5,x7] w Q
def T43_1:List It:= [.jn (bs [1,1,1,1,1,1,1,1] C43)]
def P43_1:Prop:=Part prog 43 T43_1 [] [] w Q
def H43:Nm:=⟨[], [(9, [0,1,5,7],u4 P43_0),(13, [],u0 P43_1)], [(3,(.leaf (r0 0 19 []))),(6,(.leaf (r0 0 11 []))),(11,(.leaf (r0 0 11 []))),(12,(.ask 4 7 (.leaf (r0 0 15 [])) (.leaf (0::1::2::3::5::8::6::7::9::4::(r0 10 5 [])))))]⟩
def C44:Code:=cb Tryz.f44
def T44_0:List It:= [.jn (bs [1,1,1,1,1,1] C44)]
def P44_0:Prop:=Part prog 44 T44_0 [0,7,9,10,11,12] [x0,x7,x9,gG,iZ,oU] w Q
def T44_1:List It:= [.jn (bs [1,1,1,1,1,1,1,1] C44)]
def P44_1:Prop:=Part prog 44 T44_1 [9,11] [x9,iZ] w Q
def H44:Nm:=⟨[], [(11, [0,7,9,10,11,12],u6 P44_0),(18, [9,11],u2 P44_1)], [(6,(.ask 5 1 (.leaf [0,2,3,4,5,1,6,7,8,9]) (.ask 5 7 (.leaf (r0 0 10 [])) (.leaf [0,2,3,4,1,6,7,5,8,9])))),(9,(.leaf (r0 0 20 []))),(15,(.leaf (r0 0 12 []))),(16,(.leaf (r0 0 16 []))),(18,(.leaf (r0 0 11 [])))]⟩
def C50:Code:=cb Tryz.f50
def T50_0:List It:= [.lp (bs [1,0,1,4,5] C50),.eY 0,.jn (bs [1,1] C50)]
def P50_0:Prop:=Part prog 50 T50_0 [0,3] [x0,x3] w Q
def T50_1:List It:= [.lp (bs [1,0,1,4,5,1,0,4,1,1,4,5] C50),.eY 2,.eY 1,.jn (bs [1,0,1,4,5,1,1] C50),.lp (bs [1,0,1,4,5] C50),.eY 0,.jn (bs [1,1] C50)]
def P50_1:Prop:=Part prog 50 T50_1 [0,3,4] [x0,x3,x4] w Q
def H50:Nm:=⟨[(2, [0,3],u2 P50_0),(7, [0,3,4],u3 P50_1)], [], [(4,(.leaf (r0 0 24 []))),(9,(.leaf (r0 0 47 [])))]⟩
def C52:Code:=cb Tryz.f52
def T52_0:List It:= [.lp (bs [1,1,0,1,4,5] C52),.eY 0,.jn (bs [1,1,1] C52)]
def P52_0:Prop:=Part prog 52 T52_0 [0,1,4,5] [x0,x1,x4,x5] w Q
def H52:Nm:=⟨[(4, [0,1,4,5],u4 P52_0)], [], [(7,(.leaf (r0 0 46 [])))]⟩
def H54:Nm:=⟨[], [], []⟩
def C59:Code:=cb Tryz.f59
def T59_0:List It:= [.lp (bs [1,1,0,1,4,5] C59),.eY 0,.jn (bs [1,1,1] C59)]
def P59_0:Prop:=Part prog 59 T59_0 [0,1,2,8] [x0,x1,x2,x8] w Q
def T59_1:List It:= [.jn (bs [1,1,0,1,4,5,1,1] C59),.lp (bs [1,1,0,1,4,5] C59),.eY 0,.jn (bs [1,1,1] C59)]
def P59_1:Prop:=Part prog 59 T59_1 [0,1,2,8] [x0,x1,x2,x8] w Q
def T59_2:List It:= [.jn (bs [1,1,0,1,4,5,1,0,4,1,1,1,1,1] C59),.eY 1,.jn (bs [1,1,0,1,4,5,1,1] C59),.lp (bs [1,1,0,1,4,5] C59),.eY 0,.jn (bs [1,1,1] C59)]
def P59_2:Prop:=Part prog 59 T59_2 [0,1,2,8,9,10,11] [x0,x1,x2,x8,x9,gG,iZ] w Q
def H59:Nm:=⟨[(4, [0,1,2,8],u4 P59_0)], [(5, [0,1,2,8],u4 P59_1),(15, [0,1,2,8,9,10,11],u7 P59_2)], [(11,(.leaf (r0 0 14 [])))]⟩
def H60:Nm:=⟨[], [], [(1,(.ask 4 7 (.ask 4 10 (.ask 4 13 (.ask 7 10 (.ask 7 13 (.ask 10 13 (.leaf [1,2,5,8,11,0,3,6,9,12,4,7,10,13,14,15,16]) (.leaf [1,2,5,8,11,0,3,6,9,12,4,7,13,10,14,15,16])) (.leaf [1,2,5,8,11,0,3,6,9,12,4,13,7,10,14,15,16])) (.ask 10 13 (.ask 7 13 (.leaf [1,2,5,8,11,0,3,6,9,12,4,10,7,13,14,15,16]) (.leaf [1,2,5,8,11,0,3,6,9,12,4,10,13,7,14,15,16])) (.leaf [1,2,5,8,11,0,3,6,9,12,4,13,10,7,14,15,16]))) (.ask 7 10 (.leaf [1,2,5,8,11,0,3,6,9,12,13,4,7,10,14,15,16]) (.leaf [1,2,5,8,11,0,3,6,9,12,13,4,10,7,14,15,16]))) (.ask 10 13 (.ask 4 13 (.ask 7 13 (.leaf [1,2,5,8,11,0,3,6,9,12,10,4,7,13,14,15,16]) (.leaf [1,2,5,8,11,0,3,6,9,12,10,4,13,7,14,15,16])) (.leaf [1,2,5,8,11,0,3,6,9,12,10,13,4,7,14,15,16])) (.leaf [1,2,5,8,11,0,3,6,9,12,13,10,4,7,14,15,16]))) (.ask 7 10 (.ask 7 13 (.ask 4 10 (.ask 4 13 (.ask 10 13 (.leaf [1,2,5,8,11,0,3,6,9,12,7,4,10,13,14,15,16]) (.leaf [1,2,5,8,11,0,3,6,9,12,7,4,13,10,14,15,16])) (.leaf [1,2,5,8,11,0,3,6,9,12,7,13,4,10,14,15,16])) (.ask 10 13 (.ask 4 13 (.leaf [1,2,5,8,11,0,3,6,9,12,7,10,4,13,14,15,16]) (.leaf [1,2,5,8,11,0,3,6,9,12,7,10,13,4,14,15,16])) (.leaf [1,2,5,8,11,0,3,6,9,12,7,13,10,4,14,15,16]))) (.ask 4 10 (.leaf [1,2,5,8,11,0,3,6,9,12,13,7,4,10,14,15,16]) (.leaf [1,2,5,8,11,0,3,6,9,12,13,7,10,4,14,15,16]))) (.ask 10 13 (.ask 7 13 (.ask 4 13 (.leaf [1,2,5,8,11,0,3,6,9,12,10,7,4,13,14,15,16]) (.leaf [1,2,5,8,11,0,3,6,9,12,10,7,13,4,14,15,16])) (.leaf [1,2,5,8,11,0,3,6,9,12,10,13,7,4,14,15,16])) (.leaf [1,2,5,8,11,0,3,6,9,12,13,10,7,4,14,15,16])))))]⟩
def H61:Nm:=⟨[], [], []⟩
def H62:Nm:=⟨[], [], []⟩
def C63:Code:=cb Tryz.f63
def T63_0:List It:= [.lp (bs [1,1,0,1,4,5] C63),.eY 0,.jn (bs [1,1,1] C63)]
def P63_0:Prop:=Part prog 63 T63_0 [5,25,26,27] [x5,x25,x26,x27] w Q
def H63:Nm:=⟨[(3, [5,25,26,27],u4 P63_0)], [], []⟩
def C64:Code:=cb Tryz.f64
def T64_0:List It:= [.lp (bs [1,0,1,4,5] C64),.eY 0,.jn (bs [1,1] C64)]
def P64_0:Prop:=Part prog 64 T64_0 [0,8,9,10] [x0,x8,x9,gG] w Q
def H64:Nm:=⟨[(2, [0,8,9,10],u4 P64_0)], [], []⟩
def C65:Code:=cb Tryz.f65
def T65_0:List It:= [.lp (bs [1,0,1,4,5] C65),.eY 0,.jn (bs [1,1] C65)]
def P65_0:Prop:=Part prog 65 T65_0 [0,1,10,11,12] [x0,x1,gG,iZ,oU] w Q
def H65:Nm:=⟨[(2, [0,1,10,11,12],u5 P65_0)], [], [(4,(.leaf (r0 0 20 [])))]⟩
def C66:Code:=cb f66
def T66_0:List It:= [.lp (bs [1,1,1,1,0,1,4,5] C66),.eY 0,.jn (bs [1,1,1,1,1] C66)]
def P66_0:Prop:=Part prog 66 T66_0 [0,3,26,27] [x0,x3,x26,x27] w Q
def T66_1:List It:= [.jn (bs [1,1,1,1,0,1,4,5,1,1,1] C66),.lp (bs [1,1,1,1,0,1,4,5] C66),.eY 0,.jn (bs [1,1,1,1,1] C66)]
def P66_1:Prop:=Part prog 66 T66_1 [0,3,26,27] [x0,x3,x26,x27] w Q
def T66_2:List It:= [.lp (bs [1,1,1,1,1,1,0,1,4,5] C66),.eY 2,.jn (bs [1,1,1,1,1,1,1] C66)]
def P66_2:Prop:=Part prog 66 T66_2 [3,51,52] [x3,x51,x52] w Q
def T66_3:List It:= [.jn (bs [1,1,1,1,1,1,0,1,4,5,1,1,0,4,1,1,1] C66),.eY 3,.jn (bs [1,1,1,1,1,1,0,1,4,5,1,1,1] C66),.lp (bs [1,1,1,1,1,1,0,1,4,5] C66),.eY 2,.jn (bs [1,1,1,1,1,1,1] C66)]
def P66_3:Prop:=Part prog 66 T66_3 [3,6,51,52] [x3,x6,x51,x52] w Q
def T66_4:List It:= [.lp (bs [1,1,1,1,1,1,0,1,4,5,1,1,0,4,1,1,1,1,4,5] C66),.eY 4,.eY 3,.jn (bs [1,1,1,1,1,1,0,1,4,5,1,1,1] C66),.lp (bs [1,1,1,1,1,1,0,1,4,5] C66),.eY 2,.jn (bs [1,1,1,1,1,1,1] C66)]
def P66_4:Prop:=Part prog 66 T66_4 [3,6,51,52,86,87,88] [x3,x6,x51,x52,x86,x87,x88] w Q
def T66_5:List It:= [.jn (bs [1,1,1,1,1,1,0,1,4,5,1,1,0,4,1,1,1,1,4,5,1,1,1] C66),.lp (bs [1,1,1,1,1,1,0,1,4,5,1,1,0,4,1,1,1,1,4,5] C66),.eY 4,.eY 3,.jn (bs [1,1,1,1,1,1,0,1,4,5,1,1,1] C66),.lp (bs [1,1,1,1,1,1,0,1,4,5] C66),.eY 2,.jn (bs [1,1,1,1,1,1,1] C66)]
def P66_5:Prop:=Part prog 66 T66_5 [3,6,51,52,86,87,88] [x3,x6,x51,x52,x86,x87,x88] w Q
def H66:Nm:=⟨[(5, [0,3,26,27],u4 P66_0),(11, [3,51,52],u3 P66_2),(16, [3,6,51,52,86,87,88],u7 P66_4)], [(8, [0,3,26,27],u4 P66_1),(15, [3,6,51,52],u4 P66_3),(19, [3,6,51,52,86,87,88],u7 P66_5)], [(7,(.ask 1 9 (.leaf (r0 0 13 [])) (.leaf [0,2,3,5,4,6,7,8,9,1,10,11,12]))),(14,(.ask 11 7 (.ask 16 7 (.leaf (r0 0 6 (8::9::10::13::14::15::6::11::16::7::12::(r0 17 10 [])))) (.ask 16 12 (.leaf (r0 0 6 (8::9::10::13::14::15::6::11::7::16::12::(r0 17 10 [])))) (.leaf (r0 0 6 (8::9::10::13::14::15::6::11::7::12::(r0 16 11 [])))))) (.ask 16 7 (.leaf (r0 0 6 (8::9::10::13::14::15::6::16::7::11::12::(r0 17 10 [])))) (.ask 16 12 (.leaf (r0 0 6 (8::9::10::13::14::15::6::7::11::16::12::(r0 17 10 [])))) (.leaf (r0 0 27 [])))))),(18,(.ask 3 6 (.leaf (r0 0 9 [])) (.leaf [0,1,2,4,5,6,3,7,8])))]⟩
def H67:Nm:=⟨[], [], []⟩
def C68:Code:=cb Tryz.f68
def T68_0:List It:= [.jn (bs [1,1,1,1] C68)]
def P68_0:Prop:=Part prog 68 T68_0 [1,3,4,5,6] [x1,x3,x4,x5,x6] w Q
def T68_1:List It:= [.jn (bs [1,1,1,1,1] C68)]
def P68_1:Prop:=Part prog 68 T68_1 [1,3,4,5,6] [x1,x3,x4,x5,x6] w Q
def H68:Nm:=⟨[], [(5, [1,3,4,5,6],u5 P68_0),(9, [1,3,4,5,6],u5 P68_1)], []⟩
def H69:Nm:=⟨[], [], [(6,(.leaf (r0 0 11 [])))]⟩
def H70:Nm:=⟨[], [], []⟩
def H71:Nm:=⟨[], [], [(1,(.leaf (r0 0 19 [])))]⟩
def C72:Code:=cb Tryz.f72
def T72_0:List It:= [.lp (bs [1,0,1,4,5] C72),.eY 0,.jn (bs [1,1] C72)]
def P72_0:Prop:=Part prog 72 T72_0 [0,1,7,8] [x0,x1,x7,x8] w Q
def H72:Nm:=⟨[(2, [0,1,7,8],u4 P72_0)], [], []⟩
def C73:Code:=cb Tryz.f73
def T73_0:List It:= [.lp (bs [1,1,0,1,4,5] C73),.eY 0,.jn (bs [1,1,1] C73)]
def P73_0:Prop:=Part prog 73 T73_0 [3,9,10,11] [x3,x9,gG,iZ] w Q
def T73_1:List It:= [.jn (bs [1,1,0,1,4,5,1,1,1] C73),.lp (bs [1,1,0,1,4,5] C73),.eY 0,.jn (bs [1,1,1] C73)]
def P73_1:Prop:=Part prog 73 T73_1 [3,9,10,11] [x3,x9,gG,iZ] w Q
def H73:Nm:=⟨[(3, [3,9,10,11],u4 P73_0)], [(7, [3,9,10,11],u4 P73_1)], []⟩
def H74:Nm:=⟨[], [], []⟩
def H75:Nm:=⟨[], [], []⟩
def H76:Nm:=⟨[], [], []⟩
def H77:Nm:=⟨[], [], [(3,(.leaf (r0 0 13 [])))]⟩
def C78:Code:=cb Tryz.f78
def T78_0:List It:= [.lp (bs [1,0,1,4,5] C78),.eY 0,.jn (bs [1,1] C78)]
def P78_0:Prop:=Part prog 78 T78_0 [0,1,10,11,12] [x0,x1,gG,iZ,oU] w Q
def H78:Nm:=⟨[(2, [0,1,10,11,12],u5 P78_0)], [], []⟩
def H79:Nm:=⟨[], [], []⟩
def C83:Code:=cb Tryz.f83
def T83_0:List It:= [.jn (bs [1,1,1,0,4,1,2,1,1] C83),.eY 0,.jn (bs [1,1,1,1] C83)]
def P83_0:Prop:=Part prog 83 T83_0 [] [] w Q
def H83:Nm:=⟨[], [(9, [],u0 P83_0)], []⟩
def H84:Nm:=⟨[], [], []⟩
def C85:Code:=cb Tryz.f85
def T85_0:List It:= [.jn (bs [1,1] C85)]
def P85_0:Prop:=Part prog 85 T85_0 [5,6] [x5,x6] w Q
def T85_1:List It:= [.lp (bs [1,1,0,1,4,5] C85),.eY 0,.jn (bs [1,1,1] C85)]
def P85_1:Prop:=Part prog 85 T85_1 [5,6,7] [x5,x6,x7] w Q
def T85_2:List It:= [.lp (bs [1,1,0,1,4,5,1,0,4,1,4,5] C85),.eY 2,.eY 1,.jn (bs [1,1,0,1,4,5,1,1] C85),.lp (bs [1,1,0,1,4,5] C85),.eY 0,.jn (bs [1,1,1] C85)]
def P85_2:Prop:=Part prog 85 T85_2 [5,6,7,8] [x5,x6,x7,x8] w Q
def H85:Nm:=⟨[(3, [5,6,7],u3 P85_1),(6, [5,6,7,8],u4 P85_2)], [(2, [5,6],u2 P85_0)], [(1,(.ask 2 1 (.ask 4 5 (.ask 4 1 (.ask 5 1 (.leaf [0,2,4,5,1,3,6,7]) (.ask 5 3 (.leaf [0,2,4,1,5,3,6,7]) (.leaf [0,2,4,1,3,5,6,7]))) (.ask 4 3 (.ask 5 3 (.leaf [0,2,1,4,5,3,6,7]) (.leaf [0,2,1,4,3,5,6,7])) (.leaf (0::2::1::(r0 3 5 []))))) (.ask 5 1 (.ask 4 1 (.leaf [0,2,5,4,1,3,6,7]) (.ask 4 3 (.leaf [0,2,5,1,4,3,6,7]) (.leaf [0,2,5,1,3,4,6,7]))) (.ask 5 3 (.ask 4 3 (.leaf [0,2,1,5,4,3,6,7]) (.leaf [0,2,1,5,3,4,6,7])) (.leaf [0,2,1,3,5,4,6,7])))) (.ask 4 5 (.ask 4 1 (.ask 5 1 (.leaf [0,4,5,1,2,3,6,7]) (.ask 5 3 (.leaf [0,4,1,2,5,3,6,7]) (.leaf [0,4,1,2,3,5,6,7]))) (.ask 4 3 (.ask 5 3 (.leaf [0,1,2,4,5,3,6,7]) (.leaf [0,1,2,4,3,5,6,7])) (.leaf (r0 0 8 [])))) (.ask 5 1 (.ask 4 1 (.leaf [0,5,4,1,2,3,6,7]) (.ask 4 3 (.leaf [0,5,1,2,4,3,6,7]) (.leaf [0,5,1,2,3,4,6,7]))) (.ask 5 3 (.ask 4 3 (.leaf [0,1,2,5,4,3,6,7]) (.leaf [0,1,2,5,3,4,6,7])) (.leaf [0,1,2,3,5,4,6,7])))))),(8,(.leaf (r0 0 13 [])))]⟩
def H86:Nm:=⟨[], [], []⟩
def C88:Code:=cb Tryz.f88
def T88_0:List It:= [.jn (bs [1,0,1,4,1] C88),.eY 0,.jn (bs [1,1] C88)]
def P88_0:Prop:=Part prog 88 T88_0 [3,4] [x3,x4] w Q
def T88_1:List It:= [.jn (bs [1,0,1,4,1,3,1] C88),.eY 0,.jn (bs [1,1] C88)]
def P88_1:Prop:=Part prog 88 T88_1 [3,8] [x3,x8] w Q
def H88:Nm:=⟨[], [(5, [3,4],u2 P88_0),(10, [3,8],u2 P88_1)], []⟩
def H89:Nm:=⟨[], [], []⟩
def C104:Code:=cb Tryz.f104
def T104_0:List It:= [.lp (bs [1,0,1,4,5] C104),.eY 0,.jn (bs [1,1] C104)]
def P104_0:Prop:=Part prog 104 T104_0 [0,1,5] [x0,x1,x5] w Q
def H104:Nm:=⟨[(2, [0,1,5],u3 P104_0)], [], []⟩
def C105:Code:=cb Tryz.f105
def T105_0:List It:= [.lp (bs [1,1,0,1,4,5] C105),.eY 0,.jn (bs [1,1,1] C105)]
def P105_0:Prop:=Part prog 105 T105_0 [0,1,2,7] [x0,x1,x2,x7] w Q
def H105:Nm:=⟨[(4, [0,1,2,7],u4 P105_0)], [], [(6,(.leaf (r0 0 32 [])))]⟩
def C106:Code:=cb Tryz.f106
def T106_0:List It:= [.jn (bs [1,1,1] C106)]
def P106_0:Prop:=Part prog 106 T106_0 [1,3] [x1,x3] w Q
def H106:Nm:=⟨[], [(6, [1,3],u2 P106_0)], []⟩
def C107:Code:=cb Tryz.f107
def T107_0:List It:= [.jn (bs [1,1,1,1] C107)]
def P107_0:Prop:=Part prog 107 T107_0 [0,1,6,7,8,10] [x0,x1,x6,x7,x8,gG] w Q
def T107_1:List It:= [.jn (bs [1,1,1,1,1,1] C107)]
def P107_1:Prop:=Part prog 107 T107_1 [8,11] [x8,iZ] w Q
def H107:Nm:=⟨[], [(6, [0,1,6,7,8,10],u6 P107_0),(41, [8,11],u2 P107_1)], [(12,(.leaf (r0 0 14 [])))]⟩
def C108:Code:=cb Tryz.f108
def T108_0:List It:= [.lp (bs [1,1,0,1,4,5] C108),.eY 0,.jn (bs [1,1,1] C108)]
def P108_0:Prop:=Part prog 108 T108_0 [0,3,4] [x0,x3,x4] w Q
def T108_1:List It:= [.lp (bs [1,1,0,1,4,5,1,0,4,1,1,1,1,0,1,4,5] C108),.eY 2,.jn (bs [1,1,0,1,4,5,1,0,4,1,1,1,1,1] C108),.eY 1,.jn (bs [1,1,0,1,4,5,1,1] C108),.lp (bs [1,1,0,1,4,5] C108),.eY 0,.jn (bs [1,1,1] C108)]
def P108_1:Prop:=Part prog 108 T108_1 [0,3,4,5,6] [x0,x3,x4,x5,x6] w Q
def T108_2:List It:= [.lp (bs [1,1,1,0,1,4,5] C108),.eY 4,.jn (bs [1,1,1,1] C108)]
def P108_2:Prop:=Part prog 108 T108_2 [0,3,7] [x0,x3,x7] w Q
def H108:Nm:=⟨[(3, [0,3,4],u3 P108_0),(10, [0,3,4,5,6],u5 P108_1),(15, [0,3,7],u3 P108_2)], [], [(1,(.ext [0,1,2,4,5,6,8,9,10,13,14,15,18,19,20,3,7,11,16,21,12,17,22,23,24,25])),(12,(.ext (0::2::3::4::6::10::1::5::7::8::9::(r0 11 7 [])))),(13,(.leaf (r0 0 11 []))),(17,(.ext (0::1::2::3::5::6::7::9::4::8::(r0 10 8 []))))]⟩
def H109:Nm:=⟨[], [], []⟩
def H110:Nm:=⟨[], [], []⟩
def H111:Nm:=⟨[], [], []⟩
def H112:Nm:=⟨[], [], []⟩
def H113:Nm:=⟨[], [], []⟩
def H114:Nm:=⟨[], [], []⟩
def H115:Nm:=⟨[], [], []⟩
def H116:Nm:=⟨[], [], []⟩
def H117:Nm:=⟨[], [], []⟩
def H118:Nm:=⟨[], [], []⟩
def H119:Nm:=⟨[], [], []⟩
def H120:Nm:=⟨[], [], []⟩
def H121:Nm:=⟨[], [], []⟩
def C122:Code:=cb Tryz.f122
def T122_0:List It:= [.lp (bs [1,0,1,4,5] C122),.eY 0,.jn (bs [1,1] C122)]
def P122_0:Prop:=Part prog 122 T122_0 [0,3,7,8] [x0,x3,x7,x8] w Q
def H122:Nm:=⟨[(2, [0,3,7,8],u4 P122_0)], [], [(4,(.leaf (r0 0 6 [])))]⟩
def H123:Nm:=⟨[], [], []⟩
def H124:Nm:=⟨[], [], []⟩
def H125:Nm:=⟨[], [], []⟩
def C128:Code:=cb Tryz.f128
def T128_0:List It:= [.jn (bs [1,1,1] C128)]
def P128_0:Prop:=Part prog 128 T128_0 [0,1,6,7,8] [x0,x1,x6,x7,x8] w Q
def T128_1:List It:= [.jn (bs [1,1,1,1,4,1,3,1,3,1,3,1,3,1] C128),.eY 0]
def P128_1:Prop:=Part prog 128 T128_1 [0,6,7,8,117] [x0,x6,x7,x8,x117] w Q
def T128_2:List It:= [.jn (bs [1,1,1,1,4,1,3,1,3,1,3,1,3,1,2,1] C128),.eY 0]
def P128_2:Prop:=Part prog 128 T128_2 [0,6,8,9,10] [x0,x6,x8,x9,gG] w Q
def H128:Nm:=⟨[], [(4, [0,1,6,7,8],u5 P128_0),(22, [0,6,7,8,117],u5 P128_1),(23, [0,6,8,9,10],u5 P128_2)], [(13,(.ask 3 18 (.leaf (r0 0 21 [])) (.leaf [0,1,2,4,5,6,7,9,12,14,8,10,11,13,15,16,17,18,3,19,20]))),(16,(.leaf (r0 0 8 []))),(18,(.leaf (r0 0 8 []))),(22,(.ask 11 9 (.ask 13 9 (.leaf [0,1,2,4,7,10,12,3,5,6,8,11,13,14,9,15,16]) (.leaf [0,1,2,4,7,10,12,3,5,6,8,11,9,15,13,14,16])) (.ask 13 9 (.leaf [0,1,2,4,7,10,12,3,5,6,8,13,9,15,11,14,16]) (.leaf (r0 0 17 []))))),(25,(.leaf (r0 0 16 []))),(27,(.leaf (r0 0 18 []))),(29,(.leaf (r0 0 16 [])))]⟩
def H129:Nm:=⟨[], [], [(9,(.leaf (r0 0 15 []))),(10,(.leaf (r0 0 15 [])))]⟩
def C130:Code:=cb Tryz.f130
def T130_0:List It:= [.jn (bs [1,1,1,1,1,1,1] C130)]
def P130_0:Prop:=Part prog 130 T130_0 [0,7,9,10,11,12] [x0,x7,x9,gG,iZ,oU] w Q
def T130_1:List It:= [.jn (bs [1,1,1,1,1,1,1,1,1] C130)]
def P130_1:Prop:=Part prog 130 T130_1 [0,9,11] [x0,x9,iZ] w Q
def T130_2:List It:= [.jn (bs [1,1,1,1,1,1,1,1,0,1,3,1,1] C130),.jn (bs [1,1,1,1,1,1,1,1,1] C130)]
def P130_2:Prop:=Part prog 130 T130_2 [0,9,11,12] [x0,x9,iZ,oU] w Q
def T130_3:List It:= [.jn (bs [1,1,1,1,1,1,1,1,1,1] C130)]
def P130_3:Prop:=Part prog 130 T130_3 [] [] w Q
def T130_4:List It:= [.jn (bs [1,1,1,1,1,1,1,1,0,1,3,1,1,1] C130),.jn (bs [1,1,1,1,1,1,1,1,1] C130)]
def P130_4:Prop:=Part prog 130 T130_4 [0,9,11,12] [x0,x9,iZ,oU] w Q
def H130:Nm:=⟨[], [(9, [0,7,9,10,11,12],u6 P130_0),(16, [0,9,11,12],u4 P130_2),(17, [0,9,11,12],u4 P130_4),(18, [0,9,11],u3 P130_1),(19, [],u0 P130_3)], [(6,(.leaf (r0 0 12 []))),(8,(.ask 23 29 (.ask 27 29 (.leaf (r0 0 32 [])) (.leaf (0::1::2::4::8::9::10::12::20::21::22::24::3::5::6::7::11::(r0 13 7 [28,23,25,26,29,27,30,31])))) (.leaf (0::1::2::4::8::9::10::12::20::21::22::24::3::5::6::7::11::(r0 13 7 [28,29,23,25,26,27,30,31]))))),(12,(.leaf (r0 0 18 []))),(13,(.leaf (r0 0 19 []))),(15,(.ask 3 16 (.leaf (r0 0 20 [])) (.leaf [0,1,2,4,5,6,7,9,13,8,10,11,12,14,15,16,3,17,18,19]))),(16,(.ask 3 20 (.leaf (r0 0 24 [])) (.leaf [0,1,2,4,5,6,7,9,13,14,15,16,8,10,11,12,17,18,19,20,3,21,22,23]))),(17,(.ask 3 11 (.leaf (r0 0 15 [])) (.leaf (0::1::2::(r0 4 5 [10,9,11,3,12,13,14]))))),(18,(.ask 3 15 (.leaf (r0 0 19 [])) (.leaf (0::1::2::4::5::6::7::9::8::(r0 10 6 [3,16,17,18])))))]⟩
def H131:Nm:=⟨[], [], []⟩
def C155:Code:=cb Tryz.f155
def T155_0:List It:= [.lp (bs [1,0,1,4,5] C155),.eY 0,.jn (bs [1,1] C155)]
def P155_0:Prop:=Part prog 155 T155_0 [0,1,5] [x0,x1,x5] w Q
def H155:Nm:=⟨[(2, [0,1,5],u3 P155_0)], [], []⟩
def H156:Nm:=⟨[], [], []⟩
def H157:Nm:=⟨[], [], []⟩
def H158:Nm:=⟨[], [], []⟩
def H159:Nm:=⟨[], [], []⟩
def C160:Code:=cb Tryz.f160
def T160_0:List It:= [.lp (bs [1,0,1,4,5] C160),.eY 0,.jn (bs [1,1] C160)]
def P160_0:Prop:=Part prog 160 T160_0 [0,1,2,7] [x0,x1,x2,x7] w Q
def H160:Nm:=⟨[(2, [0,1,2,7],u4 P160_0)], [], []⟩
def C161:Code:=cb Tryz.f161
def T161_0:List It:= [.lp (bs [1,0,1,4,5] C161),.eY 0,.jn (bs [1,1] C161)]
def P161_0:Prop:=Part prog 161 T161_0 [0,1,2,3,9] [x0,x1,x2,x3,x9] w Q
def H161:Nm:=⟨[(2, [0,1,2,3,9],u5 P161_0)], [], []⟩
def C162:Code:=cb Tryz.f162
def T162_0:List It:= [.jn (bs [1,1,1] C162)]
def P162_0:Prop:=Part prog 162 T162_0 [8,10,11] [x8,gG,iZ] w Q
def T162_1:List It:= [.jn (bs [1,1,1,0,1,4,1] C162),.eY 1,.jn (bs [1,1,1,1] C162)]
def P162_1:Prop:=Part prog 162 T162_1 [8,10,11,57,58] [x8,gG,iZ,x57,x58] w Q
def T162_2:List It:= [.jn (bs [1,1,1,1] C162)]
def P162_2:Prop:=Part prog 162 T162_2 [10] [gG] w Q
def H162:Nm:=⟨[], [(6, [8,10,11],u3 P162_0),(9, [8,10,11,57,58],u5 P162_1),(13, [10],u1 P162_2)], [(5,(.ask 3 17 (.ask 7 17 (.ask 21 17 (.ask 23 17 (.leaf [0,1,2,4,8,9,10,12,15,20,22,3,5,6,7,11,13,14,16,21,23,24,17,18,19,25,26,27]) (.leaf (0::1::2::4::8::9::10::12::15::20::22::3::5::6::7::11::13::14::16::21::17::18::19::(r0 23 5 [])))) (.ask 23 17 (.leaf [0,1,2,4,8,9,10,12,15,20,22,3,5,6,7,11,13,14,16,23,17,18,19,21,24,25,26,27]) (.leaf (r0 0 28 [])))) (.ask 21 17 (.ask 23 17 (.leaf [0,1,2,4,8,9,10,12,15,20,22,3,5,6,11,13,14,16,21,23,24,17,7,18,19,25,26,27]) (.leaf (0::1::2::4::8::9::10::12::15::20::22::3::5::6::11::13::14::16::21::17::7::18::19::(r0 23 5 [])))) (.ask 23 17 (.leaf [0,1,2,4,8,9,10,12,15,20,22,3,5,6,11,13,14,16,23,17,7,18,19,21,24,25,26,27]) (.leaf (0::1::2::4::8::9::10::12::15::20::22::3::5::6::11::13::14::16::17::7::18::19::21::(r0 23 5 [])))))) (.ask 21 17 (.ask 23 17 (.leaf [0,1,2,4,8,9,10,12,15,20,22,11,13,14,16,21,23,24,17,3,5,6,7,18,19,25,26,27]) (.leaf (0::1::2::4::8::9::10::12::15::20::22::11::13::14::16::21::17::3::5::6::7::18::19::(r0 23 5 [])))) (.ask 23 17 (.leaf [0,1,2,4,8,9,10,12,15,20,22,11,13,14,16,23,17,3,5,6,7,18,19,21,24,25,26,27]) (.leaf (0::1::2::4::8::9::10::12::15::20::22::11::13::14::16::17::3::5::6::7::18::19::21::(r0 23 5 [])))))))]⟩
def C163:Code:=cb Tryz.f163
def T163_0:List It:= [.lp (bs [1,0,1,4,5] C163),.eY 0,.jn (bs [1,1] C163)]
def P163_0:Prop:=Part prog 163 T163_0 [0,3,7,8] [x0,x3,x7,x8] w Q
def H163:Nm:=⟨[(2, [0,3,7,8],u4 P163_0)], [], [(4,(.leaf (r0 0 6 [])))]⟩
def C165:Code:=cb Tryz.f165
def T165_0:List It:= [.lp (bs [1,0,1,4,5] C165),.eY 0,.jn (bs [1,1] C165)]
def P165_0:Prop:=Part prog 165 T165_0 [1,2,5] [x1,x2,x5] w Q
def H165:Nm:=⟨[(2, [1,2,5],u3 P165_0)], [], []⟩
def C166:Code:=cb Tryz.f166
def T166_0:List It:= [.lp (bs [1,1,0,1,4,5] C166),.eY 0,.jn (bs [1,1,1] C166)]
def P166_0:Prop:=Part prog 166 T166_0 [0,3,4] [x0,x3,x4] w Q
def T166_1:List It:= [.jn (bs [1,1,0,1,4,5,1,1] C166),.lp (bs [1,1,0,1,4,5] C166),.eY 0,.jn (bs [1,1,1] C166)]
def P166_1:Prop:=Part prog 166 T166_1 [0,3,4] [x0,x3,x4] w Q
def H166:Nm:=⟨[(3, [0,3,4],u3 P166_0)], [(4, [0,3,4],u3 P166_1)], []⟩
def H167:Nm:=⟨[], [], []⟩
def H168:Nm:=⟨[], [], [(2,(.ask 9 15 (.ask 11 15 (.leaf (r0 0 19 [])) (.leaf (r0 0 9 [10,12,14,9,13,15,11,16,17,18]))) (.ask 11 15 (.leaf (r0 0 9 [10,12,14,11,13,15,9,16,17,18])) (.leaf (r0 0 9 [10,12,14,13,15,9,11,16,17,18])))))]⟩
def C169:Code:=cb Tryz.f169
def T169_0:List It:= [.lp (bs [1,1,1,0,1,4,5] C169),.eY 0,.jn (bs [1,1,1,1] C169)]
def P169_0:Prop:=Part prog 169 T169_0 [0,1,5,6] [x0,x1,x5,x6] w Q
def T169_1:List It:= [.lp (bs [1,1,1,1,0,4,5] C169),.eY 2,.jn (bs [1,1,1,1,1] C169)]
def P169_1:Prop:=Part prog 169 T169_1 [1,5] [x1,x5] w Q
def H169:Nm:=⟨[(5, [0,1,5,6],u4 P169_0),(8, [1,5],u2 P169_1)], [], []⟩
def C170:Code:=cb Tryz.f170
def T170_0:List It:= [.lp (bs [1,0,1,4,5] C170),.eY 0,.jn (bs [1,1] C170)]
def P170_0:Prop:=Part prog 170 T170_0 [0,1,5] [x0,x1,x5] w Q
def H170:Nm:=⟨[(2, [0,1,5],u3 P170_0)], [], []⟩
def H171:Nm:=⟨[], [], []⟩
def C206:Code:=cb Tryz.f206
def T206_0:List It:= [.lp (bs [1,1,1,1,0,1,4,5] C206),.eY 0,.jn (bs [1,1,1,1,1] C206)]
def P206_0:Prop:=Part prog 206 T206_0 [0,3,6,7,8] [x0,x3,x6,x7,x8] w Q
def H206:Nm:=⟨[(6, [0,3,6,7,8],u5 P206_0)], [], [(8,(.leaf (r0 0 13 [])))]⟩
def H208:Nm:=⟨[], [], []⟩
def H209:Nm:=⟨[], [], []⟩
def H210:Nm:=⟨[], [], []⟩
end
section
attribute [local irreducible] prog qq Part P3_0 P11_0 P13_0 P14_0 P17_0 P17_1 P17_2 P17_3 P18_0 P31_0 P33_0 P33_1 P34_0 P34_1 P34_2 P34_3 P36_0 P38_0 P38_1 P38_2 P38_3 P38_4 P40_0 P42_0 P43_0 P43_1 P44_0 P44_1 P50_0 P50_1 P52_0 P59_0 P59_1 P59_2 P63_0 P64_0 P65_0 P66_0 P66_1 P66_2 P66_3 P66_4 P66_5 P68_0 P68_1 P72_0 P73_0 P73_1 P78_0 P83_0 P85_0 P85_1 P85_2 P88_0 P88_1 P104_0 P105_0 P106_0 P107_0 P107_1 P108_0 P108_1 P108_2 P122_0 P128_0 P128_1 P128_2 P130_0 P130_1 P130_2 P130_3 P130_4 P155_0 P160_0 P161_0 P162_0 P162_1 P162_2 P163_0 P165_0 P166_0 P166_1 P169_0 P169_1 P170_0 P206_0
attribute [local irreducible] nP ai bp be fR dF dE aa CallX CallD rdD rdG gv gd gE gU rB nilv cnd World.drew undef rC
attribute [local irreducible] Instr.box Instr.alloc Instr.build Instr.buildSlice Instr.storeAt convert Op.unary Instr.makeInterface Instr.makeSlice Instr.sliceAt Instr.fieldAt Instr.field Instr.indexAt Instr.index Instr.typeAssert Instr.extract
attribute [local irreducible] Builtin.len_ Builtin.cap_ Builtin.min_ Builtin.max_ Builtin.append_ Builtin.copy_
theorem rz{b:Bx}{q:Prop}(h:b.p=q:=by conv=>(lhs;conv=>{arg 1;reduce};simp only[zB,mkA,Int.reduceOfNat,Int.reduceNegSucc])):b.p=q:=h
variable(D:Nat->Prop)(a0 a1 a2 a3 a4 a5 a6 x0 x1 x2 x3 x4 x5 x6 x7 x8 x9 gG iZ oU x13 x14 x15 x16 x17 x18 x19 x20 x21 x22 x23 x24 x25 x26 x27 x28 x29 x30 x31 x32 x33 x34 x35 x36 x37 x38 x39 x40 x41 x42 x43 x44 x45 x46 x47 x48 x49 x50 x51 x52 x53 x54 x55 x56 x57 x58 x59 x60 x61 x62 x63 x64 x65 x66 x67 x68 x69 x70 x71 x72 x73 x74 x75 x76 x77 x78 x79 x80 x81 x82 x83 x84 x85 x86 x87 x88 x89 x90 x91 x92 x93 x94 x95 x96 x97 x98 x99 x100 x101 x102 x103 x104 x105 x106 x107 x108 x109 x110 x111 x112 x113 x114 x115 x116 x117:Value)(w:World)(Q:QQ)
def F3:Prop:=(λp (_:(fx H3 Tryz.f3 [a0,a1,a2,a3,a4,a5] w Q).p=p)=>p) _ rz
def L3_0:Prop:=(λp (_:(gu H3 Tryz.f3 T3_0 [4,5,13,14,15,16] [x4,x5,x13,x14,x15,x16] w Q).p=p)=>p) _ rz
def F9:Prop:=(λp (_:(fx H9 Tryz.f9 [] w Q).p=p)=>p) _ rz
def F11:Prop:=(λp (_:(fx H11 Tryz.f11 [a0,a1] w Q).p=p)=>p) _ rz
def L11_0:Prop:=(λp (_:(gu H11 Tryz.f11 T11_0 [5] [x5] w Q).p=p)=>p) _ rz
def F12:Prop:=(λp (_:(fx H12 Tryz.f12 [a0,a1,a2] w Q).p=p)=>p) _ rz
def F13:Prop:=(λp (_:(fx H13 Tryz.f13 [a0,a1,a2] w Q).p=p)=>p) _ rz
def L13_0:Prop:=(λp (_:(nf H13 Tryz.f13 T13_0 [1,3,8,31,32] [x1,x3,x8,x31,x32] w Q).p=p)=>p) _ rz
def F14:Prop:=(λp (_:(fx H14 Tryz.f14 [a0] w Q).p=p)=>p) _ rz
def L14_0:Prop:=(λp (_:(gu H14 Tryz.f14 T14_0 [4,5] [x4,x5] w Q).p=p)=>p) _ rz
def F15:Prop:=(λp (_:(fx H15 Tryz.f15 [a0,a1] w Q).p=p)=>p) _ rz
def F16:Prop:=(λp (_:(fx H16 Tryz.f16 [a0,a1] w Q).p=p)=>p) _ rz
def F17:Prop:=(λp (_:(fx H17 Tryz.f17 [a0,a1,a2,a3] w Q).p=p)=>p) _ rz
def L17_0:Prop:=(λp (_:(gu H17 Tryz.f17 T17_0 [0,6,7,8,10,28,29] [x0,x6,x7,x8,gG,x28,x29] w Q).p=p)=>p) _ rz
def L17_1:Prop:=(λp (_:(gu H17 Tryz.f17 T17_1 [0,6,7,8,10,28,33] [x0,x6,x7,x8,gG,x28,x33] w Q).p=p)=>p) _ rz
def L17_2:Prop:=(λp (_:(gu H17 Tryz.f17 T17_2 [8,10] [x8,gG] w Q).p=p)=>p) _ rz
def L17_3:Prop:=(λp (_:(gu H17 Tryz.f17 T17_3 [8,10,55] [x8,gG,x55] w Q).p=p)=>p) _ rz
def F18:Prop:=(λp (_:(fx H18 Tryz.f18 [a0,a1,a2,a3,a4] w Q).p=p)=>p) _ rz
def L18_0:Prop:=(λp (_:(gu H18 Tryz.f18 T18_0 [] [] w Q).p=p)=>p) _ rz
def F30:Prop:=(λp (_:(fx H30 Tryz.f30 [a0,a1,a2] w Q).p=p)=>p) _ rz
def F31:Prop:=(λp (_:(fx H31 Tryz.f31 [a0,a1] w Q).p=p)=>p) _ rz
def L31_0:Prop:=(λp (_:(nf H31 Tryz.f31 T31_0 [0,1,5] [x0,x1,x5] w Q).p=p)=>p) _ rz
def F32:Prop:=(λp (_:(fx H32 Tryz.f32 [a0] w Q).p=p)=>p) _ rz
def F33:Prop:=(λp (_:(fx H33 Tryz.f33 [a0] w Q).p=p)=>p) _ rz
def L33_0:Prop:=(λp (_:(nf H33 Tryz.f33 T33_0 [0,6,7,8] [x0,x6,x7,x8] w Q).p=p)=>p) _ rz
def L33_1:Prop:=(λp (_:(nf H33 Tryz.f33 T33_1 [0,4,6,7,8,31,32] [x0,x4,x6,x7,x8,x31,x32] w Q).p=p)=>p) _ rz
def F34:Prop:=(λp (_:(fx H34 Tryz.f34 [a0,a1] w Q).p=p)=>p) _ rz
def L34_0:Prop:=(λp (_:(nf H34 Tryz.f34 T34_0 [0,1,16,17,18] [x0,x1,x16,x17,x18] w Q).p=p)=>p) _ rz
def L34_1:Prop:=(λp (_:(gu H34 Tryz.f34 T34_1 [0,1,16,17,18] [x0,x1,x16,x17,x18] w Q).p=p)=>p) _ rz
def L34_2:Prop:=(λp (_:(gu H34 Tryz.f34 T34_2 [0,1,5,6,7,8,9,16,17,18] [x0,x1,x5,x6,x7,x8,x9,x16,x17,x18] w Q).p=p)=>p) _ rz
def L34_3:Prop:=(λp (_:(gu H34 Tryz.f34 T34_3 [0,1,5,6,7,16,17,18] [x0,x1,x5,x6,x7,x16,x17,x18] w Q).p=p)=>p) _ rz
def F35:Prop:=(λp (_:(fx H35 Tryz.f35 [a0] w Q).p=p)=>p) _ rz
def F36:Prop:=(λp (_:(fx H36 Tryz.f36 [a0,a1] w Q).p=p)=>p) _ rz
def L36_0:Prop:=(λp (_:(nf H36 Tryz.f36 T36_0 [0,1,4,5,18,19,20] [x0,x1,x4,x5,x18,x19,x20] w Q).p=p)=>p) _ rz
def F37:Prop:=(λp (_:(fx H37 Tryz.f37 [a0,a1,a2] w Q).p=p)=>p) _ rz
def F38:Prop:=(λp (_:(fx H38 f38 [a0,a1,a2,a3] w Q).p=p)=>p) _ rz
def L38_0:Prop:=(λp (_:(gu H38 f38 T38_0 [0,6,7,10,11] [x0,x6,x7,gG,iZ] w Q).p=p)=>p) _ rz
def L38_1:Prop:=(λp (_:(gu H38 f38 T38_1 [0,6,7,10,12,13] [x0,x6,x7,gG,oU,x13] w Q).p=p)=>p) _ rz
def L38_2:Prop:=(λp (_:(gu H38 f38 T38_2 [] [] w Q).p=p)=>p) _ rz
def L38_3:Prop:=(λp (_:(gu H38 f38 T38_3 [6,7,12,13,45,94] [x6,x7,oU,x13,x45,x94] w Q).p=p)=>p) _ rz
def L38_4:Prop:=(λp (_:(gu H38 f38 T38_4 [13,108] [x13,x108] w Q).p=p)=>p) _ rz
def F39:Prop:=(λp (_:(fx H39 Tryz.f39 [a0,a1,a2] w Q).p=p)=>p) _ rz
def F40:Prop:=(λp (_:(fx H40 Tryz.f40 [a0,a1] w Q).p=p)=>p) _ rz
def L40_0:Prop:=(λp (_:(nf H40 Tryz.f40 T40_0 [0,3,10,11] [x0,x3,gG,iZ] w Q).p=p)=>p) _ rz
def F41:Prop:=(λp (_:(fx H41 Tryz.f41 [a0] w Q).p=p)=>p) _ rz
def F42:Prop:=(λp (_:(fx H42 Tryz.f42 [a0,a1,a2,a3] w Q).p=p)=>p) _ rz
def L42_0:Prop:=(λp (_:(gu H42 Tryz.f42 T42_0 [0,6,7,8,9] [x0,x6,x7,x8,x9] w Q).p=p)=>p) _ rz
def F43:Prop:=(λp (_:(fx H43 Tryz.f43 [a0,a1,a2] w Q).p=p)=>p) _ rz
def L43_0:Prop:=(λp (_:(gu H43 Tryz.f43 T43_0 [0,1,5,7] [x0,x1,x5,x7] w Q).p=p)=>p) _ rz
def L43_1:Prop:=(λp (_:(gu H43 Tryz.f43 T43_1 [] [] w Q).p=p)=>p) _ rz
def F44:Prop:=(λp (_:(fx H44 Tryz.f44 [a0,a1,a2,a3] w Q).p=p)=>p) _ rz
def L44_0:Prop:=(λp (_:(gu H44 Tryz.f44 T44_0 [0,7,9,10,11,12] [x0,x7,x9,gG,iZ,oU] w Q).p=p)=>p) _ rz
def L44_1:Prop:=(λp (_:(gu H44 Tryz.f44 T44_1 [9,11] [x9,iZ] w Q).p=p)=>p) _ rz
def F50:Prop:=(λp (_:(fx H50 Tryz.f50 [a0] w Q).p=p)=>p) _ rz
def L50_0:Prop:=(λp (_:(nf H50 Tryz.f50 T50_0 [0,3] [x0,x3] w Q).p=p)=>p) _ rz
def L50_1:Prop:=(λp (_:(nf H50 Tryz.f50 T50_1 [0,3,4] [x0,x3,x4] w Q).p=p)=>p) _ rz
def F52:Prop:=(λp (_:(fx H52 Tryz.f52 [a0,a1] w Q).p=p)=>p) _ rz
def L52_0:Prop:=(λp (_:(nf H52 Tryz.f52 T52_0 [0,1,4,5] [x0,x1,x4,x5] w Q).p=p)=>p) _ rz
def F54:Prop:=(λp (_:(fx H54 Tryz.f54 [a0] w Q).p=p)=>p) _ rz
def F59:Prop:=(λp (_:(fx H59 Tryz.f59 [a0,a1,a2] w Q).p=p)=>p) _ rz
def L59_0:Prop:=(λp (_:(nf H59 Tryz.f59 T59_0 [0,1,2,8] [x0,x1,x2,x8] w Q).p=p)=>p) _ rz
def L59_1:Prop:=(λp (_:(gu H59 Tryz.f59 T59_1 [0,1,2,8] [x0,x1,x2,x8] w Q).p=p)=>p) _ rz
def L59_2:Prop:=(λp (_:(gu H59 Tryz.f59 T59_2 [0,1,2,8,9,10,11] [x0,x1,x2,x8,x9,gG,iZ] w Q).p=p)=>p) _ rz
def F60:Prop:=(λp (_:(fx H60 Tryz.f60 [a0,a1] w Q).p=p)=>p) _ rz
def F61:Prop:=(λp (_:(fx H61 Tryz.f61 [a0,a1,a2] w Q).p=p)=>p) _ rz
def F62:Prop:=(λp (_:(fx H62 Tryz.f62 [a0] w Q).p=p)=>p) _ rz
def F63:Prop:=(λp (_:(fx H63 Tryz.f63 [a0,a1] w Q).p=p)=>p) _ rz
def L63_0:Prop:=(λp (_:(nf H63 Tryz.f63 T63_0 [5,25,26,27] [x5,x25,x26,x27] w Q).p=p)=>p) _ rz
def F64:Prop:=(λp (_:(fx H64 Tryz.f64 [a0] w Q).p=p)=>p) _ rz
def L64_0:Prop:=(λp (_:(nf H64 Tryz.f64 T64_0 [0,8,9,10] [x0,x8,x9,gG] w Q).p=p)=>p) _ rz
def F65:Prop:=(λp (_:(fx H65 Tryz.f65 [a0,a1] w Q).p=p)=>p) _ rz
def L65_0:Prop:=(λp (_:(nf H65 Tryz.f65 T65_0 [0,1,10,11,12] [x0,x1,gG,iZ,oU] w Q).p=p)=>p) _ rz
def F66:Prop:=(λp (_:(fx H66 f66 [a0] w Q).p=p)=>p) _ rz
def L66_0:Prop:=(λp (_:(nf H66 f66 T66_0 [0,3,26,27] [x0,x3,x26,x27] w Q).p=p)=>p) _ rz
def L66_1:Prop:=(λp (_:(gu H66 f66 T66_1 [0,3,26,27] [x0,x3,x26,x27] w Q).p=p)=>p) _ rz
def L66_2:Prop:=(λp (_:(nf H66 f66 T66_2 [3,51,52] [x3,x51,x52] w Q).p=p)=>p) _ rz
def L66_3:Prop:=(λp (_:(gu H66 f66 T66_3 [3,6,51,52] [x3,x6,x51,x52] w Q).p=p)=>p) _ rz
def L66_4:Prop:=(λp (_:(nf H66 f66 T66_4 [3,6,51,52,86,87,88] [x3,x6,x51,x52,x86,x87,x88] w Q).p=p)=>p) _ rz
def L66_5:Prop:=(λp (_:(gu H66 f66 T66_5 [3,6,51,52,86,87,88] [x3,x6,x51,x52,x86,x87,x88] w Q).p=p)=>p) _ rz
def F67:Prop:=(λp (_:(fx H67 Tryz.f67 [a0] w Q).p=p)=>p) _ rz
def F68:Prop:=(λp (_:(fx H68 Tryz.f68 [a0] w Q).p=p)=>p) _ rz
def L68_0:Prop:=(λp (_:(gu H68 Tryz.f68 T68_0 [1,3,4,5,6] [x1,x3,x4,x5,x6] w Q).p=p)=>p) _ rz
def L68_1:Prop:=(λp (_:(gu H68 Tryz.f68 T68_1 [1,3,4,5,6] [x1,x3,x4,x5,x6] w Q).p=p)=>p) _ rz
def F69:Prop:=(λp (_:(fx H69 Tryz.f69 [a0,a1,a2] w Q).p=p)=>p) _ rz
def F70:Prop:=(λp (_:(fx H70 Tryz.f70 [a0,a1] w Q).p=p)=>p) _ rz
def F71:Prop:=(λp (_:(fx H71 Tryz.f71 [a0,a1] w Q).p=p)=>p) _ rz
def F72:Prop:=(λp (_:(fx H72 Tryz.f72 [a0,a1] w Q).p=p)=>p) _ rz
def L72_0:Prop:=(λp (_:(nf H72 Tryz.f72 T72_0 [0,1,7,8] [x0,x1,x7,x8] w Q).p=p)=>p) _ rz
def F73:Prop:=(λp (_:(fx H73 Tryz.f73 [a0] w Q).p=p)=>p) _ rz
def L73_0:Prop:=(λp (_:(nf H73 Tryz.f73 T73_0 [3,9,10,11] [x3,x9,gG,iZ] w Q).p=p)=>p) _ rz
def L73_1:Prop:=(λp (_:(gu H73 Tryz.f73 T73_1 [3,9,10,11] [x3,x9,gG,iZ] w Q).p=p)=>p) _ rz
def F74:Prop:=(λp (_:(fx H74 Tryz.f74 [a0,a1] w Q).p=p)=>p) _ rz
def F75:Prop:=(λp (_:(fx H75 Tryz.f75 [a0,a1] w Q).p=p)=>p) _ rz
def F76:Prop:=(λp (_:(fx H76 Tryz.f76 [a0,a1,a2] w Q).p=p)=>p) _ rz
def F77:Prop:=(λp (_:(fx H77 Tryz.f77 [a0] w Q).p=p)=>p) _ rz
def F78:Prop:=(λp (_:(fx H78 Tryz.f78 [a0,a1] w Q).p=p)=>p) _ rz
def L78_0:Prop:=(λp (_:(nf H78 Tryz.f78 T78_0 [0,1,10,11,12] [x0,x1,gG,iZ,oU] w Q).p=p)=>p) _ rz
def F79:Prop:=(λp (_:(fx H79 Tryz.f79 [a0,a1] w Q).p=p)=>p) _ rz
def F83:Prop:=(λp (_:(fx H83 Tryz.f83 [a0,a1,a2,a3,a4] w Q).p=p)=>p) _ rz
def L83_0:Prop:=(λp (_:(gu H83 Tryz.f83 T83_0 [] [] w Q).p=p)=>p) _ rz
def F84:Prop:=(λp (_:(fx H84 Tryz.f84 [a0] w Q).p=p)=>p) _ rz
def F85:Prop:=(λp (_:(fx H85 Tryz.f85 [a0,a1] w Q).p=p)=>p) _ rz
def L85_0:Prop:=(λp (_:(gu H85 Tryz.f85 T85_0 [5,6] [x5,x6] w Q).p=p)=>p) _ rz
def L85_1:Prop:=(λp (_:(nf H85 Tryz.f85 T85_1 [5,6,7] [x5,x6,x7] w Q).p=p)=>p) _ rz
def L85_2:Prop:=(λp (_:(nf H85 Tryz.f85 T85_2 [5,6,7,8] [x5,x6,x7,x8] w Q).p=p)=>p) _ rz
def F86:Prop:=(λp (_:(fx H86 Tryz.f86 [a0,a1] w Q).p=p)=>p) _ rz
def F88:Prop:=(λp (_:(fx H88 Tryz.f88 [a0] w Q).p=p)=>p) _ rz
def L88_0:Prop:=(λp (_:(gu H88 Tryz.f88 T88_0 [3,4] [x3,x4] w Q).p=p)=>p) _ rz
def L88_1:Prop:=(λp (_:(gu H88 Tryz.f88 T88_1 [3,8] [x3,x8] w Q).p=p)=>p) _ rz
def F89:Prop:=(λp (_:(fx H89 Tryz.f89 [a0,a1,a2] w Q).p=p)=>p) _ rz
def F104:Prop:=(λp (_:(fx H104 Tryz.f104 [a0,a1] w Q).p=p)=>p) _ rz
def L104_0:Prop:=(λp (_:(nf H104 Tryz.f104 T104_0 [0,1,5] [x0,x1,x5] w Q).p=p)=>p) _ rz
def F105:Prop:=(λp (_:(fx H105 Tryz.f105 [a0,a1,a2] w Q).p=p)=>p) _ rz
def L105_0:Prop:=(λp (_:(nf H105 Tryz.f105 T105_0 [0,1,2,7] [x0,x1,x2,x7] w Q).p=p)=>p) _ rz
def F106:Prop:=(λp (_:(fx H106 Tryz.f106 [a0] w Q).p=p)=>p) _ rz
def L106_0:Prop:=(λp (_:(gu H106 Tryz.f106 T106_0 [1,3] [x1,x3] w Q).p=p)=>p) _ rz
def F107:Prop:=(λp (_:(fx H107 Tryz.f107 [a0,a1,a2,a3] w Q).p=p)=>p) _ rz
def L107_0:Prop:=(λp (_:(gu H107 Tryz.f107 T107_0 [0,1,6,7,8,10] [x0,x1,x6,x7,x8,gG] w Q).p=p)=>p) _ rz
def L107_1:Prop:=(λp (_:(gu H107 Tryz.f107 T107_1 [8,11] [x8,iZ] w Q).p=p)=>p) _ rz
def F108:Prop:=(λp (_:(fx H108 Tryz.f108 [a0] w Q).p=p)=>p) _ rz
def L108_0:Prop:=(λp (_:(nf H108 Tryz.f108 T108_0 [0,3,4] [x0,x3,x4] w Q).p=p)=>p) _ rz
def L108_1:Prop:=(λp (_:(nf H108 Tryz.f108 T108_1 [0,3,4,5,6] [x0,x3,x4,x5,x6] w Q).p=p)=>p) _ rz
def L108_2:Prop:=(λp (_:(nf H108 Tryz.f108 T108_2 [0,3,7] [x0,x3,x7] w Q).p=p)=>p) _ rz
def F109:Prop:=(λp (_:(fx H109 Tryz.f109 [a0,a1] w Q).p=p)=>p) _ rz
def F110:Prop:=(λp (_:(fx H110 Tryz.f110 [a0,a1] w Q).p=p)=>p) _ rz
def F111:Prop:=(λp (_:(fx H111 Tryz.f111 [a0] w Q).p=p)=>p) _ rz
def F112:Prop:=(λp (_:(fx H112 Tryz.f112 [a0] w Q).p=p)=>p) _ rz
def F113:Prop:=(λp (_:(fx H113 Tryz.f113 [a0] w Q).p=p)=>p) _ rz
def F114:Prop:=(λp (_:(fx H114 Tryz.f114 [a0] w Q).p=p)=>p) _ rz
def F115:Prop:=(λp (_:(fx H115 Tryz.f115 [a0] w Q).p=p)=>p) _ rz
def F116:Prop:=(λp (_:(fx H116 Tryz.f116 [a0] w Q).p=p)=>p) _ rz
def F117:Prop:=(λp (_:(fx H117 Tryz.f117 [a0] w Q).p=p)=>p) _ rz
def F118:Prop:=(λp (_:(fx H118 Tryz.f118 [a0] w Q).p=p)=>p) _ rz
def F119:Prop:=(λp (_:(fx H119 Tryz.f119 [a0] w Q).p=p)=>p) _ rz
def F120:Prop:=(λp (_:(fx H120 Tryz.f120 [a0,a1] w Q).p=p)=>p) _ rz
def F121:Prop:=(λp (_:(fx H121 Tryz.f121 [a0,a1] w Q).p=p)=>p) _ rz
def F122:Prop:=(λp (_:(fx H122 Tryz.f122 [a0,a1] w Q).p=p)=>p) _ rz
def L122_0:Prop:=(λp (_:(nf H122 Tryz.f122 T122_0 [0,3,7,8] [x0,x3,x7,x8] w Q).p=p)=>p) _ rz
def F123:Prop:=(λp (_:(fx H123 Tryz.f123 [a0,a1,a2] w Q).p=p)=>p) _ rz
def F124:Prop:=(λp (_:(fx H124 Tryz.f124 [a0,a1] w Q).p=p)=>p) _ rz
def F125:Prop:=(λp (_:(fx H125 Tryz.f125 [a0,a1] w Q).p=p)=>p) _ rz
def F128:Prop:=(λp (_:(fx H128 Tryz.f128 [a0,a1,a2,a3] w Q).p=p)=>p) _ rz
def L128_0:Prop:=(λp (_:(gu H128 Tryz.f128 T128_0 [0,1,6,7,8] [x0,x1,x6,x7,x8] w Q).p=p)=>p) _ rz
def L128_1:Prop:=(λp (_:(gu H128 Tryz.f128 T128_1 [0,6,7,8,117] [x0,x6,x7,x8,x117] w Q).p=p)=>p) _ rz
def L128_2:Prop:=(λp (_:(gu H128 Tryz.f128 T128_2 [0,6,8,9,10] [x0,x6,x8,x9,gG] w Q).p=p)=>p) _ rz
def F129:Prop:=(λp (_:(fx H129 Tryz.f129 [a0,a1,a2] w Q).p=p)=>p) _ rz
def F130:Prop:=(λp (_:(fx H130 Tryz.f130 [a0,a1,a2,a3] w Q).p=p)=>p) _ rz
def L130_0:Prop:=(λp (_:(gu H130 Tryz.f130 T130_0 [0,7,9,10,11,12] [x0,x7,x9,gG,iZ,oU] w Q).p=p)=>p) _ rz
def L130_1:Prop:=(λp (_:(gu H130 Tryz.f130 T130_1 [0,9,11] [x0,x9,iZ] w Q).p=p)=>p) _ rz
def L130_2:Prop:=(λp (_:(gu H130 Tryz.f130 T130_2 [0,9,11,12] [x0,x9,iZ,oU] w Q).p=p)=>p) _ rz
def L130_3:Prop:=(λp (_:(gu H130 Tryz.f130 T130_3 [] [] w Q).p=p)=>p) _ rz
def L130_4:Prop:=(λp (_:(gu H130 Tryz.f130 T130_4 [0,9,11,12] [x0,x9,iZ,oU] w Q).p=p)=>p) _ rz
def F131:Prop:=(λp (_:(fx H131 Tryz.f131 [a0] w Q).p=p)=>p) _ rz
def F155:Prop:=(λp (_:(fx H155 Tryz.f155 [a0,a1] w Q).p=p)=>p) _ rz
def L155_0:Prop:=(λp (_:(nf H155 Tryz.f155 T155_0 [0,1,5] [x0,x1,x5] w Q).p=p)=>p) _ rz
def F156:Prop:=(λp (_:(fx H156 Tryz.f156 [a0] w Q).p=p)=>p) _ rz
def F157:Prop:=(λp (_:(fx H157 Tryz.f157 [a0,a1,a2] w Q).p=p)=>p) _ rz
def F158:Prop:=(λp (_:(fx H158 Tryz.f158 [a0] w Q).p=p)=>p) _ rz
def F159:Prop:=(λp (_:(fx H159 Tryz.f159 [a0,a1,a2] w Q).p=p)=>p) _ rz
def F160:Prop:=(λp (_:(fx H160 Tryz.f160 [a0,a1,a2] w Q).p=p)=>p) _ rz
def L160_0:Prop:=(λp (_:(nf H160 Tryz.f160 T160_0 [0,1,2,7] [x0,x1,x2,x7] w Q).p=p)=>p) _ rz
def F161:Prop:=(λp (_:(fx H161 Tryz.f161 [a0,a1,a2,a3] w Q).p=p)=>p) _ rz
def L161_0:Prop:=(λp (_:(nf H161 Tryz.f161 T161_0 [0,1,2,3,9] [x0,x1,x2,x3,x9] w Q).p=p)=>p) _ rz
def F162:Prop:=(λp (_:(fx H162 Tryz.f162 [a0,a1,a2,a3,a4] w Q).p=p)=>p) _ rz
def L162_0:Prop:=(λp (_:(gu H162 Tryz.f162 T162_0 [8,10,11] [x8,gG,iZ] w Q).p=p)=>p) _ rz
def L162_1:Prop:=(λp (_:(gu H162 Tryz.f162 T162_1 [8,10,11,57,58] [x8,gG,iZ,x57,x58] w Q).p=p)=>p) _ rz
def L162_2:Prop:=(λp (_:(gu H162 Tryz.f162 T162_2 [10] [gG] w Q).p=p)=>p) _ rz
def F163:Prop:=(λp (_:(fx H163 Tryz.f163 [a0,a1] w Q).p=p)=>p) _ rz
def L163_0:Prop:=(λp (_:(nf H163 Tryz.f163 T163_0 [0,3,7,8] [x0,x3,x7,x8] w Q).p=p)=>p) _ rz
def F165:Prop:=(λp (_:(fx H165 Tryz.f165 [a0,a1] w Q).p=p)=>p) _ rz
def L165_0:Prop:=(λp (_:(nf H165 Tryz.f165 T165_0 [1,2,5] [x1,x2,x5] w Q).p=p)=>p) _ rz
def F166:Prop:=(λp (_:(fx H166 Tryz.f166 [a0] w Q).p=p)=>p) _ rz
def L166_0:Prop:=(λp (_:(nf H166 Tryz.f166 T166_0 [0,3,4] [x0,x3,x4] w Q).p=p)=>p) _ rz
def L166_1:Prop:=(λp (_:(gu H166 Tryz.f166 T166_1 [0,3,4] [x0,x3,x4] w Q).p=p)=>p) _ rz
def F167:Prop:=(λp (_:(fx H167 Tryz.f167 [a0] w Q).p=p)=>p) _ rz
def F168:Prop:=(λp (_:(fx H168 Tryz.f168 [a0,a1,a2] w Q).p=p)=>p) _ rz
def F169:Prop:=(λp (_:(fx H169 Tryz.f169 [a0,a1] w Q).p=p)=>p) _ rz
def L169_0:Prop:=(λp (_:(nf H169 Tryz.f169 T169_0 [0,1,5,6] [x0,x1,x5,x6] w Q).p=p)=>p) _ rz
def L169_1:Prop:=(λp (_:(nf H169 Tryz.f169 T169_1 [1,5] [x1,x5] w Q).p=p)=>p) _ rz
def F170:Prop:=(λp (_:(fx H170 Tryz.f170 [a0,a1] w Q).p=p)=>p) _ rz
def L170_0:Prop:=(λp (_:(nf H170 Tryz.f170 T170_0 [0,1,5] [x0,x1,x5] w Q).p=p)=>p) _ rz
def F171:Prop:=(λp (_:(fx H171 Tryz.f171 [a0,a1] w Q).p=p)=>p) _ rz
def F206:Prop:=(λp (_:(fx H206 Tryz.f206 [a0,a1] w Q).p=p)=>p) _ rz
def L206_0:Prop:=(λp (_:(nf H206 Tryz.f206 T206_0 [0,3,6,7,8] [x0,x3,x6,x7,x8] w Q).p=p)=>p) _ rz
def F208:Prop:=(λp (_:(fx H208 Tryz.f208 [a0,a1,a2] w Q).p=p)=>p) _ rz
def F209:Prop:=(λp (_:(fx H209 Tryz.f209 [a0,a1] w Q).p=p)=>p) _ rz
def F210:Prop:=(λp (_:(fx H210 Tryz.f210 [a0,a1] w Q).p=p)=>p) _ rz
end
section
variable{D:Nat->Prop}{a0 a1 a2 a3 a4 a5 a6 x0 x1 x2 x3 x4 x5 x6 x7 x8 x9 gG iZ oU x13 x14 x15 x16 x17 x18 x19 x20 x21 x22 x23 x24 x25 x26 x27 x28 x29 x30 x31 x32 x33 x34 x35 x36 x37 x38 x39 x40 x41 x42 x43 x44 x45 x46 x47 x48 x49 x50 x51 x52 x53 x54 x55 x56 x57 x58 x59 x60 x61 x62 x63 x64 x65 x66 x67 x68 x69 x70 x71 x72 x73 x74 x75 x76 x77 x78 x79 x80 x81 x82 x83 x84 x85 x86 x87 x88 x89 x90 x91 x92 x93 x94 x95 x96 x97 x98 x99 x100 x101 x102 x103 x104 x105 x106 x107 x108 x109 x110 x111 x112 x113 x114 x115 x116 x117:Value}{w:World}{Q:QQ}
theorem F3_ok(h:F3 a0 a1 a2 a3 a4 a5 w Q):aa prog 3 [a0,a1,a2,a3,a4,a5] w Q:=cG H3 Tryz.func3 h
theorem L3_0_ok(h:L3_0 x4 x5 x13 x14 x15 x16 w Q):P3_0 x4 x5 x13 x14 x15 x16 w Q:=pJ H3 Tryz.func3 h
theorem F9_ok(h:F9  w Q):aa prog 9 [] w Q:=cG H9 Tryz.func9 h
theorem F11_ok(h:F11 a0 a1 w Q):aa prog 11 [a0,a1] w Q:=cG H11 Tryz.func11 h
theorem L11_0_ok(h:L11_0 x5 w Q):P11_0 x5 w Q:=pJ H11 Tryz.func11 h
theorem F12_ok(h:F12 a0 a1 a2 w Q):aa prog 12 [a0,a1,a2] w Q:=cG H12 Tryz.func12 h
theorem F13_ok(h:F13 a0 a1 a2 w Q):aa prog 13 [a0,a1,a2] w Q:=cG H13 Tryz.func13 h
theorem L13_0_ok(h:L13_0 x1 x3 x8 x31 x32 w Q):P13_0 x1 x3 x8 x31 x32 w Q:=pL H13 Tryz.func13 h
theorem F14_ok(h:F14 a0 w Q):aa prog 14 [a0] w Q:=cG H14 Tryz.func14 h
theorem L14_0_ok(h:L14_0 x4 x5 w Q):P14_0 x4 x5 w Q:=pJ H14 Tryz.func14 h
theorem F15_ok(h:F15 a0 a1 w Q):aa prog 15 [a0,a1] w Q:=cG H15 Tryz.func15 h
theorem F16_ok(h:F16 a0 a1 w Q):aa prog 16 [a0,a1] w Q:=cG H16 Tryz.func16 h
theorem F17_ok(h:F17 a0 a1 a2 a3 w Q):aa prog 17 [a0,a1,a2,a3] w Q:=cG H17 Tryz.func17 h
theorem L17_0_ok(h:L17_0 x0 x6 x7 x8 gG x28 x29 w Q):P17_0 x0 x6 x7 x8 gG x28 x29 w Q:=pJ H17 Tryz.func17 h
theorem L17_1_ok(h:L17_1 x0 x6 x7 x8 gG x28 x33 w Q):P17_1 x0 x6 x7 x8 gG x28 x33 w Q:=pJ H17 Tryz.func17 h
theorem L17_2_ok(h:L17_2 x8 gG w Q):P17_2 x8 gG w Q:=pJ H17 Tryz.func17 h
theorem L17_3_ok(h:L17_3 x8 gG x55 w Q):P17_3 x8 gG x55 w Q:=pJ H17 Tryz.func17 h
theorem F18_ok(h:F18 a0 a1 a2 a3 a4 w Q):aa prog 18 [a0,a1,a2,a3,a4] w Q:=cG H18 Tryz.func18 h
theorem L18_0_ok(h:L18_0  w Q):P18_0  w Q:=pJ H18 Tryz.func18 h
theorem F30_ok(h:F30 a0 a1 a2 w Q):aa prog 30 [a0,a1,a2] w Q:=cG H30 Tryz.func30 h
theorem F31_ok(h:F31 a0 a1 w Q):aa prog 31 [a0,a1] w Q:=cG H31 Tryz.func31 h
theorem L31_0_ok(h:L31_0 x0 x1 x5 w Q):P31_0 x0 x1 x5 w Q:=pL H31 Tryz.func31 h
theorem F32_ok(h:F32 a0 w Q):aa prog 32 [a0] w Q:=cG H32 Tryz.func32 h
theorem F33_ok(h:F33 a0 w Q):aa prog 33 [a0] w Q:=cG H33 Tryz.func33 h
theorem L33_0_ok(h:L33_0 x0 x6 x7 x8 w Q):P33_0 x0 x6 x7 x8 w Q:=pL H33 Tryz.func33 h
theorem L33_1_ok(h:L33_1 x0 x4 x6 x7 x8 x31 x32 w Q):P33_1 x0 x4 x6 x7 x8 x31 x32 w Q:=pL H33 Tryz.func33 h
theorem F34_ok(h:F34 a0 a1 w Q):aa prog 34 [a0,a1] w Q:=cG H34 Tryz.func34 h
theorem L34_0_ok(h:L34_0 x0 x1 x16 x17 x18 w Q):P34_0 x0 x1 x16 x17 x18 w Q:=pL H34 Tryz.func34 h
theorem L34_1_ok(h:L34_1 x0 x1 x16 x17 x18 w Q):P34_1 x0 x1 x16 x17 x18 w Q:=pJ H34 Tryz.func34 h
theorem L34_2_ok(h:L34_2 x0 x1 x5 x6 x7 x8 x9 x16 x17 x18 w Q):P34_2 x0 x1 x5 x6 x7 x8 x9 x16 x17 x18 w Q:=pJ H34 Tryz.func34 h
theorem L34_3_ok(h:L34_3 x0 x1 x5 x6 x7 x16 x17 x18 w Q):P34_3 x0 x1 x5 x6 x7 x16 x17 x18 w Q:=pJ H34 Tryz.func34 h
theorem F35_ok(h:F35 a0 w Q):aa prog 35 [a0] w Q:=cG H35 Tryz.func35 h
theorem F36_ok(h:F36 a0 a1 w Q):aa prog 36 [a0,a1] w Q:=cG H36 Tryz.func36 h
theorem L36_0_ok(h:L36_0 x0 x1 x4 x5 x18 x19 x20 w Q):P36_0 x0 x1 x4 x5 x18 x19 x20 w Q:=pL H36 Tryz.func36 h
theorem F37_ok(h:F37 a0 a1 a2 w Q):aa prog 37 [a0,a1,a2] w Q:=cG H37 Tryz.func37 h
theorem F38_ok(h:F38 a0 a1 a2 a3 w Q):aa prog 38 [a0,a1,a2,a3] w Q:=cG H38 Tryz.func38 h
theorem L38_0_ok(h:L38_0 x0 x6 x7 gG iZ w Q):P38_0 x0 x6 x7 gG iZ w Q:=pJ H38 Tryz.func38 h
theorem L38_1_ok(h:L38_1 x0 x6 x7 gG oU x13 w Q):P38_1 x0 x6 x7 gG oU x13 w Q:=pJ H38 Tryz.func38 h
theorem L38_2_ok(h:L38_2  w Q):P38_2  w Q:=pJ H38 Tryz.func38 h
theorem L38_3_ok(h:L38_3 x6 x7 oU x13 x45 x94 w Q):P38_3 x6 x7 oU x13 x45 x94 w Q:=pJ H38 Tryz.func38 h
theorem L38_4_ok(h:L38_4 x13 x108 w Q):P38_4 x13 x108 w Q:=pJ H38 Tryz.func38 h
theorem F39_ok(h:F39 a0 a1 a2 w Q):aa prog 39 [a0,a1,a2] w Q:=cG H39 Tryz.func39 h
theorem F40_ok(h:F40 a0 a1 w Q):aa prog 40 [a0,a1] w Q:=cG H40 Tryz.func40 h
theorem L40_0_ok(h:L40_0 x0 x3 gG iZ w Q):P40_0 x0 x3 gG iZ w Q:=pL H40 Tryz.func40 h
theorem F41_ok(h:F41 a0 w Q):aa prog 41 [a0] w Q:=cG H41 Tryz.func41 h
theorem F42_ok(h:F42 a0 a1 a2 a3 w Q):aa prog 42 [a0,a1,a2,a3] w Q:=cG H42 Tryz.func42 h
theorem L42_0_ok(h:L42_0 x0 x6 x7 x8 x9 w Q):P42_0 x0 x6 x7 x8 x9 w Q:=pJ H42 Tryz.func42 h
theorem F43_ok(h:F43 a0 a1 a2 w Q):aa prog 43 [a0,a1,a2] w Q:=cG H43 Tryz.func43 h
theorem L43_0_ok(h:L43_0 x0 x1 x5 x7 w Q):P43_0 x0 x1 x5 x7 w Q:=pJ H43 Tryz.func43 h
theorem L43_1_ok(h:L43_1  w Q):P43_1  w Q:=pJ H43 Tryz.func43 h
theorem F44_ok(h:F44 a0 a1 a2 a3 w Q):aa prog 44 [a0,a1,a2,a3] w Q:=cG H44 Tryz.func44 h
theorem L44_0_ok(h:L44_0 x0 x7 x9 gG iZ oU w Q):P44_0 x0 x7 x9 gG iZ oU w Q:=pJ H44 Tryz.func44 h
theorem L44_1_ok(h:L44_1 x9 iZ w Q):P44_1 x9 iZ w Q:=pJ H44 Tryz.func44 h
theorem F50_ok(h:F50 a0 w Q):aa prog 50 [a0] w Q:=cG H50 Tryz.func50 h
theorem L50_0_ok(h:L50_0 x0 x3 w Q):P50_0 x0 x3 w Q:=pL H50 Tryz.func50 h
theorem L50_1_ok(h:L50_1 x0 x3 x4 w Q):P50_1 x0 x3 x4 w Q:=pL H50 Tryz.func50 h
theorem F52_ok(h:F52 a0 a1 w Q):aa prog 52 [a0,a1] w Q:=cG H52 Tryz.func52 h
theorem L52_0_ok(h:L52_0 x0 x1 x4 x5 w Q):P52_0 x0 x1 x4 x5 w Q:=pL H52 Tryz.func52 h
theorem F54_ok(h:F54 a0 w Q):aa prog 54 [a0] w Q:=cG H54 Tryz.func54 h
theorem F59_ok(h:F59 a0 a1 a2 w Q):aa prog 59 [a0,a1,a2] w Q:=cG H59 Tryz.func59 h
theorem L59_0_ok(h:L59_0 x0 x1 x2 x8 w Q):P59_0 x0 x1 x2 x8 w Q:=pL H59 Tryz.func59 h
theorem L59_1_ok(h:L59_1 x0 x1 x2 x8 w Q):P59_1 x0 x1 x2 x8 w Q:=pJ H59 Tryz.func59 h
theorem L59_2_ok(h:L59_2 x0 x1 x2 x8 x9 gG iZ w Q):P59_2 x0 x1 x2 x8 x9 gG iZ w Q:=pJ H59 Tryz.func59 h
theorem F60_ok(h:F60 a0 a1 w Q):aa prog 60 [a0,a1] w Q:=cG H60 Tryz.func60 h
theorem F61_ok(h:F61 a0 a1 a2 w Q):aa prog 61 [a0,a1,a2] w Q:=cG H61 Tryz.func61 h
theorem F62_ok(h:F62 a0 w Q):aa prog 62 [a0] w Q:=cG H62 Tryz.func62 h
theorem F63_ok(h:F63 a0 a1 w Q):aa prog 63 [a0,a1] w Q:=cG H63 Tryz.func63 h
theorem L63_0_ok(h:L63_0 x5 x25 x26 x27 w Q):P63_0 x5 x25 x26 x27 w Q:=pL H63 Tryz.func63 h
theorem F64_ok(h:F64 a0 w Q):aa prog 64 [a0] w Q:=cG H64 Tryz.func64 h
theorem L64_0_ok(h:L64_0 x0 x8 x9 gG w Q):P64_0 x0 x8 x9 gG w Q:=pL H64 Tryz.func64 h
theorem F65_ok(h:F65 a0 a1 w Q):aa prog 65 [a0,a1] w Q:=cG H65 Tryz.func65 h
theorem L65_0_ok(h:L65_0 x0 x1 gG iZ oU w Q):P65_0 x0 x1 gG iZ oU w Q:=pL H65 Tryz.func65 h
theorem F66_ok(h:F66 a0 w Q):aa prog 66 [a0] w Q:=cG H66 Tryz.func66 h
theorem L66_0_ok(h:L66_0 x0 x3 x26 x27 w Q):P66_0 x0 x3 x26 x27 w Q:=pL H66 Tryz.func66 h
theorem L66_1_ok(h:L66_1 x0 x3 x26 x27 w Q):P66_1 x0 x3 x26 x27 w Q:=pJ H66 Tryz.func66 h
theorem L66_2_ok(h:L66_2 x3 x51 x52 w Q):P66_2 x3 x51 x52 w Q:=pL H66 Tryz.func66 h
theorem L66_3_ok(h:L66_3 x3 x6 x51 x52 w Q):P66_3 x3 x6 x51 x52 w Q:=pJ H66 Tryz.func66 h
theorem L66_4_ok(h:L66_4 x3 x6 x51 x52 x86 x87 x88 w Q):P66_4 x3 x6 x51 x52 x86 x87 x88 w Q:=pL H66 Tryz.func66 h
theorem L66_5_ok(h:L66_5 x3 x6 x51 x52 x86 x87 x88 w Q):P66_5 x3 x6 x51 x52 x86 x87 x88 w Q:=pJ H66 Tryz.func66 h
theorem F67_ok(h:F67 a0 w Q):aa prog 67 [a0] w Q:=cG H67 Tryz.func67 h
theorem F68_ok(h:F68 a0 w Q):aa prog 68 [a0] w Q:=cG H68 Tryz.func68 h
theorem L68_0_ok(h:L68_0 x1 x3 x4 x5 x6 w Q):P68_0 x1 x3 x4 x5 x6 w Q:=pJ H68 Tryz.func68 h
theorem L68_1_ok(h:L68_1 x1 x3 x4 x5 x6 w Q):P68_1 x1 x3 x4 x5 x6 w Q:=pJ H68 Tryz.func68 h
theorem F69_ok(h:F69 a0 a1 a2 w Q):aa prog 69 [a0,a1,a2] w Q:=cG H69 Tryz.func69 h
theorem F70_ok(h:F70 a0 a1 w Q):aa prog 70 [a0,a1] w Q:=cG H70 Tryz.func70 h
theorem F71_ok(h:F71 a0 a1 w Q):aa prog 71 [a0,a1] w Q:=cG H71 Tryz.func71 h
theorem F72_ok(h:F72 a0 a1 w Q):aa prog 72 [a0,a1] w Q:=cG H72 Tryz.func72 h
theorem L72_0_ok(h:L72_0 x0 x1 x7 x8 w Q):P72_0 x0 x1 x7 x8 w Q:=pL H72 Tryz.func72 h
theorem F73_ok(h:F73 a0 w Q):aa prog 73 [a0] w Q:=cG H73 Tryz.func73 h
theorem L73_0_ok(h:L73_0 x3 x9 gG iZ w Q):P73_0 x3 x9 gG iZ w Q:=pL H73 Tryz.func73 h
theorem L73_1_ok(h:L73_1 x3 x9 gG iZ w Q):P73_1 x3 x9 gG iZ w Q:=pJ H73 Tryz.func73 h
theorem F74_ok(h:F74 a0 a1 w Q):aa prog 74 [a0,a1] w Q:=cG H74 Tryz.func74 h
theorem F75_ok(h:F75 a0 a1 w Q):aa prog 75 [a0,a1] w Q:=cG H75 Tryz.func75 h
theorem F76_ok(h:F76 a0 a1 a2 w Q):aa prog 76 [a0,a1,a2] w Q:=cG H76 Tryz.func76 h
theorem F77_ok(h:F77 a0 w Q):aa prog 77 [a0] w Q:=cG H77 Tryz.func77 h
theorem F78_ok(h:F78 a0 a1 w Q):aa prog 78 [a0,a1] w Q:=cG H78 Tryz.func78 h
theorem L78_0_ok(h:L78_0 x0 x1 gG iZ oU w Q):P78_0 x0 x1 gG iZ oU w Q:=pL H78 Tryz.func78 h
theorem F79_ok(h:F79 a0 a1 w Q):aa prog 79 [a0,a1] w Q:=cG H79 Tryz.func79 h
theorem F83_ok(h:F83 a0 a1 a2 a3 a4 w Q):aa prog 83 [a0,a1,a2,a3,a4] w Q:=cG H83 Tryz.func83 h
theorem L83_0_ok(h:L83_0  w Q):P83_0  w Q:=pJ H83 Tryz.func83 h
theorem F84_ok(h:F84 a0 w Q):aa prog 84 [a0] w Q:=cG H84 Tryz.func84 h
theorem F85_ok(h:F85 a0 a1 w Q):aa prog 85 [a0,a1] w Q:=cG H85 Tryz.func85 h
theorem L85_0_ok(h:L85_0 x5 x6 w Q):P85_0 x5 x6 w Q:=pJ H85 Tryz.func85 h
theorem L85_1_ok(h:L85_1 x5 x6 x7 w Q):P85_1 x5 x6 x7 w Q:=pL H85 Tryz.func85 h
theorem L85_2_ok(h:L85_2 x5 x6 x7 x8 w Q):P85_2 x5 x6 x7 x8 w Q:=pL H85 Tryz.func85 h
theorem F86_ok(h:F86 a0 a1 w Q):aa prog 86 [a0,a1] w Q:=cG H86 Tryz.func86 h
theorem F88_ok(h:F88 a0 w Q):aa prog 88 [a0] w Q:=cG H88 Tryz.func88 h
theorem L88_0_ok(h:L88_0 x3 x4 w Q):P88_0 x3 x4 w Q:=pJ H88 Tryz.func88 h
theorem L88_1_ok(h:L88_1 x3 x8 w Q):P88_1 x3 x8 w Q:=pJ H88 Tryz.func88 h
theorem F89_ok(h:F89 a0 a1 a2 w Q):aa prog 89 [a0,a1,a2] w Q:=cG H89 Tryz.func89 h
theorem F104_ok(h:F104 a0 a1 w Q):aa prog 104 [a0,a1] w Q:=cG H104 Tryz.func104 h
theorem L104_0_ok(h:L104_0 x0 x1 x5 w Q):P104_0 x0 x1 x5 w Q:=pL H104 Tryz.func104 h
theorem F105_ok(h:F105 a0 a1 a2 w Q):aa prog 105 [a0,a1,a2] w Q:=cG H105 Tryz.func105 h
theorem L105_0_ok(h:L105_0 x0 x1 x2 x7 w Q):P105_0 x0 x1 x2 x7 w Q:=pL H105 Tryz.func105 h
theorem F106_ok(h:F106 a0 w Q):aa prog 106 [a0] w Q:=cG H106 Tryz.func106 h
theorem L106_0_ok(h:L106_0 x1 x3 w Q):P106_0 x1 x3 w Q:=pJ H106 Tryz.func106 h
theorem F107_ok(h:F107 a0 a1 a2 a3 w Q):aa prog 107 [a0,a1,a2,a3] w Q:=cG H107 Tryz.func107 h
theorem L107_0_ok(h:L107_0 x0 x1 x6 x7 x8 gG w Q):P107_0 x0 x1 x6 x7 x8 gG w Q:=pJ H107 Tryz.func107 h
theorem L107_1_ok(h:L107_1 x8 iZ w Q):P107_1 x8 iZ w Q:=pJ H107 Tryz.func107 h
theorem F108_ok(h:F108 a0 w Q):aa prog 108 [a0] w Q:=cG H108 Tryz.func108 h
theorem L108_0_ok(h:L108_0 x0 x3 x4 w Q):P108_0 x0 x3 x4 w Q:=pL H108 Tryz.func108 h
theorem L108_1_ok(h:L108_1 x0 x3 x4 x5 x6 w Q):P108_1 x0 x3 x4 x5 x6 w Q:=pL H108 Tryz.func108 h
theorem L108_2_ok(h:L108_2 x0 x3 x7 w Q):P108_2 x0 x3 x7 w Q:=pL H108 Tryz.func108 h
theorem F109_ok(h:F109 a0 a1 w Q):aa prog 109 [a0,a1] w Q:=cG H109 Tryz.func109 h
theorem F110_ok(h:F110 a0 a1 w Q):aa prog 110 [a0,a1] w Q:=cG H110 Tryz.func110 h
theorem F111_ok(h:F111 a0 w Q):aa prog 111 [a0] w Q:=cG H111 Tryz.func111 h
theorem F112_ok(h:F112 a0 w Q):aa prog 112 [a0] w Q:=cG H112 Tryz.func112 h
theorem F113_ok(h:F113 a0 w Q):aa prog 113 [a0] w Q:=cG H113 Tryz.func113 h
theorem F114_ok(h:F114 a0 w Q):aa prog 114 [a0] w Q:=cG H114 Tryz.func114 h
theorem F115_ok(h:F115 a0 w Q):aa prog 115 [a0] w Q:=cG H115 Tryz.func115 h
theorem F116_ok(h:F116 a0 w Q):aa prog 116 [a0] w Q:=cG H116 Tryz.func116 h
theorem F117_ok(h:F117 a0 w Q):aa prog 117 [a0] w Q:=cG H117 Tryz.func117 h
theorem F118_ok(h:F118 a0 w Q):aa prog 118 [a0] w Q:=cG H118 Tryz.func118 h
theorem F119_ok(h:F119 a0 w Q):aa prog 119 [a0] w Q:=cG H119 Tryz.func119 h
theorem F120_ok(h:F120 a0 a1 w Q):aa prog 120 [a0,a1] w Q:=cG H120 Tryz.func120 h
theorem F121_ok(h:F121 a0 a1 w Q):aa prog 121 [a0,a1] w Q:=cG H121 Tryz.func121 h
theorem F122_ok(h:F122 a0 a1 w Q):aa prog 122 [a0,a1] w Q:=cG H122 Tryz.func122 h
theorem L122_0_ok(h:L122_0 x0 x3 x7 x8 w Q):P122_0 x0 x3 x7 x8 w Q:=pL H122 Tryz.func122 h
theorem F123_ok(h:F123 a0 a1 a2 w Q):aa prog 123 [a0,a1,a2] w Q:=cG H123 Tryz.func123 h
theorem F124_ok(h:F124 a0 a1 w Q):aa prog 124 [a0,a1] w Q:=cG H124 Tryz.func124 h
theorem F125_ok(h:F125 a0 a1 w Q):aa prog 125 [a0,a1] w Q:=cG H125 Tryz.func125 h
theorem F128_ok(h:F128 a0 a1 a2 a3 w Q):aa prog 128 [a0,a1,a2,a3] w Q:=cG H128 Tryz.func128 h
theorem L128_0_ok(h:L128_0 x0 x1 x6 x7 x8 w Q):P128_0 x0 x1 x6 x7 x8 w Q:=pJ H128 Tryz.func128 h
theorem L128_1_ok(h:L128_1 x0 x6 x7 x8 x117 w Q):P128_1 x0 x6 x7 x8 x117 w Q:=pJ H128 Tryz.func128 h
theorem L128_2_ok(h:L128_2 x0 x6 x8 x9 gG w Q):P128_2 x0 x6 x8 x9 gG w Q:=pJ H128 Tryz.func128 h
theorem F129_ok(h:F129 a0 a1 a2 w Q):aa prog 129 [a0,a1,a2] w Q:=cG H129 Tryz.func129 h
theorem F130_ok(h:F130 a0 a1 a2 a3 w Q):aa prog 130 [a0,a1,a2,a3] w Q:=cG H130 Tryz.func130 h
theorem L130_0_ok(h:L130_0 x0 x7 x9 gG iZ oU w Q):P130_0 x0 x7 x9 gG iZ oU w Q:=pJ H130 Tryz.func130 h
theorem L130_1_ok(h:L130_1 x0 x9 iZ w Q):P130_1 x0 x9 iZ w Q:=pJ H130 Tryz.func130 h
theorem L130_2_ok(h:L130_2 x0 x9 iZ oU w Q):P130_2 x0 x9 iZ oU w Q:=pJ H130 Tryz.func130 h
theorem L130_3_ok(h:L130_3  w Q):P130_3  w Q:=pJ H130 Tryz.func130 h
theorem L130_4_ok(h:L130_4 x0 x9 iZ oU w Q):P130_4 x0 x9 iZ oU w Q:=pJ H130 Tryz.func130 h
theorem F131_ok(h:F131 a0 w Q):aa prog 131 [a0] w Q:=cG H131 Tryz.func131 h
theorem F155_ok(h:F155 a0 a1 w Q):aa prog 155 [a0,a1] w Q:=cG H155 Tryz.func155 h
theorem L155_0_ok(h:L155_0 x0 x1 x5 w Q):P155_0 x0 x1 x5 w Q:=pL H155 Tryz.func155 h
theorem F156_ok(h:F156 a0 w Q):aa prog 156 [a0] w Q:=cG H156 Tryz.func156 h
theorem F157_ok(h:F157 a0 a1 a2 w Q):aa prog 157 [a0,a1,a2] w Q:=cG H157 Tryz.func157 h
theorem F158_ok(h:F158 a0 w Q):aa prog 158 [a0] w Q:=cG H158 Tryz.func158 h
theorem F159_ok(h:F159 a0 a1 a2 w Q):aa prog 159 [a0,a1,a2] w Q:=cG H159 Tryz.func159 h
theorem F160_ok(h:F160 a0 a1 a2 w Q):aa prog 160 [a0,a1,a2] w Q:=cG H160 Tryz.func160 h
theorem L160_0_ok(h:L160_0 x0 x1 x2 x7 w Q):P160_0 x0 x1 x2 x7 w Q:=pL H160 Tryz.func160 h
theorem F161_ok(h:F161 a0 a1 a2 a3 w Q):aa prog 161 [a0,a1,a2,a3] w Q:=cG H161 Tryz.func161 h
theorem L161_0_ok(h:L161_0 x0 x1 x2 x3 x9 w Q):P161_0 x0 x1 x2 x3 x9 w Q:=pL H161 Tryz.func161 h
theorem F162_ok(h:F162 a0 a1 a2 a3 a4 w Q):aa prog 162 [a0,a1,a2,a3,a4] w Q:=cG H162 Tryz.func162 h
theorem L162_0_ok(h:L162_0 x8 gG iZ w Q):P162_0 x8 gG iZ w Q:=pJ H162 Tryz.func162 h
theorem L162_1_ok(h:L162_1 x8 gG iZ x57 x58 w Q):P162_1 x8 gG iZ x57 x58 w Q:=pJ H162 Tryz.func162 h
theorem L162_2_ok(h:L162_2 gG w Q):P162_2 gG w Q:=pJ H162 Tryz.func162 h
theorem F163_ok(h:F163 a0 a1 w Q):aa prog 163 [a0,a1] w Q:=cG H163 Tryz.func163 h
theorem L163_0_ok(h:L163_0 x0 x3 x7 x8 w Q):P163_0 x0 x3 x7 x8 w Q:=pL H163 Tryz.func163 h
theorem F165_ok(h:F165 a0 a1 w Q):aa prog 165 [a0,a1] w Q:=cG H165 Tryz.func165 h
theorem L165_0_ok(h:L165_0 x1 x2 x5 w Q):P165_0 x1 x2 x5 w Q:=pL H165 Tryz.func165 h
theorem F166_ok(h:F166 a0 w Q):aa prog 166 [a0] w Q:=cG H166 Tryz.func166 h
theorem L166_0_ok(h:L166_0 x0 x3 x4 w Q):P166_0 x0 x3 x4 w Q:=pL H166 Tryz.func166 h
theorem L166_1_ok(h:L166_1 x0 x3 x4 w Q):P166_1 x0 x3 x4 w Q:=pJ H166 Tryz.func166 h
theorem F167_ok(h:F167 a0 w Q):aa prog 167 [a0] w Q:=cG H167 Tryz.func167 h
theorem F168_ok(h:F168 a0 a1 a2 w Q):aa prog 168 [a0,a1,a2] w Q:=cG H168 Tryz.func168 h
theorem F169_ok(h:F169 a0 a1 w Q):aa prog 169 [a0,a1] w Q:=cG H169 Tryz.func169 h
theorem L169_0_ok(h:L169_0 x0 x1 x5 x6 w Q):P169_0 x0 x1 x5 x6 w Q:=pL H169 Tryz.func169 h
theorem L169_1_ok(h:L169_1 x1 x5 w Q):P169_1 x1 x5 w Q:=pL H169 Tryz.func169 h
theorem F170_ok(h:F170 a0 a1 w Q):aa prog 170 [a0,a1] w Q:=cG H170 Tryz.func170 h
theorem L170_0_ok(h:L170_0 x0 x1 x5 w Q):P170_0 x0 x1 x5 w Q:=pL H170 Tryz.func170 h
theorem F171_ok(h:F171 a0 a1 w Q):aa prog 171 [a0,a1] w Q:=cG H171 Tryz.func171 h
theorem F206_ok(h:F206 a0 a1 w Q):aa prog 206 [a0,a1] w Q:=cG H206 Tryz.func206 h
theorem L206_0_ok(h:L206_0 x0 x3 x6 x7 x8 w Q):P206_0 x0 x3 x6 x7 x8 w Q:=pL H206 Tryz.func206 h
theorem F208_ok(h:F208 a0 a1 a2 w Q):aa prog 208 [a0,a1,a2] w Q:=cG H208 Tryz.func208 h
theorem F209_ok(h:F209 a0 a1 w Q):aa prog 209 [a0,a1] w Q:=cG H209 Tryz.func209 h
theorem F210_ok(h:F210 a0 a1 w Q):aa prog 210 [a0,a1] w Q:=cG H210 Tryz.func210 h
end
open Go.RowKit
def gH(k:Int):Int:=if k=2\/k=10\/k=12 then 1 else if 6<=k/\k<=9 then 2 else if k=5 then 3 else 0
def nB(k:Int):Bool:=decide (k=1\/k=2\/(6<=k/\k<=9))
def vB(k:Int):Bool:=decide (7<=k/\k<=9)
def wB(k:Int):Bool:=decide (k=9)
theorem ui(k:Int):k=1\/k=2\/k=3\/k=4\/k=5\/k=6\/k=7\/k=8\/k=9\/k=10\/k=11\/k=12\/(k<1\/12<k):=dy
theorem bn{k c:Int}(h:k≠c):(k==c)=false:=by simpa using h
theorem c_Of(k:Int)(w:World):aa prog 88 [bS k] w λv a=>v=bS (gH k)/\a=w:=by
 rcases ui k with rfl|rfl|rfl|rfl|rfl|rfl|rfl|rfl|rfl|rfl|rfl|rfl|h
 all_goals
  apply F88_ok;try simp[F88]
  try rw[bn (show k≠2 by omega),bn (show k≠10 by omega),bn (show k≠12 by omega)]
  try simp only[aQ]
  try apply L88_0_ok
  try simp[L88_0]
  try rw[bn (show k≠6 by omega),bn (show k≠7 by omega),bn (show k≠8 by omega),bn (show k≠9 by omega)]
  try simp only[aQ]
  try apply L88_1_ok
  try simp[L88_1]
  try rw[bn (show k≠5 by omega)]
  try simp only[aQ]
  try (simp[gH];done)
  try (rw[gH,bY dy,bY dy,bY dy])
theorem c_HasN(k:Int)(w:World):aa prog 156 [bS k] w λv a=>v= .bool (nB k)/\a=w:=by
 apply F156_ok;by_cases b:k=1<;>by_cases c:k=2<;>by_cases d:6<=k<;>by_cases e:k<=9<;>simp[F156,b,c,d,e,bn,nB]<;>omega
theorem c_HasV(k:Int)(w:World):aa prog 158 [bS k] w λv a=>v= .bool (vB k)/\a=w:=by
 apply F158_ok;by_cases b:7<=k<;>by_cases c:k<=9<;>simp[F158,b,c,vB]
def nameK(k:Int):ByteArray:=
 if k=1 then{data:= #[99,114,101,97,116,101]}else if k=2 then{data:= #[97,108,108,111,99]}else if k=3 then{data:= #[112,105,110]}else if k=4 then{data:= #[117,110,112,105,110]}
 else if k=5 then{data:= #[104,111,108,100]}else if k=6 then{data:= #[108,111,97,100]}else if k=7 then{data:= #[115,116,111,114,101]}else if k=8 then{data:= #[97,100,100]}
 else if k=9 then{data:= #[99,97,115]}else if k=10 then{data:= #[102,114,101,101]}else if k=11 then{data:= #[99,111,108,108,101,99,116]}else if k=12 then{data:= #[115,116,97,116,115]}else{data:= #[]}
def ni(k:Int):List Value:= [.string (nameK k),bS (gH k),.bool (nB k),.bool (vB k),.bool (wB k)]
theorem formC_out{k:Int}(h:k<1\/12<k):ni k= [.string {data:= #[]},bS 0,.bool false,.bool false,.bool false]:=by
 have a:nameK k={data:= #[]}:=by
  unfold nameK;rw[bY dy,bY dy,bY dy,bY dy,bY dy,bY dy,bY dy,bY dy,bY dy,bY dy,bY dy,bY dy]
 have b:gH k=0:=by rw[gH,bY dy,bY dy,bY dy]
 have c:nB k=false:=by simp[nB];omega
 have d:vB k=false:=by simp[vB];omega
 have e:wB k=false:=by simp[wB];omega
 rw[ni,a,b,c,d,e]
theorem c_formOf(k:Int)(w:World):aa prog 119 [bS k] w λv b=>v= .agg (ni k).toArray/\ad [] w b:=by
 have hb:∀b:World,b=w->ad [] w b:=λb h=>h▸ad.refl _ _;have a:∀c d e:Array Value,ad [] w (put ((w.alloc (.cells c 193)).alloc (.cells d 193)) w.heap.size e 193):=λc d e=>(((ad.refl [] w).alloc _).alloc _).put (.inr (cy _)) _ _;rcases ui k with rfl|rfl|rfl|rfl|rfl|rfl|rfl|rfl|rfl|rfl|rfl|rfl|h
 case inr.inr.inr.inr.inr.inr.inr.inr.inr.inr.inr.inr=>
  apply F119_ok;rw[formC_out h];rcases h with h|h
  ·have f:k<1:=h;simp[F119,f,ia_252,ld_193,st_193,a]
  ·have g:¬k<1:=dy;have i:(13:Int)<=k:=dy;simp[F119,g,i,ia_252,ld_193,st_193,a]
 all_goals
  apply F119_ok;simp[F119,ia_252,ld_193,st_193,ni,nameK,gH,nB,vB,wB,a]
theorem c_opOf(k:Int)(w:World):aa prog 67 [bS k] w λv a=>v=bS (gH k)/\ad [] w a:=by
 apply F67_ok;refine(c_formOf k w).mono ?_;rintro v w1 ⟨rfl,b⟩;simp[ni,b]
abbrev ez:=Int×Int×Int×Int×Int×Int
def dC(o:ez):List Value:= [bS o.1,bS o.2.1,bS o.2.2.1,bS o.2.2.2.1,bT o.2.2.2.2.1,bT o.2.2.2.2.2]
theorem qC(o:ez):(dC o).length=6:=rfl
theorem jk(a b:Value):ai prog (Instr.extract (.tuple #[a,b]) 0)=some a:=by rw[pr_extract];rfl
theorem jm(a b:Value):ai prog (Instr.extract (.tuple #[a,b]) 1)=some b:=by rw[pr_extract];rfl
theorem c_within(n m:Int)(w:World):aa prog 120 [bS n,bS m] w λv a=>v= .bool (decide (0<=n/\n<=m))/\a=w:=by
 apply F120_ok;by_cases h:0<=n
 ·have e:decide (0<=n/\n<=m)=decide (n<=m):=by simp[h]
  simp only[F120,zS,h];exact⟨by simp,trivial⟩
 ·simp only[F120,zS,h,false_and,and_self]
theorem c_in18(n a m:Int)(w:World):aa prog 157 [bS n,bS a,bS m] w λv b=>v= .bool (decide (a<=n/\n<=m))/\b=w:=by
 apply F157_ok;by_cases h:a<=n
 ·simp only[F157,zS,h,true_and,and_self]
 ·simp only[F157,zS,h,false_and,and_self]
def frM(k:Int):Int:=if gH k=0 then 0 else 63
def atM(k:Int):Int:=if gH k=0 then 0 else 999
def nM(k:Int):Int:=if k=1 then 3 else if nB k then 65535 else 0
def jz(o:ez):Bool:=decide ((1<=o.1/\o.1<=12)/\(0<=o.2.1/\o.2.1<=frM o.1)/\(0<=o.2.2.1/\o.2.2.1<=atM o.1)/\(0<=o.2.2.2.1/\o.2.2.2.1<=nM o.1)/\(vB o.1=true\/o.2.2.2.2.1=0)/\(wB o.1=true\/o.2.2.2.2.2=0))
theorem aJ(o:ez):(dC o).toArray[0+0]? =some (bS o.1):=rfl
theorem op_1(o:ez):(dC o).toArray[0+1]? =some (bS o.2.1):=rfl
theorem op_2(o:ez):(dC o).toArray[0+2]? =some (bS o.2.2.1):=rfl
theorem mm(o:ez):(dC o).toArray[0+3]? =some (bS o.2.2.2.1):=rfl
theorem pR(o:ez):(dC o).toArray[0+4]? =some (bT o.2.2.2.2.1):=rfl
theorem op_5(o:ez):(dC o).toArray[0+5]? =some (bT o.2.2.2.2.2):=rfl
theorem form_0(k:Int):(ni k).toArray[0+0]? =some (.string (nameK k)):=rfl
theorem form_1(k:Int):(ni k).toArray[0+1]? =some (bS (gH k)):=rfl
theorem form_2(k:Int):(ni k).toArray[0+2]? =some (.bool (nB k)):=rfl
theorem form_3(k:Int):(ni k).toArray[0+3]? =some (.bool (vB k)):=rfl
theorem form_4(k:Int):(ni k).toArray[0+4]? =some (.bool (wB k)):=rfl
theorem name_ne(k:Int):(!((nameK k).toList==(({data:= #[]}:ByteArray)).toList))=decide (1<=k/\k<=12):=by
 have e:(({data:= #[]}:ByteArray)).toList= []:=ByteArray.toList_mk [];rw[e];rcases ui k with rfl|rfl|rfl|rfl|rfl|rfl|rfl|rfl|rfl|rfl|rfl|rfl|h
 case inr.inr.inr.inr.inr.inr.inr.inr.inr.inr.inr.inr=>
  have:=formC_out h;have b:nameK k={data:= #[]}:=by
   have a:=congrArg (λl:List Value=>l[0]?) this;simp[ni]at a;exact a
  rw[b,e];have:¬(1<=k/\k<=12):=dy;simp[this]
 all_goals decide +kernel
theorem oV(o:ez){b:Bool}(h:((1<=o.1/\o.1<=12)/\(0<=o.2.1/\o.2.1<=frM o.1)/\(0<=o.2.2.1/\o.2.2.1<=atM o.1)/\(0<=o.2.2.2.1/\o.2.2.2.1<=nM o.1)/\(vB o.1=true\/o.2.2.2.2.1=0)/\(wB o.1=true\/o.2.2.2.2.2=0))<->b=true):jz o=b:=by
 unfold jz;cases b
 ·exact cr λa=>by have:=h.1 a;cases this
 ·exact cj (h.2 rfl)
theorem l_opMay1{w w0:World}(a:ad [] w0 w){o:ez}{m n:Nat}(d:hp w m=some (.cells (dC o).toArray 37))(e:hp w n=some (.cells (ni o.1).toArray 193)):
  P68_1 (bU m) (bU n) (bS (frM o.1)) (bS (atM o.1)) (bS (nM o.1)) w λv q=>v= .bool (jz o)/\ad [] w0 q:=by
 apply L68_1_ok;by_cases k1:1<=o.1/\o.1<=12
 rotate_left
 ·simp only[L68_1,zS,fa_193_0,ld_9,e,form_0,be_neqstr,name_ne,k1];exact⟨by rw[oV o (b:=false) ⟨λh=>absurd h.1 k1,λh=>by cases h⟩],a⟩
 simp only[L68_1,zS,fa_193_0,ld_9,e,form_0,be_neqstr,name_ne,cj k1,iL,ag,d,op_1];refine(c_within _ _ _).step ?_;by_cases k2:0<=o.2.1/\o.2.1<=frM o.1
 rotate_left
 ·simp only[cr k2,zS];exact⟨by rw[oV o (b:=false) ⟨λh=>absurd h.2.1 k2,λh=>by cases h⟩],a⟩
 simp only[cj k2,zS,iM,ag,d,op_2];refine(c_within _ _ _).step ?_;by_cases j:0<=o.2.2.1/\o.2.2.1<=atM o.1
 rotate_left
 ·simp only[cr j,zS];exact⟨by rw[oV o (b:=false) ⟨λh=>absurd h.2.2.1 j,λh=>by cases h⟩],a⟩
 simp only[cj j,zS,bm,ag,d,mm];refine(c_within _ _ _).step ?_;by_cases k:0<=o.2.2.2.1/\o.2.2.2.1<=nM o.1
 rotate_left
 ·simp only[cr k,zS];exact⟨by rw[oV o (b:=false) ⟨λh=>absurd h.2.2.2.1 k,λh=>by cases h⟩],a⟩
 simp only[cj k,zS,fa_193_3,aB,e,form_3];have last:∀b:Bool,(vB o.1=true\/o.2.2.2.2.1=0)->((wB o.1=true\/o.2.2.2.2.2=0)<->b=true)->jz o=b:=λb l p=>oV o ⟨λh=>p.1 h.2.2.2.2.2,λh=>⟨k1,k2,j,k,l,p.2 h⟩⟩;have f:¬(vB o.1=true\/o.2.2.2.2.1=0)->jz o=false:=λl=>oV o ⟨λh=>absurd h.2.2.2.2.1 l,λh=>by cases h⟩;cases hv:vB o.1 with
 |true=>
  rw[hv]at last;cases c:wB o.1 with
  |true=>
   rw[c]at last;simp only[zS,fa_193_4,aB,e,form_4,c];exact⟨by rw[last true (.inl rfl) (by simp)],a⟩
  |false=>
   rw[c]at last;simp only[zS,fa_193_4,aB,e,form_4,c,mB,bx,d,op_5];exact⟨by rw[last (o.2.2.2.2.2==0) (.inl rfl) (by simp)],a⟩
 |false=>
  rw[hv]at last f;by_cases g:o.2.2.2.2.1=0
  rotate_left
  ·simp only[zS,fB,bx,d,pR,bn g];exact⟨by rw[f (by simp[g])],a⟩
  have i:(o.2.2.2.2.1==0)=true:=by rw[g];rfl
  cases c:wB o.1 with
  |true=>
   rw[c]at last;simp only[zS,fB,bx,d,pR,i,fa_193_4,aB,e,form_4,c];exact⟨by rw[last true (.inr g) (by simp)],a⟩
  |false=>
   rw[c]at last;simp only[zS,fB,bx,pR,i,fa_193_4,aB,e,form_4,c,mB,bx,d,op_5];exact⟨by rw[last (o.2.2.2.2.2==0) (.inr g) (by simp)],a⟩
theorem c_opMay(o:ez)(w:World):aa prog 68 [.agg (dC o).toArray] w λv n=>v= .bool (jz o)/\ad [] w n:=by
 apply F68_ok;have b:hp (w.alloc (.cells (dC o).toArray 37)) w.heap.size=some (.cells (dC o).toArray 37):=by rw[af,bX rfl]
 have p:ad [] w (w.alloc (.cells (dC o).toArray 37)):=(ad.refl _ _).alloc _;have t:w.heap.size<(w.alloc (.cells (dC o).toArray 37)).heap.size:=by simp
 simp only[F68,ak,au,zS,am,ag,b,aJ];generalize w.alloc (.cells (dC o).toArray 37)=w1 at*;generalize C:w.heap.size=u at*;refine(c_formOf o.1 w1).mono ?_;rintro v w2 ⟨rfl,i⟩;simp only[al_193];rw[st_193 (by rfl) (by rfl) (by rw[af,bX rfl];rfl) (by rw[af,bX rfl];rfl),af,bX rfl];simp only[ar];generalize q:w2.alloc _=j;have l:ad [] w2 j:=by rw[<- q];exact(ad.refl _ _).alloc _
 have r:j.heap.size=w2.heap.size+1:=by rw[<- q];simp
 have c:ad [] w2 (put j w2.heap.size (ni o.1).toArray 193):=l.put (.inr (cy _)) _ _;have g:hp (put j w2.heap.size (ni o.1).toArray 193) w2.heap.size=some (.cells (ni o.1).toArray 193):=by rw[bf,bX rfl,bX dy]
 have b:=(i.trans c).at b (by simp);have d:=(p.trans i).trans c;clear q l r c;generalize put j w2.heap.size (ni o.1).toArray 193=x at*;generalize w2.heap.size=y at*;simp only[zS,fa_193_1,ag,g,form_1];have zero:∀f a:Int,f=frM o.1->a=atM o.1->P68_0 (bU u) (bU y) (bS f) (bS a) (bS 0) x λv n=>v= .bool (jz o)/\ad [] w n:=by
  intro f a z A;subst z;subst A;apply L68_0_ok;by_cases k1:o.1=1
  ·have s:(o.1==1)=true:=by rw[k1];rfl
   have e:(3:Int)=nM o.1:=by simp[nM,k1]
   simp only[L68_0,zS,am,ag,b,aJ,s];rw[e];exact l_opMay1 d b g
  ·cases m:nB o.1 with
   |true=>
    have e:(65535:Int)=nM o.1:=by simp[nM,k1,m]
    simp only[L68_0,zS,am,ag,b,aJ,bn k1,fa_193_2,aB,g,form_2,m];rw[e];exact l_opMay1 d b g
   |false=>
    have e:(0:Int)=nM o.1:=by simp[nM,k1,m]
    simp only[L68_0,zS,am,ag,b,aJ,bn k1,fa_193_2,aB,g,form_2,m];have:=l_opMay1 (w0:=w) d b g;rw[<- e]at this;exact this
 by_cases k:gH o.1=0
 ·have B:(gH o.1 !=0)=false:=by rw[k];rfl
  simp only[B,zS];exact zero 0 0 (by simp[frM,k]) (by simp[atM,k])
 ·simp only[bne_iff_ne.2 k,zS];exact zero 63 999 (by simp[frM,k]) (by simp[atM,k])
theorem l_refMay{w:World}{o:ez}{g:Nat}(a:hp w g=some (.cells (dC o).toArray 37)):
  P106_0 (bU g) (bS (nM o.1)) w λv i=>v= .bool (jz o)/\i=w:=by
 apply L106_0_ok;simp only[L106_0,zS,am,ag,a,aJ];refine(c_in18 _ _ _ _).step ?_;have no:¬((1<=o.1/\o.1<=12)/\(0<=o.2.1/\o.2.1<=frM o.1)/\(0<=o.2.2.1/\o.2.2.1<=atM o.1)/\(0<=o.2.2.2.1/\o.2.2.2.1<=nM o.1)/\(vB o.1=true\/o.2.2.2.2.1=0)/\(wB o.1=true\/o.2.2.2.2.2=0))->jz o=false:=λh=>oV o ⟨λj=>absurd j h,λh=>by cases h⟩;by_cases k1:1<=o.1/\o.1<=12
 rotate_left
 ·simp only[cr k1,zS];exact⟨by rw[no λh=>k1 h.1],trivial⟩
 simp only[cj k1,zS,bm,ag,a,mm];refine(c_in18 _ _ _ _).step ?_;by_cases p:0<=o.2.2.2.1/\o.2.2.2.1<=nM o.1
 rotate_left
 ·simp only[cr p,zS];exact⟨by rw[no λh=>p h.2.2.2.1],trivial⟩
 simp only[cj p,zS,ag,a,aJ];refine(c_HasV _ _).step ?_;have rest:(vB o.1=true\/o.2.2.2.2.1=0)->(wB o.1=true\/o.2.2.2.2.2=0)->
   (nP (ai prog (Instr.fieldAt 37 (bU g) 0)) λs=>
    nP (fR prog 3 s w) λt=>
    aa prog 88 [t] w λu w1=>
    nP (be prog .eql 3 (.tmp 46) (.const (bS 0)) u (bS 0)) λx=>
    cnd x
    (nP (ai prog (Instr.fieldAt 37 (bU g) 1)) λy=>
     nP (fR prog 3 y w1) λz=>
     nP (be prog .eql 3 (.tmp 49) (.const (bS 0)) z (bS 0)) λc=>
     nP (gd c true (ai prog (Instr.fieldAt 37 (bU g) 2))) λA=>
     nP (gd c true (fR prog 3 A w1)) λB=>
     nP (gd c true (be prog .eql 3 (.tmp 53) (.const (bS 0)) B (bS 0))) λC=>
     nP (rB c (some C) (some (.bool false))) λD=>D= .bool (jz o)/\w1=w)
    (nP (ai prog (Instr.fieldAt 37 (bU g) 1)) λE=>
     nP (fR prog 3 E w1) λF=>
     aa prog 157 [F,bS 0,bS 63] w1 λd i=>
     nP (gd d true (ai prog (Instr.fieldAt 37 (bU g) 2))) λG=>
     nP (gd d true (fR prog 3 G i)) λH=>
     gE d true (aa prog 157 [H,bS 0,bS 999] i) (λI i=>
     nP (rB d (some I) (some (.bool false))) λJ=>J= .bool (jz o)/\i=w) i)):=by
  intro Q R;simp only[zS,am,ag,a,aJ];refine(c_Of _ _).step ?_;have fin:∀b:Bool,(((0<=o.2.1/\o.2.1<=frM o.1)/\(0<=o.2.2.1/\o.2.2.1<=atM o.1))<->b=true)->jz o=b:=λb h=>oV o ⟨λj=>h.1 ⟨j.2.1,j.2.2.1⟩,λj=>⟨k1,(h.2 j).1,(h.2 j).2,p,Q,R⟩⟩;by_cases k:gH o.1=0
  ·have P:(gH o.1==0)=true:=by rw[k];rfl
   have K:frM o.1=0:=by simp[frM,k]
   have L:atM o.1=0:=by simp[atM,k]
   rw[K,L]at fin;by_cases m:o.2.1=0
   ·have M:(o.2.1==0)=true:=by rw[m];rfl
    simp only[P,zS,iL,iM,ag,a,op_1,op_2,M];exact⟨by rw[fin (o.2.2.1==0) (by simp;omega)],trivial⟩
   ·simp only[P,zS,iL,iM,ag,a,op_1,bn m];exact⟨by rw[fin false (by simp;omega)],trivial⟩
  ·have K:frM o.1=63:=by simp[frM,k]
   have L:atM o.1=999:=by simp[atM,k]
   rw[K,L]at fin;simp only[bn k,zS,iL,iM,ag,a,op_1];refine(c_in18 _ _ _ _).step ?_;by_cases m:0<=o.2.1/\o.2.1<=63
   ·simp only[cj m,zS,ag,a,op_2];refine(c_in18 _ _ _ _).step ?_;simp only[];exact⟨by rw[fin (decide (0<=o.2.2.1/\o.2.2.1<=999)) (by simp;omega)],trivial⟩
   ·simp only[cr m,zS];exact⟨by rw[fin false (by simp;omega)],trivial⟩
 simp only[zS,am,ag,a,aJ]at rest;have q:wB o.1=decide (o.1=9):=rfl;have S:(vB o.1=true\/o.2.2.2.2.1=0)->(o.1=9\/o.2.2.2.2.2=0->wB o.1=true\/o.2.2.2.2.2=0):=λ_ h=>by rw[q];simpa using h
 by_cases e:o.1=9
 ·have O:(o.1 !=9)=false:=by rw[e];rfl
  have hv:vB o.1=true:=by rw[e];decide
  rw[hv];have:=rest (.inl hv) (.inl (by rw[q];simpa using e));simp only[zS,ag,a,aJ,O];exact this
 ·cases hv:vB o.1 with
  |true=>
   by_cases f:o.2.2.2.2.2=0
   ·have l:(o.2.2.2.2.2 !=0)=false:=by rw[f];rfl
    have:=rest (.inl hv) (.inr f);simp only[zS,mB,ag,bx,a,aJ,op_5,bne_iff_ne.2 e,l];exact this
   ·simp only[zS,mB,ag,bx,a,aJ,op_5,bne_iff_ne.2 e,bne_iff_ne.2 f];exact⟨by rw[no λh=>by have:=h.2.2.2.2.2;rw[q]at this;simp[e,f]at this],trivial⟩
  |false=>
   by_cases r:o.2.2.2.2.1=0
   ·have n:(o.2.2.2.2.1 !=0)=false:=by rw[r];rfl
    by_cases f:o.2.2.2.2.2=0
    ·have l:(o.2.2.2.2.2 !=0)=false:=by rw[f];rfl
     have:=rest (.inr r) (.inr f);simp only[zS,fB,mB,ag,bx,a,aJ,pR,op_5,bne_iff_ne.2 e,l,n];exact this
    ·simp only[zS,fB,mB,ag,bx,a,aJ,pR,op_5,bne_iff_ne.2 e,bne_iff_ne.2 f,n];exact⟨by rw[no λh=>by have:=h.2.2.2.2.2;rw[q]at this;simp[e,f]at this],trivial⟩
   ·simp only[zS,fB,bx,a,aJ,pR,bne_iff_ne.2 r];exact⟨by rw[no λh=>by have:=h.2.2.2.2.1;rw[hv]at this;simp[r]at this],trivial⟩
theorem c_refMay(o:ez)(w:World):aa prog 106 [.agg (dC o).toArray] w λv a=>v= .bool (jz o)/\ad [] w a:=by
 apply F106_ok;have b:hp (w.alloc (.cells (dC o).toArray 37)) w.heap.size=some (.cells (dC o).toArray 37):=by rw[af,bX rfl]
 have c:ad [] w (w.alloc (.cells (dC o).toArray 37)):=(ad.refl _ _).alloc _;have fin:P106_0 (bU w.heap.size) (bS (nM o.1)) (w.alloc (.cells (dC o).toArray 37)) λv a=>v= .bool (jz o)/\ad [] w a:=by
  have:=l_refMay b;exact Part.mono this λv a ⟨h,e⟩=>⟨h,by rw[e];exact c⟩
 by_cases k1:o.1=1
 ·have d:(o.1==1)=true:=by rw[k1];rfl
  have e:nM o.1=3:=by simp[nM,k1]
  simp only[F106,ak,au,zS,am,ag,b,aJ,d];rw[e]at fin;exact fin
 ·simp only[F106,ak,au,zS,am,ag,b,aJ,bn k1];refine(c_HasN _ _).step ?_;cases f:nB o.1 with
  |true=>
   have e:nM o.1=65535:=by simp[nM,k1,f]
   rw[e]at fin;simp only[zS];exact fin
  |false=>
   have e:nM o.1=0:=by simp[nM,k1,f]
   rw[e]at fin;simp only[zS];exact fin
theorem tmod_cases2(a m:Int)(e:0<m):(0<=a.tmod m/\a.tmod m=a%m)\/(a.tmod m<0/\a.tmod m+m=a%m):=by
 have g:=Int.emod_lt_of_pos a e;have i:=Int.emod_nonneg a (b:=m) dy;rcases Int.lt_or_le a 0 with h|h
 ·have c:=Int.tmod_eq_emod (a:=a) (b:=m);by_cases d:0<=a\/m ∣ a
  ·rw[bX d]at c;left;omega
  ·rw[bY d]at c;have f:(m.natAbs:Int)=m:=dy;rw[f]at c;right;omega
 ·left;rw[Int.tmod_eq_emod_of_nonneg h];omega
theorem mS(a m:Int)(w:World)(d:0<m)(f:m<=4611686018427387904):aa prog 11 [bS a,bS m] w λv g=>v=bS (a%m)/\g=w:=by
 apply F11_ok;have i:=Int.emod_lt_of_pos a d;have j:=Int.emod_nonneg a (b:=m) dy;simp only[F11,kF (show m≠0 by omega),zS];rcases tmod_cases2 a m d with⟨e,c⟩|⟨e,c⟩
 ·simp only[show¬a.tmod m<0 by omega,zS];apply L11_0_ok;simp only[L11_0,c,and_self]
 ·simp only[e,zS,aj];apply L11_0_ok;simp only[L11_0,c,ap (n:=a%m) dy dy,and_self]
end Go.Proofs.YtnpflajdbchghaaGreat
namespace Go.Proofs.YtnpflajdbchghaaGreat.Ev
open Tryz(f38 f66 prog underlying3)
open Go Go.RowKit
abbrev Fp:=Nat->Prop
def oj(F G:Fp):Prop:=∀k,F k->G k->False
def ck:Fp:=λ_=>False
structure aW(F:Fp)(w w':World):Prop where
 os:w'.os=w.os
 tape:w'.tape=w.tape
 output:w'.output=w.output
 size:w.heap.size<=w'.heap.size
 block:∀k,k<w.heap.size->¬F k->hp w' k=hp w k
structure aO(F F':Fp)(w w':World):Prop where
 aw:aW F w w'
 sub:∀k,F' k->F k\/w.heap.size<=k
theorem aW.refl(F:Fp)(w:World):aW F w w:=⟨rfl,rfl,rfl,cy _,λ_ _ _=>rfl⟩
theorem aW.mono{F G:Fp}{w a:World}(h:aW F w a)(b:∀k,F k->G k):aW G w a:=⟨h.os,h.tape,h.output,h.size,λk c d=>h.block k c λe=>d (b k e)⟩
theorem aW.of{S:List Nat}{w a:World}(h:ad S w a):aW (· ∈S) w a:=⟨h.os,h.tape,h.output,h.size,λk b c=>h.block k b c⟩
theorem aW.bV{w a:World}(h:ad [] w a)(F:Fp):aW F w a:=⟨h.os,h.tape,h.output,h.size,λk b _=>h.block k b (by simp)⟩
theorem aW.chg0{F:Fp}{w a:World}(h:aW F w a)(b:∀k,F k->w.heap.size<=k):ad [] w a:=⟨h.os,h.tape,h.output,h.size,λk c _=>h.block k c λd=>by have:=b k d;omega⟩
theorem aO.refl(F:Fp)(w:World):aO F F w w:=⟨aW.refl _ _,λk a=> .inl a⟩
theorem aO.trans{F G H:Fp}{a b c:World}(h:aO F G a b)(k:aO G H b c):aO F H a c:=
 ⟨⟨k.aw.os.trans h.aw.os,k.aw.tape.trans h.aw.tape,k.aw.output.trans h.aw.output,cQ h.aw.size k.aw.size,λi d e=>
  (k.aw.block i (cY d h.aw.size) λf=>by rcases h.sub i f with h1|h1;exact e h1;omega).trans (h.aw.block i d e)⟩,
  λi d=>by
  rcases k.sub i d with h1|h1
  ·exact h.sub i h1
  ·exact .inr (cQ h.aw.size h1)⟩
theorem aO.bV{F:Fp}{a b:World}(k:ad [] a b):aO F F a b:=⟨aW.bV k F,λi c=> .inl c⟩
theorem aW.at{F:Fp}{w a:World}(h:aW F w a){b:Nat}{o:Obj}(hb:hp w b=some o)(c:¬F b):hp a b=some o:=by rw[h.block b (az hb) c];exact hb
theorem aW.row{F:Fp}{w c:World}{base:Nat}{e:TypeId}{z:Nat}{v:Value}{n:Nat}{xs:List Value}(h:w.ownsRow base e z v n xs)(f:aW F w c)(i:∀k,v.ownBlock=some k->¬F k):c.ownsRow base e z v n xs:=by
 refine⟨h.1,h.2.imp id fun⟨g,a,b,d,j,l,m⟩=>⟨g,a,b,d,j,?_,m⟩⟩;exact f.at l (i g (by rw[d];rfl))
abbrev Th:=World->Fp->Value->Prop
structure dO(P:Th):Prop where
 frame:∀{w w':World} {F G:Fp} {v:Value},P w F v->aW G w w'->oj F G->P w' F v
 lt:∀{w:World} {F:Fp} {v:Value},P w F v->∀k,F k->k<w.heap.size
 one:∀{w:World} {F:Fp} {v:Value},P w F v->v.cells= #[v]/\v.oneCell'=true
def hN(u:Value):Th:=λ_ F v=>v=u/\∀k,¬F k
theorem fN{u:Value}(h:u.cells= #[u]/\u.oneCell'=true):dO (hN u):=
 ⟨λh _ _=>h,λh k a=>absurd a (h.2 k),λb=>by rw[b.1];exact h⟩
structure fu(w:World)(Ps:List Th)(xs:List Value)(Fs:Nat->Fp):Prop where
 len:Ps.length=xs.length
 each:∀(k:Nat) (P:Th) (v:Value),Ps[k]? =some P->xs[k]? =some v->P w (Fs k) v
 dis:∀j k,j<Ps.length->k<Ps.length->j≠k->oj (Fs j) (Fs k)
def under(n:Nat)(a:Nat->Fp):Fp:=λb=>∃k,k<n/\a k b
def fset(a:Nat->Fp)(k:Nat)(F:Fp):Nat->Fp:=λj=>if j=k then F else a j
theorem fu.frame{w e:World}{a:List Th}{xs:List Value}{c:Nat->Fp}{G:Fp}(h:fu w a xs c)(f:∀P∈a,dO P)(g:aW G w e)(i:oj (under a.length c) G):fu e a xs c:=
 ⟨h.len,λk P v d hv=>(f P (cD d)).frame (h.each k P v d hv) g λb j l=>i b ⟨k,(ce.1 d).1,j⟩ l,h.dis⟩
theorem fu.lt{w:World}{a:List Th}{xs:List Value}{c:Nat->Fp}(h:fu w a xs c)(f:∀P∈a,dO P):∀b,under a.length c b->b<w.heap.size:=λb ⟨k,d,hb⟩=>by
 obtain⟨P,e⟩:∃P,a[k]? =some P:=⟨_,bZ d⟩
 obtain⟨v,hv⟩:∃v,xs[k]? =some v:=⟨_,bZ (by rw[<- h.len];exact d)⟩
 exact(f P (cD e)).lt (h.each k P v e hv) b hb
theorem fu.set{w s:World}{n:List Th}{xs:List Value}{o:Nat->Fp}{k:Nat}{p:Fp}{P':Th}{v':Value}(h:fu w n xs o)(z:∀P∈n,dO P)(q:k<n.length)(u:aO (o k) p w s)(hv:P' s p v'):
  fu s (n.set k P') (xs.set k v') (fset o k p):=by
 have d:∀j,j<n.length->j≠k->oj (o j) p:=λj g t b m r=>by
  rcases u.sub b r with h3|h3
  ·exact h.dis j k g q t b m h3
  ·have:=h.lt z b ⟨j,g,m⟩;omega
 refine⟨by simp[h.len],λj P v l e=>?_,λi j x g y=>?_⟩
 ·rw[cU]at l e;by_cases f:k=j
  ·subst f;rw[bX rfl,bX q]at l;rw[bX rfl,bX (by rw[<- h.len];exact q)]at e;cases l;cases e;simpa [fset]using hv
  ·rw[bY f]at l e;have g:=(ce.1 l).1;simp only[fset,bY (Ne.symm f)];exact(z P (cD l)).frame (h.each j P v l e) u.aw (h.dis j k g q (Ne.symm f))
 ·simp only[cE]at x g;unfold fset;by_cases m:i=k
  ·rw[bX m,bY dy];exact λb a c=>d j g dy b c a
  ·rw[bY m];by_cases r:j=k
   ·rw[bX r];exact d i x m
   ·rw[bY r];exact h.dis i j x g y
theorem td{n k:Nat}{a:Nat->Fp}{c:Fp}(b:Nat)(h:under n (fset a k c) b):c b\/under n a b:=by
 obtain⟨j,d,hb⟩:=h;unfold fset at hb;split at hb
 ·exact .inl hb
 ·exact .inr ⟨j,d,hb⟩
theorem fu.app{w:World}{d Qs:List Th}{xs o:List Value}{m Gs:Nat->Fp}(h:fu w d xs m)(k:fu w Qs o Gs)(p:oj (under d.length m) (under Qs.length Gs)):
  fu w (d++Qs) (xs++o) λj=>if j<d.length then m j else Gs (j-d.length):=by
 refine⟨by simp[h.len,k.len],λj P v l hv=>?_,λi j q f n=>?_⟩
 ·by_cases f:j<d.length
  ·rw[List.getElem?_append_left f]at l;rw[List.getElem?_append_left (by rw[<- h.len];exact f)]at hv;simp only[bX f];exact h.each j P v l hv
  ·rw[List.getElem?_append_right dy]at l;rw[List.getElem?_append_right (by rw[<- h.len];omega),<-h.len]at hv;simp only[bY f];exact k.each _ P v l hv
 ·simp only[cJ]at q f;by_cases g:i<d.length
  ·by_cases e:j<d.length
   ·simp only[bX g,bX e];exact h.dis i j g e n
   ·simp only[bX g,bY e];exact λb a c=>p b ⟨i,g,a⟩ ⟨_,dy,c⟩
  ·by_cases e:j<d.length
   ·simp only[bY g,bX e];exact λb a c=>p b ⟨j,e,c⟩ ⟨_,dy,a⟩
   ·simp only[bY g,bY e];exact k.dis _ _ dy dy dy
theorem under_app{n m:Nat}{c Gs:Nat->Fp}(b:Nat):under (n+m) (λj=>if j<n then c j else Gs (j-n)) b<->under n c b\/under m Gs b:=by
 constructor
 ·rintro⟨j,a,hb⟩;by_cases h:j<n
  ·rw[bX h]at hb;exact .inl ⟨j,h,hb⟩
  ·rw[bY h]at hb;exact .inr ⟨j-n,dy,hb⟩
 ·rintro(⟨j,a,hb⟩|⟨j,a,hb⟩)
  ·exact⟨j,dy,by simp only[bX a];exact hb⟩
  ·exact⟨n+j,dy,by simp only[bY (show¬n+j<n by omega),Nat.add_sub_cancel_left];exact hb⟩
def aL(e:TypeId)(z n:Nat)(a:List Th):Th:=λw F x=>∃(xs:List Value) (c:Nat->Fp),w.ownsRow 0 e z x n xs/\fu w a xs c/\(∀ b,under a.length c b->x.ownBlock≠some b)/\∀b,F b<->x.ownBlock=some b\/under a.length c b
theorem bK{e:TypeId}{z n:Nat}{m:List Th}(o:∀P∈m,dO P):dO (aL e z n m):=by
 refine⟨fun⟨xs,i,d,j,p,f⟩ q r=>⟨xs,i,q.row d λk l s=>r k ((f k).2 (.inl l)) s,j.frame o q λb a c=>r b ((f b).2 (.inr a)) c,p,f⟩,fun⟨xs,i,d,j,p,f⟩ k l=>?_,fun⟨xs,i,d,_⟩=>?_⟩
 ·rcases(f k).1 l with h|h
  ·exact(d.lt k h).2
  ·exact j.lt o k h
 ·rcases d.2 with⟨rfl,_⟩|⟨g,t,u,rfl,_⟩<;>exact⟨rfl,rfl⟩
theorem aL.nil{e:TypeId}{z:Nat}{w:World}:aL e z 0 [] w ck (.slice none 0 0):=
 ⟨[],λ_=>ck,World.ownsRow_nil _ _ _ _,⟨rfl,λk P v h=>by simp at h,λj k h=>by simp at h⟩,λb ⟨k,a,_⟩=>by simp at a,λb=>⟨λh=>h.elim,λh=>by rcases h with h|⟨k,a,_⟩;cases h;simp at a⟩⟩
theorem aW.put(w:World)(g:Nat)(c:Array Value)(e:TypeId):aW (λb=>b=g) w (Ev.put w g c e):=(aW.of (S:= [g]) ((ad.refl _ _).put (.inl (by simp)) c e)).mono λk a=>by simpa using a
theorem aO.put{F a:Fp}{w w1:World}(u:aO F a w w1){g:Nat}(d:a g)(c:Array Value)(e:TypeId):aO F a w (Ev.put w1 g c e):=
 u.trans ⟨(aW.put w1 g c e).mono λk b=>by rw[b];exact d,λk b=> .inl b⟩
theorem mV{α:Type}{l:List α}{k:Nat}{v:α}(h:l[k]? =some v):l.set k v=l:=by
 apply List.ext_getElem?;intro j;rw[cU];split
 ·rename_i e;subst e;rw[bX (ce.1 h).1,h]
 ·rfl
theorem aL.turn{e:TypeId}{z n:Nat}{a:List Th}{w w1:World}{F d:Fp}{x v:Value}{xs:List Value}{c:Nat->Fp}{k:Nat}{P':Th}(l:w.ownsRow 0 e z x n xs)(m:fu w a xs c)(i:∀b,under a.length c b->x.ownBlock≠some b)(g:∀b,F b<->x.ownBlock=some b\/under a.length c b)
  (o:∀P∈a,dO P) (f:k<a.length) (u:aO (c k) d w w1) (hv:P' w1 d v):
  w1.ownsRow 0 e z x n xs/\fu w1 (a.set k P') (xs.set k v) (fset c k d)/\(∀ b,under (a.set k P').length (fset c k d) b->x.ownBlock≠some b)/\aO F (λb=>x.ownBlock=some b\/under (a.set k P').length (fset c k d) b) w w1:=by
 refine⟨u.aw.row l λb hb p=>i b ⟨k,f,p⟩ hb,m.set o f u hv,λb hb j=>?_,u.aw.mono λb hb=>(g b).2 (.inr ⟨k,f,hb⟩),λb hb=>?_⟩
 ·rw[cE]at hb;rcases td b hb with h|h
  ·rcases u.sub b h with h5|h5
   ·exact i b ⟨k,f,h5⟩ j
   ·have:=(l.lt b j).2;omega
  ·exact i b h j
 ·rcases hb with hb|hb
  ·exact .inl ((g b).2 (.inl hb))
  ·rw[cE]at hb;rcases td b hb with h|h
   ·rcases u.sub b h with h5|h5
    ·exact .inl ((g b).2 (.inr ⟨k,f,h5⟩))
    ·exact .inr h5
   ·exact .inl ((g b).2 (.inr h))
theorem aL.cell{e:TypeId}{z n:Nat}{q:List Th}{w:World}{F:Fp}{x:Value}(h:aL e z n q w F x)(D:∀P∈q,dO P){k:Nat}{P:Th}(L:q[k]? =some P):
  ∃(g c:Nat) (v:Value) (r:Fp),x= .slice (some ⟨g,0,none⟩) n c/\F g/\¬r g/\(∀ b,r b->F b)/\ao (hp w g) k=some v/\P w r v/\
   (∀ w1 l P',aO r l w w1->P' w1 l v->∃s,aL e z n (q.set k P') w1 s x/\aO F s w w1)/\
   (∀ w1 l P' v',aO r l w w1->dO P'->P' w1 l v'->mX (hp w1 g) (k+1)=true/\∃s,aL e z n (q.set k P') (put w1 g ((dG (hp w1 g)).setIfInBounds k v') (dH (hp w1 g))) s x/\aO F s w (put w1 g ((dG (hp w1 g)).setIfInBounds k v') (dH (hp w1 g)))):=by
 obtain⟨xs,M,A,B,E,C⟩:=h;have t:=(ce.1 L).1;have y:k<xs.length:=by rw[<- B.len];exact t
 obtain⟨v,hv⟩:∃v,xs[k]? =some v:=⟨_,bZ y⟩
 have O:=A.1;obtain⟨g,j,R,G⟩:∃g j,x= .slice (some ⟨g,0,none⟩) n j/\ao (hp w g) k=some v:=by
  rcases A.2 with⟨rfl,S⟩|⟨g,j,H,rfl,T,I,U,V,W,m⟩
  ·subst S;omega
  ·refine⟨g,j,rfl,?_⟩;have J:hp w g=some (.cells H e (0,0)):=I;rw[J,aN];have:=hv;rw[<- m,List.getElem?_take,bX dy]at this;simpa using this
 subst R;have f:(Value.slice (some ⟨g,0,none⟩) n j).ownBlock=some g:=rfl;refine⟨g,j,v,M k,rfl,(C g).2 (.inl f),λX=>E g ⟨k,t,X⟩ f,λb hb=>(C b).2 (.inr ⟨k,t,hb⟩),G,B.each k P v L hv,λw1 l P' u p=>?_,λw1 l P' v' u K p=>?_⟩
 ·obtain⟨a,b,c,d⟩:=aL.turn A B E C D t u p;rw[mV hv]at b;exact⟨_,⟨xs,_,a,b,c,λ_=>Iff.rfl⟩,d⟩
 ·obtain⟨a,b,c,d⟩:=aL.turn A B E C D t u p;obtain⟨p1,p2⟩:=rN (vs:= [v']) a f (o:=k) (by simp;omega);refine⟨p2,_,⟨xs.set k v',fset M k l,?_,b.frame (λQ Y=>?_) (aW.put w1 g _ _) (λi Z hj=>c i Z (by rw[hj];exact f)),c,λ_=>Iff.rfl⟩,d.put (.inl f) _ _⟩
  ·rw[<- set_eq xs k v' y];exact p1
  ·rcases List.mem_or_eq_of_mem_set Y with hq|hq
   ·exact D Q hq
   ·rw[hq];exact K
def dV(e:TypeId)(g:Nat)(a:List Th)(w:World)(F:Fp):Prop:=∃(xs:List Value) (c:Nat->Fp),hp w g=some (.cells xs.toArray e)/\fu w a xs c/\¬under a.length c g/\∀b,F b<->b=g\/under a.length c b
theorem dV.frame{e:TypeId}{g:Nat}{d:List Th}{w i:World}{F G:Fp}(h:dV e g d w F)(l:∀P∈d,dO P)(j:aW G w i)(k:oj F G):dV e g d i F:=by
 obtain⟨xs,m,n,o,p,f⟩:=h;exact⟨xs,m,j.at n λq=>k g ((f g).2 (.inl rfl)) q,o.frame l j λb a c=>k b ((f b).2 (.inr a)) c,p,f⟩
theorem dV.lt{e:TypeId}{g:Nat}{a:List Th}{w:World}{F:Fp}(h:dV e g a w F)(b:∀P∈a,dO P):∀k,F k->k<w.heap.size:=λk c=>by
 obtain⟨xs,j,d,f,l,i⟩:=h;rcases(i k).1 c with h|h
 ·subst h;exact az d
 ·exact f.lt b k h
theorem dV.cell{e:TypeId}{g:Nat}{l:List Th}{w:World}{F:Fp}(h:dV e g l w F)(B:∀P∈l,dO P){k:Nat}{P:Th}(C:l[k]? =some P):
  ∃(v:Value) (q:Fp),F g/\¬q g/\(∀ b,q b->F b)/\ao (hp w g) k=some v/\P w q v/\
   (∀ w1 f P',aO q f w w1->P' w1 f v->∃r,dV e g (l.set k P') w1 r/\aO F r w w1)/\
   (∀ w1 f P' v',aO q f w w1->dO P'->P' w1 f v'->mX (hp w1 g) (k+1)=true/\∃r,dV e g (l.set k P') (put w1 g ((dG (hp w1 g)).setIfInBounds k v') (dH (hp w1 g))) r/\aO F r w (put w1 g ((dG (hp w1 g)).setIfInBounds k v') (dH (hp w1 g)))):=by
 obtain⟨xs,o,t,x,s,p⟩:=h;have m:=(ce.1 C).1;have y:k<xs.length:=by rw[<- x.len];exact m
 obtain⟨v,hv⟩:∃v,xs[k]? =some v:=⟨_,bZ y⟩
 have n:∀{w1:World} {f:Fp} {P':Th} {v':Value},aO (o k) f w w1->P' w1 f v'->hp w1 g=some (.cells xs.toArray e)/\fu w1 (l.set k P') (xs.set k v') (fset o k f)/\¬under (l.set k P').length (fset o k f) g/\aO F (λb=>b=g\/under (l.set k P').length (fset o k f) b) w w1:=by
  intro w1 f P' v' u j;refine⟨u.aw.at t λz=>s ⟨k,m,z⟩,x.set B m u j,λhb=>?_,u.aw.mono λb hb=>(p b).2 (.inr ⟨k,m,hb⟩),λb hb=>?_⟩
  ·rw[cE]at hb;rcases td g hb with h|h
   ·rcases u.sub g h with h5|h5
    ·exact s ⟨k,m,h5⟩
    ·have:=az t;omega
   ·exact s h
  ·rcases hb with hb|hb
   ·exact .inl ((p b).2 (.inl hb))
   ·rw[cE]at hb;rcases td b hb with h|h
    ·rcases u.sub b h with h5|h5
     ·exact .inl ((p b).2 (.inr ⟨k,m,h5⟩))
     ·exact .inr h5
    ·exact .inl ((p b).2 (.inr h))
 refine⟨v,o k,(p g).2 (.inl rfl),λz=>s ⟨k,m,z⟩,λb hb=>(p b).2 (.inr ⟨k,m,hb⟩),by rw[t,aN];simpa using hv,x.each k P v C hv,λw1 f P' u j=>?_,λw1 f P' v' u A j=>?_⟩
 ·obtain⟨a,b,c,d⟩:=n (v':=v) u j;rw[mV hv]at b;exact⟨_,⟨xs,_,a,b,c,λ_=>Iff.rfl⟩,d⟩
 ·obtain⟨a,b,c,d⟩:=n u j;refine⟨by rw[a];simp;omega,_,⟨xs.set k v',fset o k f,?_,b.frame (λQ D=>?_) (aW.put w1 g _ _) (λi E G=>c (by rw[<- G];exact E)),c,λ_=>Iff.rfl⟩,d.put (.inl rfl) _ _⟩
  ·rw[a,ay,ar,aq (az a)];simp
  ·rcases List.mem_or_eq_of_mem_set D with hq|hq
   ·exact B Q hq
   ·rw[hq];exact A
theorem dV.new{e:TypeId}{c:List Th}{w:World}{xs:List Value}{d:Nat->Fp}(a:fu w c xs d)(f:∀P∈c,dO P):dV e w.heap.size c (w.alloc (.cells xs.toArray e)) (λb=>b=w.heap.size\/under c.length d b):=by
 refine⟨xs,d,by rw[af,bX rfl],a.frame f (aW.bV ((ad.refl _ _).alloc _) ck) (λ_ _ h=>h),λh=>?_,λ_=>Iff.rfl⟩;have:=a.lt f _ h;omega
theorem aL.grow{e:TypeId}{z n m:Nat}{c Qs:List Th}{w d:World}{F G:Fp}{x x':Value}{r:List Value}{Gs:Nat->Fp}(h:aL e z n c w F x)(v:∀P∈c,dO P)(y:∀P∈Qs,dO P)(A:fu w Qs r Gs)(q:∀b,G b<->under Qs.length Gs b)(s:oj F G)
  (H:∀xs,w.ownsRow 0 e z x n xs->d.ownsRow 0 e z x' (n+m) (xs++r)) (a:w.grownBy d x.ownBlock) (f:iB w x x'):
  ∃B,aL e z (n+m) (c++Qs) d B x'/\aO (λb=>F b\/G b) B w d/\aW F w d:=by
 obtain⟨xs,C,I,D,E,g⟩:=h;have i:aW (λb=>x.ownBlock=some b) w d:=⟨a.os,a.tape,a.output,a.size,λk J K=>a.block k J λe=>K e.symm⟩
 have l:aW F w d:=i.mono λb hb=>(g b).2 (.inl hb);have a2:=D.frame v i λb hb t=>E b hb t;have L:=A.frame y i λb hb t=>s b ((g b).2 (.inl t)) ((q b).2 hb);have u:oj (under c.length C) (under Qs.length Gs):=λb hb i=>s b ((g b).2 (.inr hb)) ((q b).2 i);have o:∀b,under (c++Qs).length (λj=>if j<c.length then C j else Gs (j-c.length)) b->x'.ownBlock≠some b:=λb hb p=>by
  rw[cJ]at hb;rcases(under_app b).1 hb with h|h
  ·rcases f b p with h5|h5
   ·exact E b h h5
   ·have:=D.lt v b h;omega
  ·rcases f b p with h5|h5
   ·exact s b ((g b).2 (.inl h5)) ((q b).2 h)
   ·have:=A.lt y b h;omega
 refine⟨_,⟨xs++r,_,H xs I,a2.app L u,o,λ_=>Iff.rfl⟩,⟨l.mono λb hb=> .inl hb,λb hb=>?_⟩,l⟩;rcases hb with hb|hb
 ·rcases f b hb with h5|h5
  ·exact .inl (.inl ((g b).2 (.inl h5)))
  ·exact .inr h5
 ·rw[cJ]at hb;rcases(under_app b).1 hb with h|h
  ·exact .inl (.inl ((g b).2 (.inr h)))
  ·exact .inl (.inr ((q b).2 h))
theorem ja{α β:Type}{f:α->List β}{z:Nat}(h:∀x,(f x).length=z):∀L:List α,(L.flatMap f).length=L.length*z
 | []=>by simp
 |x::xs=>by rw[dx,cJ,h x,ja h xs,List.length_cons,Nat.add_mul];omega
theorem ba{α β:Type}{f:α->List β}{z:Nat}(h:∀x,(f x).length=z):∀(L:List α) (i:Nat) (x:α),L[i]? =some x->∀k,k<z->(L.flatMap f)[i*z+k]? =(f x)[k]?
 | [],i,x,a,k,b=>by simp at a
 |y::c,0,x,a,k,b=>by
  simp at a;subst a;rw[dx,Nat.zero_mul,cV,List.getElem?_append_left (by rw[h];exact b)]
 |y::c,i+1,x,a,k,b=>by
  rw[dx,show(i+1)*z+k=(f y).length+(i*z+k)by rw[h,Nat.add_mul];omega,List.getElem?_append_right dy,Nat.add_sub_cancel_left];exact ba h c i x (by simpa using a) k b
theorem flatM_set{α β:Type}{f:α->List β}{z:Nat}(h:∀x,(f x).length=z){k:Nat}{p:β}(b:k<z){x x':α}(c:f x'=(f x).set k p):∀(L:List α) (i:Nat),L[i]? =some x->(L.flatMap f).set (i*z+k) p=(L.set i x').flatMap f
 | [],i,a=>by simp at a
 |y::d,0,a=>by
  simp at a;subst a;rw[dx,Nat.zero_mul,cV,List.set_append_left _ _ (by rw[h];exact b),List.set_cons_zero,dx,c]
 |y::d,i+1,a=>by
  rw[dx,show(i+1)*z+k=(f y).length+(i*z+k)by rw[h,Nat.add_mul];omega,List.set_append_right _ _ dy,Nat.add_sub_cancel_left,flatM_set h b c d i (by simpa using a),List.set_cons_succ,dx]
theorem aL.rd{e:TypeId}{z n:Nat}{d:List Th}{w:World}{F:Fp}{x:Value}(h:aL e z n d w F x):
  ∃A c xs a,x= .slice A n c/\ed w A xs/\xs.length=n*z/\fu w d xs a/\∀b,under d.length a b->F b:=by
 obtain⟨xs,a,f,g,l,i⟩:=h;obtain⟨A,c,j,k,_⟩:=aG f;exact⟨A,c,xs,a,j,k,f.1,g,λb hb=>(i b).2 (.inr hb)⟩
theorem fu.flat{w:World}{us xs:List Value}{b:Nat->Fp}(h:fu w (us.map hN) xs b):xs=us:=by
 apply List.ext_getElem?;intro k;rcases cZ k us.length with hk|hk
 ·have a:k<xs.length:=by have:=h.len;simp at this;omega
  have:=h.each k (hN us[k]) xs[k] (by simp[hk]) (bZ a);rw[bZ a,bZ hk,this.1]
 ·have:=h.len;simp at this;rw[df dy,df dy]
theorem fu.ofFlat{w:World}(us:List Value):fu w (us.map hN) us λ_=>ck:=
 ⟨by simp,λk P v a hv=>by
  rw[cM,hv]at a;cases a;exact⟨rfl,λ_ h=>h⟩,λ_ _ _ _ _ b h _=>h⟩
theorem good_flat{us:List Value}(h:∀u∈us,u.cells= #[u]/\u.oneCell'=true):∀P∈us.map hN,dO P:=λP a=>by
 obtain⟨u,b,rfl⟩:=List.mem_map.1 a;exact fN (h u b)
theorem fD{e:TypeId}{z n:Nat}{us:List Value}{w:World}{F:Fp}{x:Value}(h:aL e z n (us.map hN) w F x):w.ownsRow 0 e z x n us/\∀b,F b->x.ownBlock=some b:=by
 obtain⟨xs,l,d,a,m,i⟩:=h;rw[a.flat]at d;refine⟨d,λb hb=>?_⟩;rcases(i b).1 hb with j|⟨k,f,c⟩
 ·exact j
 ·obtain⟨P,g⟩:∃P,(us.map hN)[k]? =some P:=⟨_,bZ f⟩
  obtain⟨v,hv⟩:∃v,xs[k]? =some v:=⟨_,bZ (by rw[<- a.len];exact f)⟩
  have:=a.each k P v g hv;obtain⟨u,_,rfl⟩:=List.mem_map.1 (cD g);exact absurd c (this.2 b)
theorem gW{e:TypeId}{z n:Nat}{us:List Value}{w:World}{x:Value}{base:Nat}(h:w.ownsRow base e z x n us):aL e z n (us.map hN) w (λb=>x.ownBlock=some b) x:=
 ⟨us,λ_=>ck,ownsRow_mono h (cX _),fu.ofFlat us,λb ⟨_,_,hb⟩=>hb.elim,λb=>⟨λh=> .inl h,λh=>by rcases h with h|⟨_,_,h⟩;exact h;exact h.elim⟩⟩
end Go.Proofs.YtnpflajdbchghaaGreat.Ev
namespace Go.Proofs.YtnpflajdbchghaaGreat
open Tryz(f38 f66 prog underlying3)
open Go Ev Go.RowKit
abbrev eF:=Int×Int×Int×Int×Int
abbrev iD:=Int×Int
def bB(h:eF):List Value:= [bS h.1,bS h.2.1,bS h.2.2.1,bS h.2.2.2.1,bS h.2.2.2.2]
def gD(n:iD):List Value:= [bS n.1,bS n.2]
structure eO where
 nm:iD
 cls:Int
 off:Int
 chunks:List Int
 words:List (List Int)
 objs:List eF
structure nj where
 depth:Int
 holds:List iD
abbrev cP:=Int×Int×Int×Int×Int×Int
def dK(c:cP):List Value:= [bS c.1,bS c.2.1,bS c.2.2.1,bS c.2.2.2.1,bS c.2.2.2.2.1,bS c.2.2.2.2.2]
structure dv where
 c:cP
 loose:Bool
 slots:List iD
 rgs:List eO
 hands:List nj
def fE(l:List Int):List Value:=l.map (Value.int .u64)
def jd(L:List iD):Th:=aL 142 2 L.length ((L.flatMap gD).map hN)
def kK(L:List iD):Th:=aL 96 2 L.length ((L.flatMap gD).map hN)
def eP(L:List Int):Th:=aL 3 1 L.length ((ints L).map hN)
def jA(L:List Int):Th:=aL 33 1 L.length ((fE L).map hN)
def eG(L:List (List Int)):Th:=aL 139 1 L.length (L.map jA)
def lH(L:List eF):Th:=aL 32 5 L.length ((L.flatMap bB).map hN)
def iT(x:Int):Th:=hN (bS x)
def rgT(r:eO):List Th:= [iT r.nm.1,iT r.nm.2,iT r.cls,iT r.off,eP r.chunks,eG r.words,lH r.objs]
def hdT(h:nj):List Th:= [iT h.depth,kK h.holds]
def km(L:List eO):Th:=aL 99 7 L.length (L.flatMap rgT)
def ij(L:List nj):Th:=aL 136 2 L.length (L.flatMap hdT)
def mdT(m:dv):List Th:=(dK m.c).map hN++ [hN (.bool m.loose),jd m.slots,km m.rgs,ij m.hands]
def jP(w:World)(g:Nat)(m:dv)(F:Fp):Prop:=dV 90 g (mdT m) w F
theorem bH(k:IntKind)(x:Int):dO (hN (.int k x)):=fN ⟨rfl,rfl⟩
theorem fZ{us:List Value}(h:∀u∈us,∃k x,u= .int k x):∀P∈us.map hN,dO P:=good_flat λu a=>by
 obtain⟨k,x,rfl⟩:=h u a;exact⟨rfl,rfl⟩
theorem qD(L:List iD):∀u∈L.flatMap gD,∃k x,u= .int k x:=λu b=>by
 obtain⟨n,_,a⟩:=List.mem_flatMap.1 b;simp only[gD,dg,dk,or_false]at a;rcases a with rfl|rfl<;>exact⟨_,_,rfl⟩
theorem hnC_int(L:List eF):∀u∈L.flatMap bB,∃k x,u= .int k x:=λu b=>by
 obtain⟨n,_,a⟩:=List.mem_flatMap.1 b;simp only[bB,dg,dk,or_false]at a;rcases a with rfl|rfl|rfl|rfl|rfl<;>exact⟨_,_,rfl⟩
theorem ints_int(L:List Int):∀u∈ints L,∃k x,u= .int k x:=λu a=>by
 obtain⟨n,_,rfl⟩:=List.mem_map.1 a;exact⟨_,_,rfl⟩
theorem sr(L:List Int):∀u∈fE L,∃k x,u= .int k x:=λu a=>by
 obtain⟨n,_,rfl⟩:=List.mem_map.1 a;exact⟨_,_,rfl⟩
theorem oq(L:List iD):dO (jd L):=bK (fZ (qD L))
theorem kL(L:List iD):dO (kK L):=bK (fZ (qD L))
theorem bq(L:List Int):dO (eP L):=bK (fZ (ints_int L))
theorem ga(L:List Int):dO (jA L):=bK (fZ (sr L))
theorem fJ(L:List (List Int)):dO (eG L):=bK λP a=>by
 obtain⟨l,_,rfl⟩:=List.mem_map.1 a;exact ga l
theorem gf(L:List eF):dO (lH L):=bK (fZ (hnC_int L))
theorem good_rg(r:eO):∀P∈rgT r,dO P:=λP a=>by
 simp only[rgT,dg,dk,or_false]at a;rcases a with rfl|rfl|rfl|rfl|rfl|rfl|rfl
 ·exact bH _ _
 ·exact bH _ _
 ·exact bH _ _
 ·exact bH _ _
 ·exact bq _
 ·exact fJ _
 ·exact gf _
theorem good_hd(h:nj):∀P∈hdT h,dO P:=λP a=>by
 simp only[hdT,dg,dk,or_false]at a;rcases a with rfl|rfl
 ·exact bH _ _
 ·exact kL _
theorem jB(L:List eO):∀P∈L.flatMap rgT,dO P:=λP a=>by
 obtain⟨r,_,b⟩:=List.mem_flatMap.1 a;exact good_rg r P b
theorem good_hdL(L:List nj):∀P∈L.flatMap hdT,dO P:=λP a=>by
 obtain⟨r,_,b⟩:=List.mem_flatMap.1 a;exact good_hd r P b
theorem ss(L:List eO):dO (km L):=bK (jB L)
theorem qE(L:List nj):dO (ij L):=bK (good_hdL L)
theorem gF(m:dv):∀P∈mdT m,dO P:=λP b=>by
 rcases List.mem_append.1 b with h|h
 ·refine fZ (λu a=>?_) P h;simp only[dK,dg,dk,or_false]at a;rcases a with rfl|rfl|rfl|rfl|rfl|rfl<;>exact⟨_,_,rfl⟩
 ·simp only[dg,dk,or_false]at h;rcases h with rfl|rfl|rfl|rfl
  ·exact fN ⟨rfl,rfl⟩
  ·exact oq _
  ·exact ss _
  ·exact qE _
theorem qF(r:eO):(rgT r).length=7:=rfl
theorem tf(h:nj):(hdT h).length=2:=rfl
theorem mE(n:iD):(gD n).length=2:=rfl
theorem oW(h:eF):(bB h).length=5:=rfl
theorem jP.an{w a:World}{g:Nat}{m:dv}{F:Fp}(h:jP w g m F)(b:ad [] w a):jP a g m F:=dV.frame h (gF m) (aW.bV b ck) λ_ _ h=>h
structure MdR(w:World)(g:Nat)(m:dv)(s r h:Value):Prop where
 c:∀k,k<6->ao (hp w g) (0+k)=(dK m.c)[k]?
 l:ao (hp w g) (0+6)=some (.bool m.loose)
 sl:ao (hp w g) (0+7)=some s
 rl:ao (hp w g) (0+8)=some r
 hl:ao (hp w g) (0+9)=some h
 sT:∃F,jd m.slots w F s
 rT:∃F,km m.rgs w F r
 hT:∃F,ij m.hands w F h
theorem jP.rd{w:World}{g:Nat}{m:dv}{F:Fp}(h:jP w g m F):∃s r h,MdR w g m s r h:=by
 obtain⟨d,_,_,_,_,e,f,_⟩:=dV.cell h (gF m) (k:=7) (P:=jd m.slots) rfl;obtain⟨rv,_,_,_,_,i,j,_⟩:=dV.cell h (gF m) (k:=8) (P:=km m.rgs) rfl;obtain⟨hv,_,_,_,_,hh,l,_⟩:=dV.cell h (gF m) (k:=9) (P:=ij m.hands) rfl;obtain⟨lv,_,_,_,_,n,o,_⟩:=dV.cell h (gF m) (k:=6) (P:=hN (.bool m.loose)) rfl;refine⟨d,rv,hv,λk a=>?_,n.trans (by rw[o.1]),e,i,hh,⟨_,f⟩,⟨_,j⟩,⟨_,l⟩⟩;obtain⟨u,b⟩:∃u,(dK m.c)[k]? =some u:=⟨_,bZ (by simpa [dK]using a)⟩
 have p:(mdT m)[k]? =some (hN u):=by
  rw[mdT,List.getElem?_append_left (by simpa [dK]using a),cM,b];rfl
 obtain⟨v,_,_,_,_,q,t,_⟩:=dV.cell h (gF m) p;rw[cV,q,t.1,b]
theorem MdR.an{w b:World}{g:Nat}{m:dv}{s r h:Value}(k:MdR w g m s r h)(a:ad [] w b):MdR b g m s r h:=by
 have e:∀i u,ao (hp w g) i=some u->hp b g=hp w g:=λi u d=>a.block g (by
  rcases cZ g w.heap.size with h|h
  ·exact h
  ·have:hp w g=none:=by simp[hp];omega
   rw[this]at d;cases d) (by simp)
 have e:=e _ _ k.sl;obtain⟨F,f⟩:=k.sT;obtain⟨G,j⟩:=k.rT;obtain⟨H,n⟩:=k.hT;exact⟨λi o=>by rw[e];exact k.c i o,by rw[e];exact k.l,by rw[e];exact k.sl,by rw[e];exact k.rl,by rw[e];exact k.hl,
  ⟨F,(oq _).frame f (aW.bV a ck) λ_ _ h=>h⟩,⟨G,(ss _).frame j (aW.bV a ck) λ_ _ h=>h⟩,⟨H,(qE _).frame n (aW.bV a ck) λ_ _ h=>h⟩⟩
theorem sx{w:World}{L:List iD}{s:Value}(h:∃F,jd L w F s):∃A c,s= .slice A L.length c/\ed w A (L.flatMap gD):=by
 obtain⟨F,h⟩:=h;obtain⟨a,_⟩:=fD h;obtain⟨A,c,e,r,_⟩:=aG a;exact⟨A,c,e,r⟩
theorem rgs_sh{w:World}{L:List eO}{s:Value}(h:∃F,km L w F s):∃A c,s= .slice A L.length c:=by
 obtain⟨F,h⟩:=h;obtain⟨A,c,_,_,e,_⟩:=aL.rd h;exact⟨A,c,e⟩
theorem hands_sh{w:World}{L:List nj}{s:Value}(h:∃F,ij L w F s):∃A c,s= .slice A L.length c:=by
 obtain⟨F,h⟩:=h;obtain⟨A,c,_,_,e,_⟩:=aL.rd h;exact⟨A,c,e⟩
theorem c_mSlot{w:World}{g:Nat}{m:dv}{s r h:Value}(M:MdR w g m s r h)(n:Int):aa prog 74 [bU g,bS n] w λv b=>v= .bool (decide (0<=n/\n<m.slots.length))/\b=w:=by
 apply F74_ok;obtain⟨A,c,rfl,_⟩:=sx M.sT;by_cases a:0<=n
 ·simp only[F74,zS,a,nC,ld_86,M.sl,len_86];exact⟨by simp,trivial⟩
 ·simp only[F74,zS,a];exact⟨by simp,trivial⟩
def ek(L:List eO)(n:iD):Option Nat:=L.findIdx? (λr=>decide (r.nm=n))
theorem box_nm{w:World}(n:iD):hp (w.alloc (.cells (gD n).toArray 96)) w.heap.size=some (.cells (gD n).toArray 96):=by rw[af,bX rfl]
structure RgR(w:World)(b o:Nat)(r:eO)(cv wv ov:Value):Prop where
 c0:ao (hp w b) (o+0)=some (bS r.nm.1)
 c1:ao (hp w b) (o+1)=some (bS r.nm.2)
 c2:ao (hp w b) (o+2)=some (bS r.cls)
 c3:ao (hp w b) (o+3)=some (bS r.off)
 c4:ao (hp w b) (o+4)=some cv
 c5:ao (hp w b) (o+5)=some wv
 c6:ao (hp w b) (o+6)=some ov
 cT:∃F,eP r.chunks w F cv
 wT:∃F,eG r.words w F wv
 oT:∃F,lH r.objs w F ov
theorem rg_at{w:World}{L:List eO}{F:Fp}{x:Value}(h:km L w F x){i:Nat}{r:eO}(g:L[i]? =some r):∃b c,x= .slice (some ⟨b,0,none⟩) L.length c/\∃j wv ov,RgR w b (i*7) r j wv ov:=by
 have get:∀k,k<7->(L.flatMap rgT)[i*7+k]? =(rgT r)[k]? :=λk l=>ba qF L i r g k l;obtain⟨b,c,K,M,m,_,_,_,a,n,_⟩:=aL.cell h (jB L) (get 0 dy);obtain⟨O,P,Q,R,o,_,_,_,d,p,_⟩:=aL.cell h (jB L) (get 1 dy);obtain⟨S,T,v2,U,q,_,_,_,e,s,_⟩:=aL.cell h (jB L) (get 2 dy);obtain⟨V,W,X,F3,t,_,_,_,f,u,_⟩:=aL.cell h (jB L) (get 3 dy);obtain⟨Y,Z,v,F4,y,_,_,_,z,A,_⟩:=aL.cell h (jB L) (get 4 dy);obtain⟨b5,c5,B,F5,C,_,_,_,D,E,_⟩:=aL.cell h (jB L) (get 5 dy);obtain⟨b6,c6,G,F6,H,_,_,_,I,J,_⟩:=aL.cell h (jB L) (get 6 dy);subst m;cases o;cases q;cases t;cases y;cases C;cases H;rw[n.1]at a;rw[p.1]at d;rw[s.1]at e;rw[u.1]at f;exact⟨b,c,rfl,v,B,G,a,d,e,f,z,D,I,⟨F4,A⟩,⟨F5,E⟩,⟨F6,J⟩⟩
theorem uj{L:List eO}{n:iD}(h:∀(j:Nat) (r:eO),L[j]? =some r->r.nm≠n):ek L n=none:=by
 rw[ek,List.findIdx?_eq_none_iff];intro r a;obtain⟨j,b⟩:=dr a;simpa using h j r b
theorem findR_some{L:List eO}{n:iD}{i:Nat}{r:eO}(b:L[i]? =some r)(c:r.nm=n)(h:∀(j:Nat) (r:eO),j<i->L[j]? =some r->r.nm≠n):ek L n=some i:=by
 have a:=(ce.1 b).1;rw[ek,List.findIdx?_eq_some_iff_getElem];refine⟨a,?_,λj d=>?_⟩
 ·rw[bZ a]at b;cases b;simpa using c
 ·simpa using h j _ d (bZ dy)
theorem ldL_two{x:Option Obj}{o:Nat}{a b:Value}(d:ao x (o+0)=some a)(e:ao x (o+1)=some b):ldL x o 2=some [a,b]:=mI 2 o [a,b] rfl λj u c=>by
 rcases j with _|_|j
 ·simp at c;subst c;exact d
 ·simp at c;subst c;exact e
 ·simp at c
theorem nm_beq(a b:iD):((a.1==b.1)&&((a.2==b.2)&&true))=decide (a=b):=by
 obtain⟨a1,a2⟩:=a;obtain⟨c,d⟩:=b;by_cases e:a1=c<;>by_cases f:a2=d<;>simp[e,f]
theorem th{w:World}{g:Nat}{m:dv}{s r h:Value}(M:MdR w g m s r h)(n:iD)(X:m.rgs.length<=1000000):aa prog 40 [bU g,.agg (gD n).toArray] w λv D=>
  ad [] w D/\((ek m.rgs n=none/\v= .pointer none)\/∃i a b c,ek m.rgs n=some i/\m.rgs[i]? =some a/\r= .slice (some ⟨b,0,none⟩) m.rgs.length c/\v= .pointer (some ⟨b,i*7,none⟩)):=by
 apply F40_ok;have t:=box_nm (w:=w) n;have l:ad [] w (w.alloc (.cells (gD n).toArray 96)):=(ad.refl _ _).alloc _;simp only[F40,ak,au];generalize w.alloc (.cells (gD n).toArray 96)=w0 at*;have E:=M.an l;obtain⟨A,c,u⟩:=rgs_sh E.rT;generalize w.heap.size=G at*;have x:=E.rl;rw[u]at x;simp only[zS,qw,ld_87,x,len_87];have y:∀(d i:Nat) (w1:World),ad [] w0 w1->(∀ (j:Nat) (r:eO),j<i->m.rgs[j]? =some r->r.nm≠n)->i+d=m.rgs.length->
   P40_0 (bU g) (bU G) (bS m.rgs.length) (bS i) w1 λv D=>
  ad [] w D/\((ek m.rgs n=none/\v= .pointer none)\/∃i a b c,ek m.rgs n=some i/\m.rgs[i]? =some a/\r= .slice (some ⟨b,0,none⟩) m.rgs.length c/\v= .pointer (some ⟨b,i*7,none⟩)):=by
  intro d;induction d with
  |zero=>
   intro i w1 q B P;apply L40_0_ok;have:¬(i:Int)<m.rgs.length:=dy;simp only[L40_0,zS,this];exact⟨l.trans q,.inl ⟨uj λj r C=>B j r (by have:=(ce.1 C).1;omega) C,by first|rfl|trivial⟩⟩
  |succ d Q=>
   intro i w1 q B P;apply L40_0_ok;have H:(i:Int)<m.rgs.length:=dy;obtain⟨a,e⟩:∃a,m.rgs[i]? =some a:=⟨_,bZ dy⟩
   have J:=E.an q;obtain⟨F,S⟩:=J.rT;obtain⟨b,K,L,Y,wv,ov,R⟩:=rg_at S e;have k:=J.rl;rw[L]at k;have z:=q.at t (by simp);have O:=ia_87 (b:=b) (p:=0) (n:=m.rgs.length) (c:=K) (j:= .i64) (i:=(i:Int)) dy dy;rw[cq,cV]at O;have T:ao (hp w1 G) 0=some (bS n.1):=by rw[z];rfl
   have U:ao (hp w1 G) (0+1)=some (bS n.2):=by rw[z];rfl
   have I:be prog .eql 96 (.tmp 21) (.tmp 22) (.agg #[bS a.nm.1,bS a.nm.2]) (.agg #[bS n.1,bS n.2])=some (.bool (decide (a.nm=n))):=by
    rw[<- nm_beq];exact be_eql_96
   have V:=ldL_two (o:=i*7+0) R.c0 R.c1;have W:=ldL_two (o:=0) T U;simp only[L40_0,zS,H,qw,ld_87,k,O,fa_99_0,ld_96,V,W,Option.map_some,I];by_cases f:a.nm=n
   ·simp only[f,decide_true,zS];exact⟨l.trans q.drew,.inr ⟨i,a,b,K,findR_some e f B,e,L,rfl⟩⟩
   ·simp only[f,decide_false,zS,aj,ap (n:=(i:Int)+1) dy dy];have:=Q (i+1) w1.drew q.drew (λj r C u=>by
     rcases cZ j i with h1|h1
     ·exact B j r h1 u
     ·have:j=i:=dy;subst this;rw[e]at u;cases u;exact f) dy
    rw[db i 1]at this;exact this
 exact y m.rgs.length 0 w0 (ad.refl _ _) (λj r C=>dy) dy
theorem slot_at{w:World}{A:Option Addr}{c:Nat}{L:List iD}(h:ed w A (L.flatMap gD)){i:Nat}{p:iD}(a:L[i]? =some p):
  ∃b o,ai prog (Instr.indexAt 86 (.slice A L.length c) (bS i))=some (.pointer (some ⟨b,o,none⟩))/\ao (hp w b) (o+0)=some (bS p.1)/\ao (hp w b) (o+1)=some (bS p.2):=by
 have f:=(ce.1 a).1;obtain⟨b,o,e,d,_⟩:=h.elem (P:=prog) (c:=c) (n:=L.length) (i:=(i:Int)) (j:= .i64) Tryz.underlying86 sz_142 dy (by rw[ja mE];exact cy _) dy dy;rw[cq]at d;exact⟨b,o,e,(d 0 dy).trans (ba mE L i p a 0 dy),(d 1 dy).trans (ba mE L i p a 1 dy)⟩
theorem kT(h:eF)(w:World):aa prog 41 [.agg (bB h).toArray] w λv b=>v= .agg (gD (h.1,h.2.1)).toArray/\ad [] w b:=by
 apply F41_ok;simp only[F41,ak,au,al_96,ah];generalize a:(w.alloc (.cells (bB h).toArray 32)).alloc _=w1;have d:ad [] w w1:=by rw[<- a];exact((ad.refl _ _).alloc _).alloc _
 have a1:hp w1 w.heap.size=some (.cells (bB h).toArray 32):=by rw[<- a,af,ah,bY dy,af,bX rfl]
 have a2:hp w1 (w.heap.size+1)=some (.cells #[bS 0,bS 0] 96):=by rw[<- a,af,ah,bX rfl]
 clear a;have e:(bB h).toArray[0+0]? =some (bS h.1):=rfl;have f:(bB h).toArray[0+1]? =some (bS h.2.1):=rfl;simp only[zS,bG,gR,ag,a1,e,f,bd_96_0_1];rw[st_96 (by rfl) (by rfl) (by rw[a2];rfl) (by rw[a2];rfl),a2];simp only[ar];have g:hp (put w1 (w.heap.size+1) #[bS h.1,bS h.2.1] 96) (w.heap.size+1)=some (.cells #[bS h.1,bS h.2.1] 96):=aq (az a2) _ _;rw[aR (c:= #[bS h.1,bS h.2.1]) ag_96 sz_96 g,ac];exact⟨rfl,d.put (.inr dy) _ _⟩
def fO(m:dv)(n:iD):Bool:=decide (0<=n.1/\n.1<m.slots.length)&&decide (m.slots[n.1.toNat]? =some (1,n.2))
theorem c_mIsLive{w:World}{g:Nat}{m:dv}{s r h:Value}(M:MdR w g m s r h)(n:iD):aa prog 71 [bU g,.agg (gD n).toArray] w λv x=>v= .bool (fO m n)/\ad [] w x:=by
 apply F71_ok;have a:=box_nm (w:=w) n;have e:ad [] w (w.alloc (.cells (gD n).toArray 96)):=(ad.refl _ _).alloc _;simp only[F71,ak,au];generalize w.alloc (.cells (gD n).toArray 96)=w0 at*;have k:=(M.an e).an (ad.refl _ _).drew;have l:hp w0.drew w.heap.size=some (.cells (gD n).toArray 96):=a;have f:=e.drew;have t:(gD n).toArray[0+0]? =some (bS n.1):=rfl;have y:(gD n).toArray[0+1]? =some (bS n.2):=rfl;simp only[zS,fa_96_0,ag,a,t];generalize w0.drew=w1 at*;refine(c_mSlot k n.1).step ?_;obtain⟨A,c,rfl,z⟩:=sx k.sT;by_cases j:0<=n.1/\n.1<m.slots.length
 ·obtain⟨p,i⟩:∃p,m.slots[n.1.toNat]? =some p:=⟨_,bZ dy⟩
  obtain⟨b,o,u,B,C⟩:=slot_at (c:=c) z i;have d:((n.1.toNat:Nat):Int)=n.1:=dy;rw[d]at u;have D:=ldL_two B C;have q:be prog .eql 142 (.tmp 17) (.tmp 20) (.agg #[bS p.1,bS p.2]) (.agg #[bS 1,bS n.2])=some (.bool (decide (p=(1,n.2)))):=by
   rw[<- nm_beq];exact be_eql_142
  simp only[zS,j,and_self,nC,ld_86,k.sl,fa_96_1,ag,l,t,y,u,ld_142,D,Option.map_some,bd_142_0_1,q];refine⟨?_,f⟩;rw[fO,i,cj j,Bool.true_and];simp
 ·simp only[zS,j];exact⟨by simp[fO,j],f⟩
def gy(L:List iD):Nat:=(L.filter λp=>decide (p.1=0)).length
theorem spareN_snoc(L:List iD)(p:iD):gy (L++ [p])=gy L+if p.1=0 then 1 else 0:=by
 simp only[gy,List.filter_append,cJ];by_cases h:p.1=0<;>simp[h]
theorem c_mSpare{w:World}{g:Nat}{m:dv}{s r h:Value}(M:MdR w g m s r h)(S:m.slots.length<=1000000):aa prog 73 [bU g] w λv e=>v=bS (gy m.slots)/\ad [] w e:=by
 apply F73_ok;obtain⟨A,c,F,G⟩:=sx M.sT;have f:=M.sl;rw[F]at f;simp only[F73,zS,nC,ld_86,f,len_86];have j:∀(d i:Nat) (w1:World),ad [] w w1->i+d=m.slots.length->
   P73_0 (bS (gy (m.slots.take i))) (.slice A m.slots.length c) (bS m.slots.length) (bS i) w1 λv e=>v=bS (gy m.slots)/\ad [] w e:=by
  intro d;induction d with
  |zero=>
   intro i w1 u H;apply L73_0_ok;have:¬(i:Int)<m.slots.length:=dy;simp only[L73_0,zS,this];rw[List.take_of_length_le dy];exact⟨rfl,u⟩
  |succ d I=>
   intro i w1 u H;apply L73_0_ok;have x:(i:Int)<m.slots.length:=dy;have l:i<m.slots.length:=dy;obtain⟨b,o,J,K,L⟩:=slot_at (c:=c) (G.an u.below) (bZ l);have O:=ldL_two K L;have P:gy (m.slots.take i)<=i:=by
    have:=List.length_filter_le (λp:iD=>decide (p.1=0)) (m.slots.take i);simp only[gy];simp at this ⊢;omega
   have q:gy (m.slots.take (i+1))=gy (m.slots.take i)+if(m.slots[i]).1=0 then 1 else 0:=by
    rw[List.take_add_one,bZ l];exact spareN_snoc _ _
   generalize m.slots[i]=p at*;simp only[L73_0,zS,x,J,ld_142,O,Option.map_some,al_142];rw[st_142 (by rfl) (by rfl) (by rw[af,bX rfl];rfl) (by rw[af,bX rfl];rfl),af,bX rfl];simp only[ar];generalize C:w1.alloc _=t;have y:ad [] w1 t:=by rw[<- C];exact(ad.refl _ _).alloc _
   have Q:t.heap.size=w1.heap.size+1:=by rw[<- C];simp
   have z:ad [] w1 (put t w1.heap.size [Value.int .i64 p.1,Value.int .i64 p.2].toArray 142):=y.put (.inr (cy _)) _ _;have D:hp (put t w1.heap.size [Value.int .i64 p.1,Value.int .i64 p.2].toArray 142) w1.heap.size=some (.cells [Value.int .i64 p.1,Value.int .i64 p.2].toArray 142):=by rw[bf,bX rfl,bX dy]
   generalize put t w1.heap.size [Value.int .i64 p.1,Value.int .i64 p.2].toArray 142=w2 at*;have E:([Value.int .i64 p.1,Value.int .i64 p.2].toArray)[0+0]? =some (Value.int .i64 p.1):=rfl;have B:=u.trans z;have one:∀k:Nat,k=gy (m.slots.take (i+1))->P73_1 (bS k) (.slice A m.slots.length c) (bS m.slots.length) (bS i) w2 λv e=>v=bS (gy m.slots)/\ad [] w e:=by
    rintro k rfl;apply L73_1_ok;simp only[L73_1,zS,aj,ap (n:=(i:Int)+1) dy dy];have:=I (i+1) w2 B dy;rw[db i 1]at this;exact this
   by_cases a:p.1=0
   ·have R:(p.1==0)=true:=by rw[a];rfl
    simp only[zS,nS,ag,D,E,R,aj,ap (n:=(gy (m.slots.take i):Int)+1) dy dy];have:=one (gy (m.slots.take i)+1) (by rw[q,bX a]);rw[db _ 1]at this;exact this
   ·simp only[zS,nS,ag,D,E,bn a];exact one _ (by rw[q,bY a];rfl)
 exact j m.slots.length 0 w (ad.refl _ _) dy
def nH{α:Type} [DecidableEq α](L:List α)(x:α):Int:=match L.findIdx? (λy=>decide (y=x))with|some i=>(i:Int)|none=> -1
theorem pS{α:Type} [DecidableEq α]{L:List α}{x:α}(h:∀(j:Nat) (y:α),L[j]? =some y->y≠x):nH L x= -1:=by
 have:L.findIdx? (λy=>decide (y=x))=none:=by
  rw[List.findIdx?_eq_none_iff];intro r a;obtain⟨j,b⟩:=dr a;simpa using h j r b
 rw[nH,this]
theorem ti{α:Type} [DecidableEq α]{L:List α}{x y:α}{i:Nat}(b:L[i]? =some y)(c:y=x)(h:∀(j:Nat) (y:α),j<i->L[j]? =some y->y≠x):nH L x=i:=by
 have a:=(ce.1 b).1;have:L.findIdx? (λy=>decide (y=x))=some i:=by
  rw[List.findIdx?_eq_some_iff_getElem];refine⟨a,?_,λj d=>?_⟩
  ·rw[bZ a]at b;cases b;simpa using c
  ·simpa using h j _ d (bZ dy)
 rw[nH,this]
theorem sy{α:Type} [DecidableEq α](L:List α)(x:α):decide (0<=nH L x)=decide (x∈L):=by
 by_cases h:x∈L
 ·rw[cj h];unfold nH;split
  ·simp
  ·rename_i a;rw[List.findIdx?_eq_none_iff]at a;have:=a x h;simp at this
 ·rw[cr h,pS λj y hj e=>by subst e;exact h (cD hj)];simp
theorem hn_beq(a b:eF):((a.1==b.1)&&((a.2.1==b.2.1)&&((a.2.2.1==b.2.2.1)&&((a.2.2.2.1==b.2.2.2.1)&&((a.2.2.2.2==b.2.2.2.2)&&true)))))=decide (a=b):=by
 obtain⟨a1,a2,a3,a4,a5⟩:=a;obtain⟨c,d,e,f,g⟩:=b;by_cases i:a1=c<;>by_cases j:a2=d<;>by_cases k:a3=e<;>by_cases l:a4=f<;>by_cases m:a5=g<;>simp[i,j,k,l,m]
theorem c_nIndex{w:World}{A:Option Addr}{c:Nat}{L:List iD}(G:ed w A (L.flatMap gD))(O:L.length<=1000000)(x:iD):aa prog 122 [.slice A L.length c,.agg (gD x).toArray] w λv q=>v=bS (nH L x)/\ad [] w q:=by
 apply F122_ok;have g:hp (w.alloc (.cells (gD x).toArray 96)) w.heap.size=some (.cells (gD x).toArray 96):=by rw[af,bX rfl]
 have s:ad [] w (w.alloc (.cells (gD x).toArray 96)):=(ad.refl _ _).alloc _;simp only[F122,ak,au,ac,len_134];generalize w.alloc (.cells (gD x).toArray 96)=w0 at*;generalize w.heap.size=u at*;have k:∀(d i:Nat) (w1:World),ad [] w w1->hp w1 u=some (.cells (gD x).toArray 96)->(∀ (j:Nat) (y:iD),j<i->L[j]? =some y->y≠x)->i+d=L.length->
   P122_0 (.slice A L.length c) (bU u) (bS L.length) (bS i) w1 λv q=>v=bS (nH L x)/\ad [] w q:=by
  intro d;induction d with
  |zero=>
   intro i w1 l hb m H;apply L122_0_ok;have:¬(i:Int)<L.length:=dy;simp only[L122_0,zS,this];rw[pS λj y hj=>m j y (by have:=(ce.1 hj).1;omega) hj];exact⟨rfl,l⟩
  |succ d I=>
   intro i w1 l hb m H;apply L122_0_ok;have B:(i:Int)<L.length:=dy;have f:i<L.length:=dy;obtain⟨y,p⟩:∃y,L[i]? =some y:=⟨_,bZ f⟩
   obtain⟨b,o,J,_,F,_⟩:=(G.an l.drew.below).elem (P:=prog) (c:=c) (n:=L.length) (i:=(i:Int)) (j:= .i64) Tryz.underlying134 sz_96 dy (by rw[bN mE];exact cy _) dy dy;have C:L[i]=y:=by rw[bZ f]at p;exact Option.some.inj p
   rw[cq,lg mE L i f,C]at F;have K:=aR (t:=96) (c:=(gD x).toArray) ag_96 (show(Tryz.prog.info? 96).map (·.size)=some (gD x).toArray.size from sz_96) (show hp w1.drew u=_ from hb);have M:fR prog 96 (.pointer (some ⟨b,o,none⟩)) w1.drew=some (.agg (gD y).toArray):=by rw[ld_96,F];rfl
   have D:be prog .eql 96 (.tmp 11) (.tmp 15) (.agg (gD x).toArray) (.agg (gD y).toArray)=some (.bool (decide (x=y))):=by
    rw[<- nm_beq];exact be_eql_96
   simp only[L122_0,zS,B,K,J,M,D];by_cases a:x=y
   ·simp only[a,decide_true,zS];rw[<- a,ti p a.symm m];exact⟨rfl,l.drew⟩
   ·simp only[a,decide_false,zS,aj,ap (n:=(i:Int)+1) dy dy];have:=I (i+1) w1.drew l.drew hb (λj z hj E=>by
     rcases cZ j i with h1|h1
     ·exact m j z h1 E
     ·have:j=i:=dy;subst this;rw[p]at E;cases E;exact λe=>a e.symm) dy
    rw[db i 1]at this;exact this
 exact k L.length 0 w0 s g (λj r hj=>dy) dy
theorem c_hIndex{w:World}{A:Option Addr}{c:Nat}{L:List eF}(G:ed w A (L.flatMap bB))(O:L.length<=1000000)(x:eF):aa prog 163 [.slice A L.length c,.agg (bB x).toArray] w λv q=>v=bS (nH L x)/\ad [] w q:=by
 apply F163_ok;have g:hp (w.alloc (.cells (bB x).toArray 32)) w.heap.size=some (.cells (bB x).toArray 32):=by rw[af,bX rfl]
 have s:ad [] w (w.alloc (.cells (bB x).toArray 32)):=(ad.refl _ _).alloc _;simp only[F163,ak,au,ac,len_76];generalize w.alloc (.cells (bB x).toArray 32)=w0 at*;generalize w.heap.size=u at*;have k:∀(d i:Nat) (w1:World),ad [] w w1->hp w1 u=some (.cells (bB x).toArray 32)->(∀ (j:Nat) (y:eF),j<i->L[j]? =some y->y≠x)->i+d=L.length->
   P163_0 (.slice A L.length c) (bU u) (bS L.length) (bS i) w1 λv q=>v=bS (nH L x)/\ad [] w q:=by
  intro d;induction d with
  |zero=>
   intro i w1 l hb m H;apply L163_0_ok;have:¬(i:Int)<L.length:=dy;simp only[L163_0,zS,this];rw[pS λj y hj=>m j y (by have:=(ce.1 hj).1;omega) hj];exact⟨rfl,l⟩
  |succ d I=>
   intro i w1 l hb m H;apply L163_0_ok;have B:(i:Int)<L.length:=dy;have f:i<L.length:=dy;obtain⟨y,p⟩:∃y,L[i]? =some y:=⟨_,bZ f⟩
   obtain⟨b,o,J,_,F,_⟩:=(G.an l.drew.below).elem (P:=prog) (c:=c) (n:=L.length) (i:=(i:Int)) (j:= .i64) Tryz.underlying76 ma dy (by rw[bN oW];exact cy _) dy dy;have C:L[i]=y:=by rw[bZ f]at p;exact Option.some.inj p
   rw[cq,lg oW L i f,C]at F;have K:=aR (t:=32) (c:=(bB x).toArray) qX (show(Tryz.prog.info? 32).map (·.size)=some (bB x).toArray.size from ma) (show hp w1.drew u=_ from hb);have M:fR prog 32 (.pointer (some ⟨b,o,none⟩)) w1.drew=some (.agg (bB y).toArray):=by rw[ld_32,F];rfl
   have D:be prog .eql 32 (.tmp 11) (.tmp 15) (.agg (bB x).toArray) (.agg (bB y).toArray)=some (.bool (decide (x=y))):=by
    rw[<- hn_beq];exact be_eql_32
   simp only[L163_0,zS,B,K,J,M,D];by_cases a:x=y
   ·simp only[a,decide_true,zS];rw[<- a,ti p a.symm m];exact⟨rfl,l.drew⟩
   ·simp only[a,decide_false,zS,aj,ap (n:=(i:Int)+1) dy dy];have:=I (i+1) w1.drew l.drew hb (λj z hj E=>by
     rcases cZ j i with h1|h1
     ·exact m j z h1 E
     ·have:j=i:=dy;subst this;rw[p]at E;cases E;exact λe=>a e.symm) dy
    rw[db i 1]at this;exact this
 exact k L.length 0 w0 s g (λj r hj=>dy) dy
theorem c_nContains{w:World}{A:Option Addr}{c:Nat}{L:List iD}(d:ed w A (L.flatMap gD))(e:L.length<=1000000)(x:iD):aa prog 70 [.slice A L.length c,.agg (gD x).toArray] w λv f=>v= .bool (decide (x∈L))/\ad [] w f:=by
 apply F70_ok;have a:hp (w.alloc (.cells (gD x).toArray 96)) w.heap.size=some (.cells (gD x).toArray 96):=by rw[af,bX rfl]
 have b:ad [] w (w.alloc (.cells (gD x).toArray 96)):=(ad.refl _ _).alloc _;simp only[F70,ak,au];generalize w.alloc (.cells (gD x).toArray 96)=w0 at*;simp only[aR (t:=96) (c:=(gD x).toArray) ag_96 (show(Tryz.prog.info? 96).map (·.size)=some (gD x).toArray.size from sz_96) a,ac];refine(c_nIndex (c:=c) (d.an b.below) e x).mono ?_;rintro _ w1 ⟨rfl,g⟩;simp only[zS];exact⟨by rw[sy];congr,b.trans g⟩
theorem c_hContains{w:World}{A:Option Addr}{c:Nat}{L:List eF}(d:ed w A (L.flatMap bB))(e:L.length<=1000000)(x:eF):aa prog 121 [.slice A L.length c,.agg (bB x).toArray] w λv f=>v= .bool (decide (x∈L))/\ad [] w f:=by
 apply F121_ok;have a:hp (w.alloc (.cells (bB x).toArray 32)) w.heap.size=some (.cells (bB x).toArray 32):=by rw[af,bX rfl]
 have b:ad [] w (w.alloc (.cells (bB x).toArray 32)):=(ad.refl _ _).alloc _;simp only[F121,ak,au];generalize w.alloc (.cells (bB x).toArray 32)=w0 at*;simp only[aR (t:=32) (c:=(bB x).toArray) qX (show(Tryz.prog.info? 32).map (·.size)=some (bB x).toArray.size from ma) a,ac];refine(c_hIndex (c:=c) (d.an b.below) e x).mono ?_;rintro _ w1 ⟨rfl,g⟩;simp only[zS];exact⟨by rw[sy];congr,b.trans g⟩
theorem objs_sh{w:World}{L:List eF}{s:Value}(h:∃F,lH L w F s):∃A c,s= .slice A L.length c/\ed w A (L.flatMap bB):=by
 obtain⟨F,h⟩:=h;obtain⟨a,_⟩:=fD h;obtain⟨A,c,e,r,_⟩:=aG a;exact⟨A,c,e,r⟩
theorem lI{w:World}{L:List Int}{s:Value}(h:∃F,eP L w F s):∃A c,s= .slice A L.length c/\rr .i64 w A L:=by
 obtain⟨F,h⟩:=h;obtain⟨a,_⟩:=fD h;obtain⟨_,A,c,e,r,_⟩:=rd_of_own a;exact⟨A,c,e,r⟩
def eH(m:dv)(h:eF)(of:Int):Bool:=match ek m.rgs (h.1,h.2.1)with
 |none=>false
 |some i=>if h.2.2.2.2=0 then decide (h.2.2.1=0)&&(decide (h.2.2.2.1=0)&&decide (of≠2))else decide (of≠1)&&(match m.rgs[i]? with|some r=>decide (h∈r.objs)|none=>false)
theorem c_mKnown{w:World}{g:Nat}{m:dv}{s r hh:Value}(M:MdR w g m s r hh)(h:eF)(of:Int)(P:m.rgs.length<=1000000)(Q:∀l∈m.rgs,l.objs.length<=1000000):aa prog 69 [bU g,.agg (bB h).toArray,bS of] w λv n=>v= .bool (eH m h of)/\ad [] w n:=by
 apply F69_ok;have e:hp (w.alloc (.cells (bB h).toArray 32)) w.heap.size=some (.cells (bB h).toArray 32):=by rw[af,bX rfl]
 have o:ad [] w (w.alloc (.cells (bB h).toArray 32)):=(ad.refl _ _).alloc _;simp only[F69,ak,au];generalize w.alloc (.cells (bB h).toArray 32)=w0 at*;generalize w.heap.size=J at*;have p:∀n,hp n J=some (.cells (bB h).toArray 32)->fR prog 32 (bU J) n=some (.agg (bB h).toArray):=λn S=>aR (t:=32) (c:=(bB h).toArray) qX (show(Tryz.prog.info? 32).map (·.size)=some (bB h).toArray.size from ma) S;simp only[p _ e,ac];refine(kT h w0).mono ?_;rintro _ w1 ⟨rfl,C⟩;refine(th ((M.an o).an C) (h.1,h.2.1) P).mono ?_;rintro v w2 ⟨K,hv⟩;have a:=o.trans (C.trans K);have T:=M.an a;have d:=(C.trans K).at e (by simp);rcases hv with⟨y,rfl⟩|⟨i,l,b,c,y,f,U,rfl⟩
 ·simp only[zS,sX Tryz.underlying100];refine⟨?_,a⟩;simp[eH,y]
 ·obtain⟨F,V⟩:=T.rT;obtain⟨b',c',q,cv,wv,ov,R⟩:=rg_at V f;rw[U]at q;cases q;have D:(bB h).toArray[0+2]? =some (bS h.2.2.1):=rfl;have L:(bB h).toArray[0+3]? =some (bS h.2.2.2.1):=rfl;have u:(bB h).toArray[0+4]? =some (bS h.2.2.2.2):=rfl;by_cases x:h.2.2.2.2=0
  ·have E:(h.2.2.2.2==0)=true:=by rw[x];rfl
   have j:eH m h of=(decide (h.2.2.1=0)&&(decide (h.2.2.2.1=0)&&decide (of≠2))):=by rw[eH,y];simp only[x,if_true]
   by_cases z:h.2.2.1=0
   ·have k2:(h.2.2.1==0)=true:=by rw[z];rfl
    by_cases B:h.2.2.2.1=0
    ·have W:(h.2.2.2.1==0)=true:=by rw[B];rfl
     simp only[zS,sX Tryz.underlying100,iK,fy,ib,ag,d,u,D,L,E,k2,W];refine⟨?_,a⟩;rw[j];by_cases k:of=2<;>simp[z,B,k]
    ·simp only[zS,sX Tryz.underlying100,iK,fy,ib,ag,d,u,D,L,E,k2,bn B];refine⟨?_,a⟩;rw[j];simp[B]
   ·simp only[zS,sX Tryz.underlying100,iK,fy,ib,ag,d,u,D,E,bn z];refine⟨?_,a⟩;rw[j];simp[z]
  ·have j:eH m h of=(decide (of≠1)&&decide (h∈l.objs)):=by rw[eH,y];simp only[x,if_false,f]
   by_cases k:of=1
   ·have G:(of !=1)=false:=by rw[k];rfl
    simp only[zS,sX Tryz.underlying100,iK,ag,d,u,bn x,G];refine⟨?_,a.drew⟩;rw[j];simp[k]
   ·have G:(of !=1)=true:=bne_iff_ne.2 k;obtain⟨A,O,H,X⟩:=objs_sh R.oT;have I:=R.c6;rw[H]at I;have Y:ao (hp w2.drew b) (i*7+6)=some (.slice A l.objs.length O):=I;simp only[zS,sX Tryz.underlying100,iK,ag,d,u,bn x,G,fa_99_5,sh,I,p w2.drew d];refine(c_hContains (c:=O) (X.an (ad.refl [] _).drew.below) (Q l (cD f)) h).mono ?_;rintro _ w3 ⟨rfl,Z⟩;refine⟨?_,a.trans ((ad.refl _ _).drew.trans Z)⟩;rw[j];simp[k]
def iN(w n:Int):Bool:=decide (1<=w/\w<=1024/\1<=n/\n<=w)
theorem c_sRight(a n:Int)(w:World):aa prog 124 [bS a,bS n] w λv e=>v= .bool (iN a n)/\e=w:=by
 apply F124_ok;by_cases b:1<=a
 ·by_cases c:a<=1024
  ·by_cases d:1<=n
   ·simp only[F124,zS,b,c,d];exact⟨by simp[iN,b,c,d],trivial⟩
   ·simp only[F124,zS,b,c,d];exact⟨by simp[iN,d],trivial⟩
  ·simp only[F124,zS,b,c];exact⟨by simp[iN,c],trivial⟩
 ·simp only[F124,zS,b];exact⟨by simp[iN,b],trivial⟩
def m4(w n:Int):Bool:=iN w n&&decide (w<2*n)
theorem pU{a n:Int}(h:iN a n=true):1<=a/\a<=1024/\1<=n/\n<=a:=of_decide_eq_true h
theorem c_sAlone(a n:Int)(w:World):aa prog 125 [bS a,bS n] w λv c=>v= .bool (m4 a n)/\c=w:=by
 apply F125_ok;simp only[F125];refine(c_sRight a n w).step ?_;cases b:iN a n with
 |true=>
  have:=pU b;simp only[zS,m0,ap (n:=2*n) dy dy];exact⟨by simp[m4,b],trivial⟩
 |false=>
  simp only[zS];exact⟨by simp[m4,b],trivial⟩
def mf(w off n:Int):Bool:=iN w n&&(!m4 w n&&(decide (0<=off)&&decide (off<=w-n)))
theorem c_sFits(a off n:Int)(w:World):aa prog 123 [bS a,bS off,bS n] w λv e=>v= .bool (mf a off n)/\e=w:=by
 apply F123_ok;simp only[F123];refine(c_sRight a n w).step ?_;cases c:iN a n with
 |true=>
  have:=pU c;simp only[zS];refine(c_sAlone a n w).step ?_;cases d:m4 a n with
  |true=>
   simp only[zS];exact⟨by simp[mf,d],trivial⟩
  |false=>
   by_cases b:0<=off
   ·simp only[zS,aZ,b,ap (n:=a-n) dy dy];exact⟨by simp[mf,c,d,b],trivial⟩
   ·simp only[zS,b];exact⟨by simp[mf,b],trivial⟩
 |false=>
  simp only[zS];exact⟨by simp[mf,c],trivial⟩
def eI(w n:Int):Int:=if iN w n then(if m4 w n then w else n)else 0
theorem c_sAfter(a n:Int)(w:World):aa prog 79 [bS a,bS n] w λv d=>v=bS (eI a n)/\d=w:=by
 apply F79_ok;simp only[F79];refine(c_sRight a n w).step ?_;cases b:iN a n with
 |true=>
  simp only[zS];refine(c_sAlone a n w).step ?_;cases c:m4 a n with
  |true=>
   simp only[zS];exact⟨by simp[eI,b,c],trivial⟩
  |false=>
   simp only[zS];exact⟨by simp[eI,b,c],trivial⟩
 |false=>
  simp only[zS];exact⟨by simp[eI,b],trivial⟩
def hH(s n:Int):Int:=(n+s-1)/s*s
def stepOf(cls:Int):Int:=if cls<=0 then 1 else if cls=1 then 2 else if cls=2 then 4 else 8
def bW(cls n:Int):Int:=if n<1\/1024<n then 0 else hH (stepOf cls) n
theorem quo_nn{a b:Int}(h:0<=a):a.tdiv b=a/b:=Int.tdiv_eq_ediv_of_nonneg h
theorem shl_lit{P:Program}{t:TypeId}(k:Nat)(a:k<=3):bp P .shl t (bS 1) (bS k)=some (bS (2 ^ k)):=by
 rw[bp_shl dy];have:k=0\/k=1\/k=2\/k=3:=dy;rcases this with rfl|rfl|rfl|rfl<;>rfl
theorem c_sRound(cls n:Int)(w:World):aa prog 75 [bS cls,bS n] w λv p=>v=bS (bW cls n)/\p=w:=by
 apply F75_ok;by_cases c:n<1
 ·simp only[F75,zS,c];exact⟨by rw[bW,bX (.inl c)],trivial⟩
 by_cases d:1024<n
 ·simp only[F75,zS,c,d];exact⟨by rw[bW,bX (.inr d)],trivial⟩
 have f:∃k:Nat,k<=3/\stepOf cls=2 ^ k/\(if(3:Int)<(if(0:Int)>cls then 0 else cls)then(3:Int)else(if(0:Int)>cls then 0 else cls))=(k:Int):=by
  by_cases l:cls<=0
  ·refine⟨0,dy,by rw[stepOf,bX l];rfl,?_⟩;have:(if(0:Int)>cls then 0 else cls)=0:=by split<;>omega
   rw[this];rfl
  ·have e:(if(0:Int)>cls then 0 else cls)=cls:=by rw[bY dy]
   rw[e,stepOf,bY l];by_cases g:cls=1
   ·exact⟨1,dy,by rw[bX g];rfl,by rw[bY dy,g];rfl⟩
   ·rw[bY g];by_cases i:cls=2
    ·exact⟨2,dy,by rw[bX i];rfl,by rw[bY dy,i];rfl⟩
    ·refine⟨3,dy,by rw[bY i];rfl,?_⟩;split<;>omega
 obtain⟨k,q,r,f⟩:=f;have s:(1:Int)<=2 ^ k/\(2:Int) ^ k<=8:=by
  have:k=0\/k=1\/k=2\/k=3:=dy;rcases this with rfl|rfl|rfl|rfl<;>decide
 have hv:bW cls n=hH (2 ^ k) n:=by rw[bW,bY dy,r]
 have hb:0<=hH (2 ^ k) n/\hH (2 ^ k) n<=2000:=by
  have u:=Int.ediv_mul_le (n+2 ^ k-1) (b:=2 ^ k) dy;have m:=Int.ediv_nonneg (a:=n+2 ^ k-1) (b:=2 ^ k) dy dy;have o:=Int.mul_nonneg m (show(0:Int)<=2 ^ k by omega);exact⟨o,by simp only[hH];omega⟩
 have x:0<=(n+2 ^ k-1)/2 ^ k/\(n+2 ^ k-1)/2 ^ k<=2000:=by
  have m:=Int.ediv_nonneg (a:=n+2 ^ k-1) (b:=2 ^ k) dy dy;have o:=Int.ediv_le_self (a:=n+2 ^ k-1) (2 ^ k) dy;omega
 have j:=shl_lit (P:=prog) (t:=3) k q;generalize (2:Int) ^ k=st at*;have y:= @hH st n;simp only[F75,zS,c,d,pr_max,pr_min,f,j,aj,aZ,ap (n:=n+st) dy dy,ap (n:=n+st-1) dy dy,m3 (show st≠0 by omega),quo_nn (show 0<=n+st-1 by omega),ap (n:=(n+st-1)/st) dy dy,m0];have:(n+st-1)/st*st=hH st n:=rfl;rw[this,ap dy dy,hv];exact⟨rfl,trivial⟩
theorem RgR.an{w c:World}{b o:Nat}{r:eO}{d wv ov:Value}(k:RgR w b o r d wv ov)(a:ad [] w c):RgR c b o r d wv ov:=by
 have e:hp c b=hp w b:=a.block b (by
  rcases cZ b w.heap.size with h|h
  ·exact h
  ·have:hp w b=none:=by simp[hp];omega
   have f:=k.c0;rw[this]at f;cases f) (by simp)
 obtain⟨F,g⟩:=k.cT;obtain⟨G,i⟩:=k.wT;obtain⟨H,j⟩:=k.oT;exact⟨by rw[e];exact k.c0,by rw[e];exact k.c1,by rw[e];exact k.c2,by rw[e];exact k.c3,by rw[e];exact k.c4,by rw[e];exact k.c5,by rw[e];exact k.c6,
  ⟨F,(bq _).frame g (aW.bV a ck) λ_ _ h=>h⟩,⟨G,(fJ _).frame i (aW.bV a ck) λ_ _ h=>h⟩,⟨H,(gf _).frame j (aW.bV a ck) λ_ _ h=>h⟩⟩
def iO(l:List Int):Int:=if l.length=0 then -1 else l.getD (l.length-1) 0
theorem c_mNewest{w:World}{b o:Nat}{r:eO}{k wv ov:Value}(R:RgR w b o r k wv ov)(u:r.chunks.length<=1000000):aa prog 77 [.pointer (some ⟨b,o,none⟩)] w λv l=>v=bS (iO r.chunks)/\ad [] w l:=by
 apply F77_ok;obtain⟨A,c,d,m⟩:=lI R.cT;have a:=R.c4;rw[d]at a;have p:ao (hp w.drew b) (o+4)=some (.slice A r.chunks.length c):=a;by_cases f:r.chunks.length=0
 ·have e:((r.chunks.length:Int)==0)=true:=by rw[f];rfl
  simp only[F77,zS,nD,aH,a,aK,e];exact⟨by rw[iO,bX f],ad.refl _ _⟩
 ·have e:((r.chunks.length:Int)==0)=false:=beq_eq_false_iff_ne.2 dy;have s:(r.chunks.length:Int)-1=((r.chunks.length-1:Nat):Int):=dy;obtain⟨q,t,g⟩:=(m.drew).at (P:=prog) (c:=c) (j:= .i64) Tryz.underlying22 underlying3 aE (i:=((r.chunks.length-1:Nat):Int)) dy dy;rw[cq]at g;simp only[F77,zS,nD,aH,a,aK,e,aZ,s,ap (n:=((r.chunks.length-1:Nat):Int)) dy dy,t,g];exact⟨by rw[iO,bY f],(ad.refl _ _).drew⟩
def ef(r:eO)(words need:Int):Bool:=decide (0<r.chunks.length)&&mf words r.off need
theorem c_mFits{w:World}{b o:Nat}{r:eO}{g wv ov:Value}(R:RgR w b o r g wv ov)(words need:Int):aa prog 76 [.pointer (some ⟨b,o,none⟩),bS words,bS need] w λv i=>v= .bool (ef r words need)/\i=w:=by
 apply F76_ok;obtain⟨A,c,a,j⟩:=lI R.cT;have d:=R.c4;rw[a]at d;by_cases f:(0:Int)<r.chunks.length
 ·simp only[F76,zS,nD,fa_99_2,aH,ag,d,R.c3,aK,f];refine(c_sFits words r.off need w).step ?_;have e:0<r.chunks.length:=dy;simp only[zS,ef,e,Bool.true_and];exact⟨trivial,trivial⟩
 ·have e:¬0<r.chunks.length:=dy;simp only[F76,zS,nD,aH,d,aK,f];exact⟨by rw[ef,cr e];rfl,trivial⟩
structure HdR(w:World)(b o:Nat)(d:nj)(nv:Value):Prop where
 c0:ao (hp w b) (o+0)=some (bS d.depth)
 c1:ao (hp w b) (o+1)=some nv
 nT:∃F,kK d.holds w F nv
theorem hd_at{w:World}{L:List nj}{F:Fp}{x:Value}(h:ij L w F x){i:Nat}{d:nj}(e:L[i]? =some d):∃b c,x= .slice (some ⟨b,0,none⟩) L.length c/\∃nv,HdR w b (i*2) d nv:=by
 have get:∀k,k<2->(L.flatMap hdT)[i*2+k]? =(hdT d)[k]? :=λk f=>ba tf L i d e k f;obtain⟨b,c,q,r,g,_,_,_,a,j,_⟩:=aL.cell h (good_hdL L) (get 0 dy);obtain⟨s,t,l,m,n,_,_,_,o,p,_⟩:=aL.cell h (good_hdL L) (get 1 dy);subst g;cases n;rw[j.1]at a;exact⟨b,c,rfl,l,a,o,⟨m,p⟩⟩
theorem names_sh{w:World}{L:List iD}{s:Value}(h:∃F,kK L w F s):∃A c,s= .slice A L.length c/\ed w A (L.flatMap gD):=by
 obtain⟨F,h⟩:=h;obtain⟨a,_⟩:=fD h;obtain⟨A,c,e,r,_⟩:=aG a;exact⟨A,c,e,r⟩
def jQ(m:dv)(n:Int)(o:ez):Bool:=decide (0<=n)&&(decide (n<m.hands.length)&&jz o)
theorem c_mMay{w:World}{g:Nat}{m:dv}{s r h:Value}(M:MdR w g m s r h)(n:Int)(o:ez):aa prog 37 [bU g,bS n,.agg (dC o).toArray] w λv j=>v= .bool (jQ m n o)/\ad [] w j:=by
 apply F37_ok;have b:hp (w.alloc (.cells (dC o).toArray 37)) w.heap.size=some (.cells (dC o).toArray 37):=by rw[af,bX rfl]
 have a:ad [] w (w.alloc (.cells (dC o).toArray 37)):=(ad.refl _ _).alloc _;simp only[F37,ak,au];generalize w.alloc (.cells (dC o).toArray 37)=w0 at*;have i:=M.an a;obtain⟨A,c,hh⟩:=hands_sh i.hT;have f:=i.hl;rw[hh]at f;by_cases d:0<=n
 ·by_cases e:n<(m.hands.length:Int)
  ·have k:=aR (t:=37) (c:=(dC o).toArray) tJ (show(Tryz.prog.info? 37).map (·.size)=some (dC o).toArray.size from nZ) b;simp only[zS,d,qx,ld_88,f,len_88,e,k];refine(c_opMay o w0).mono ?_;rintro _ w1 ⟨rfl,l⟩;simp only[zS,jQ,d,e,Bool.true_and];exact⟨trivial,a.trans l⟩
  ·simp only[zS,d,qx,ld_88,f,len_88,e];exact⟨by rw[jQ,cr e];simp,a⟩
 ·simp only[zS,d];exact⟨by rw[jQ,cr d];simp,a⟩
def dZ(words:Int)(d:nj)(holds:Bool)(stale:Int)(o:ez)(a:Int):Int:=
 if o.1=2 then(if o.2.2.2.1<1\/words<o.2.2.2.1 then 5 else stale)
 else if o.1=3 then(if d.depth=15 then 8 else 0)
 else if o.1=4 then(if d.depth=0 then 4 else 0)
 else if o.1=5 then(if d.depth=0 then 4 else if holds then 0 else if d.holds.length=8 then 8 else stale)
 else if 6<=o.1/\o.1<=9 then(if holds=false then 4 else if a<=o.2.2.2.1 then 5 else 0)
 else if o.1=10\/o.1=12 then stale else 0
section
variable{W w:World}{g g6 g7 b k:Nat}{m:dv}{s r hh nv:Value}{o:ez}{h:eF}{d:nj}{holds:Bool}{stale:Int}
theorem l_ref2(a:ad [] W w):P38_2 w λv b=>v=bS 0/\ad [] W b:=by
 apply L38_2_ok;exact⟨rfl,a⟩
theorem l_ref3(i:ad [] W w)(l:hp w g6=some (.cells (dC o).toArray 37))(m:hp w g7=some (.cells (bB h).toArray 32))(words:Int)(j:o.1≠2/\o.1≠3/\o.1≠4/\o.1≠5){t:Bool}(n:t=decide (6<=o.1/\o.1<=9)):
  P38_3 (bU g6) (bU g7) (.bool holds) (bS stale) (bS o.1) (.bool t) w λv k=>v=bS (dZ words d holds stale o h.2.2.2.2)/\ad [] W k:=by
 apply L38_3_ok;have p:(bB h).toArray[0+4]? =some (bS h.2.2.2.2):=rfl;have r:dZ words d holds stale o h.2.2.2.2=if 6<=o.1/\o.1<=9 then(if holds=false then 4 else if h.2.2.2.2<=o.2.2.2.1 then 5 else 0)else if o.1=10\/o.1=12 then stale else 0:=by
  rw[dZ,bY j.1,bY j.2.1,bY j.2.2.1,bY j.2.2.2]
 rw[r];by_cases a:6<=o.1/\o.1<=9
 ·have g:t=true:=by rw[n];exact cj a
  subst g;rw[bX a];cases holds with
  |false=>
   simp only[L38_3,zS];exact⟨by simp,i⟩
  |true=>
   by_cases q:h.2.2.2.2<=o.2.2.2.1
   ·simp only[L38_3,zS,bm,iK,ag,l,m,mm,p,q];exact⟨by simp,i⟩
   ·simp only[L38_3,zS,bm,iK,ag,l,m,mm,p,q];simpa using l_ref2 i
 ·have g:t=false:=by rw[n];exact cr a
  subst g;rw[bY a];have four:∀c:Bool,P38_4 (bS stale) (.bool c) w λv k=>v=bS (if c=true then stale else 0)/\ad [] W k:=by
   intro c;apply L38_4_ok;cases c with
   |true=>simp only[L38_4,zS];exact⟨by simp,i⟩
   |false=>simp only[L38_4,zS];simpa using l_ref2 i
  by_cases b:o.1=10
  ·have f:=four true;simp only[L38_3,zS,b,Int.reduceBEq];simpa [b]using f
  ·by_cases e:o.1=12
   ·have f:=four true;simp only[L38_3,zS,e,Int.reduceBEq];simpa [e]using f
   ·have f:=four false;simp only[L38_3,zS,bn b,bn e];simpa [b,e]using f
theorem l_ref1(l:ad [] W w)(M:MdR w g m s r hh)(D:HdR w b k d nv)(i:hp w g6=some (.cells (dC o).toArray 37))(P:hp w g7=some (.cells (bB h).toArray 32)):
  P38_1 (bU g) (bU g6) (bU g7) (.pointer (some ⟨b,k,none⟩)) (.bool holds) (bS stale) w λv B=>v=bS (dZ m.c.2.2.1 d holds stale o h.2.2.2.2)/\ad [] W B:=by
 apply L38_1_ok;have I:ao (hp w g) (0+0+2)=some (bS m.c.2.2.1):=M.c 2 dy;by_cases k2:o.1=2
 ·have p:dZ m.c.2.2.1 d holds stale o h.2.2.2.2=if o.2.2.2.1<1\/m.c.2.2.1<o.2.2.2.1 then 5 else stale:=by rw[dZ,bX k2]
  rw[p];have C:(o.1==2)=true:=by rw[k2];rfl
  by_cases a:o.2.2.2.1<1
  ·simp only[L38_1,zS,am,bm,ag,i,aJ,mm,C,a];exact⟨by simp,l.drew⟩
  ·by_cases J:m.c.2.2.1<o.2.2.2.1
   ·simp only[L38_1,zS,am,bm,ag,i,aJ,mm,C,a,s8,fj,I,J];exact⟨by simp,l.drew⟩
   ·simp only[L38_1,zS,am,bm,ag,i,aJ,mm,C,a,s8,fj,I,J];exact⟨by simp,l.drew⟩
 by_cases j:o.1=3
 ·have p:dZ m.c.2.2.1 d holds stale o h.2.2.2.2=if d.depth=15 then 8 else 0:=by rw[dZ,bY k2,bX j]
  rw[p];have K:(o.1==3)=true:=by rw[j];rfl
  by_cases a:d.depth=15
  ·have e:(d.depth==15)=true:=by rw[a];rfl
   simp only[L38_1,zS,am,ag,i,aJ,bn k2,K,jX,D.c0,e];exact⟨by simp[a],l⟩
  ·simp only[L38_1,zS,am,ag,i,aJ,bn k2,K,jX,D.c0,bn a];simpa [a]using l_ref2 l
 by_cases n:o.1=4
 ·have p:dZ m.c.2.2.1 d holds stale o h.2.2.2.2=if d.depth=0 then 4 else 0:=by rw[dZ,bY k2,bY j,bX n]
  rw[p];have L:(o.1==4)=true:=by rw[n];rfl
  by_cases a:d.depth=0
  ·have e:(d.depth==0)=true:=by rw[a];rfl
   simp only[L38_1,zS,am,ag,i,aJ,bn k2,bn j,L,jX,D.c0,e];exact⟨by simp[a],l⟩
  ·simp only[L38_1,zS,am,ag,i,aJ,bn k2,bn j,L,jX,D.c0,bn a];simpa [a]using l_ref2 l
 by_cases u:o.1=5
 ·have p:dZ m.c.2.2.1 d holds stale o h.2.2.2.2=if d.depth=0 then 4 else if holds then 0 else if d.holds.length=8 then 8 else stale:=by rw[dZ,bY k2,bY j,bY n,bX u]
  rw[p];have y:(o.1==5)=true:=by rw[u];rfl
  by_cases a:d.depth=0
  ·have e:(d.depth==0)=true:=by rw[a];rfl
   simp only[L38_1,zS,am,ag,i,aJ,bn k2,bn j,bn n,y,jX,D.c0,e];exact⟨by simp[a],l⟩
  ·cases holds with
   |true=>
    simp only[L38_1,zS,am,ag,i,aJ,bn k2,bn j,bn n,y,jX,D.c0,bn a];simpa [a]using l_ref2 l
   |false=>
    obtain⟨A,c,E,_⟩:=names_sh D.nT;have F:=D.c1;rw[E]at F;by_cases G:d.holds.length=8
    ·have e:((d.holds.length:Int)==8)=true:=by rw[G];rfl
     simp only[L38_1,zS,am,ag,i,aJ,bn k2,bn j,bn n,y,jX,mL,ld_134,D.c0,F,bn a,len_134,e];exact⟨by simp[a,G],l⟩
    ·have e:((d.holds.length:Int)==8)=false:=beq_eq_false_iff_ne.2 dy;simp only[L38_1,zS,am,ag,i,aJ,bn k2,bn j,bn n,y,jX,mL,ld_134,D.c0,F,bn a,len_134,e];exact⟨by simp[a,G],l⟩
 have fin:∀t:Bool,t=decide (6<=o.1/\o.1<=9)->P38_3 (bU g6) (bU g7) (.bool holds) (bS stale) (bS o.1) (.bool t) w λv B=>v=bS (dZ m.c.2.2.1 d holds stale o h.2.2.2.2)/\ad [] W B:=λt Q=>l_ref3 l i P _ ⟨k2,j,n,u⟩ Q;by_cases x:o.1=6
 ·have q:(o.1==6)=true:=by rw[x];rfl
  have f:=fin true (by rw[x];rfl);simp only[L38_1,zS,am,ag,i,aJ,bn k2,bn j,bn n,bn u,q];exact f
 by_cases z:o.1=7
 ·have q:(o.1==7)=true:=by rw[z];rfl
  have f:=fin true (by rw[z];rfl);simp only[L38_1,zS,am,ag,i,aJ,bn k2,bn j,bn n,bn u,bn x,q];exact f
 by_cases H:o.1=8
 ·have q:(o.1==8)=true:=by rw[H];rfl
  have f:=fin true (by rw[H];rfl);simp only[L38_1,zS,am,ag,i,aJ,bn k2,bn j,bn n,bn u,bn x,bn z,q];exact f
 have f:=fin (o.1==9) (by
  by_cases O:o.1=9
  ·rw[O];rfl
  ·rw[bn O];exact(cr dy).symm)
 simp only[L38_1,zS,am,ag,i,aJ,bn k2,bn j,bn n,bn u,bn x,bn z,bn H];exact f
end
theorem HdR.an{w a:World}{b o:Nat}{d:nj}{nv:Value}(k:HdR w b o d nv)(c:ad [] w a):HdR a b o d nv:=by
 have e:hp a b=hp w b:=c.block b (by
  rcases cZ b w.heap.size with h|h
  ·exact h
  ·have:hp w b=none:=by simp[hp];omega
   have f:=k.c0;rw[this]at f;cases f) (by simp)
 obtain⟨F,g⟩:=k.nT;exact⟨by rw[e];exact k.c0,by rw[e];exact k.c1,⟨F,(kL _).frame g (aW.bV c ck) λ_ _ h=>h⟩⟩
def eN(d:nj)(h:eF):Bool:=decide ((h.1,h.2.1)∈d.holds)
def eJ(m:dv)(h:eF):Int:=if fO m (h.1,h.2.1)then 0 else 3
theorem l_ref0{W w:World}{g g6 g7 i b k:Nat}{m:dv}{s r hh nv:Value}{o:ez}{h:eF}{d:nj}(B:ad [] W w)(M:MdR w g m s r hh)(D:HdR w b k d nv)(C:hp w g6=some (.cells (dC o).toArray 37))(E:hp w g7=some (.cells (bB h).toArray 32))(n:hp w i=some (.cells (gD (h.1,h.2.1)).toArray 96))(F:d.holds.length<=1000000):
  P38_0 (bU g) (bU g6) (bU g7) (.pointer (some ⟨b,k,none⟩)) (bU i) w λv p=>v=bS (dZ m.c.2.2.1 d (eN d h) (eJ m h) o h.2.2.2.2)/\ad [] W p:=by
 apply L38_0_ok;obtain⟨A,c,u,G⟩:=names_sh D.nT;have x:=D.c1;rw[u]at x;have j:∀p,hp p i=some (.cells (gD (h.1,h.2.1)).toArray 96)->fR prog 96 (bU i) p=some (.agg (gD (h.1,h.2.1)).toArray):=λp H=>aR (t:=96) (c:=(gD (h.1,h.2.1)).toArray) ag_96 (show(Tryz.prog.info? 96).map (·.size)=some (gD (h.1,h.2.1)).toArray.size from sz_96) H;have y:ad [] w w.drew:=(ad.refl _ _).drew;simp only[L38_0,zS,mL,ld_134,x,j w.drew n];refine(c_nContains (c:=c) (G.an y.below) F (h.1,h.2.1)).mono ?_;rintro _ w1 ⟨rfl,I⟩;have l:=y.trans I;have q:=l.at n (by simp);simp only[j w1 q,ac];refine(c_mIsLive (M.an l) (h.1,h.2.1)).mono ?_;rintro _ w2 ⟨rfl,J⟩;have a:=l.trans J;have fin:=λstale=>l_ref1 (W:=W) (holds:=eN d h) (stale:=stale) (B.trans a) (M.an a) (D.an a) (a.at C (by simp)) (a.at E (by simp));cases z:fO m (h.1,h.2.1)with
 |true=>
  have f:=fin 0;have e:eJ m h=0:=by rw[eJ,z];rfl
  simp only[zS];rw[e];exact f
 |false=>
  have f:=fin 3;have e:eJ m h=3:=by rw[eJ,z];rfl
  simp only[zS];rw[e];exact f
def cf(m:dv)(d:nj)(o:ez)(h:eF):Int:=if gH o.1≠0/\eH m h (gH o.1)=false then 2 else dZ m.c.2.2.1 d (eN d h) (eJ m h) o h.2.2.2.2
structure Small(m:dv):Prop where
 r:m.rgs.length<=1000000
 o:∀rg∈m.rgs,rg.objs.length<=1000000
 h:∀d∈m.hands,d.holds.length<=1000000
theorem c_mRefuses{w:World}{g:Nat}{m:dv}{s r hh:Value}(M:MdR w g m s r hh)(sm:Small m){n:Int}(n0:0<=n){d:nj}(P:m.hands[n.toNat]? =some d)(o:ez)(h:eF):
  aa prog 38 [bU g,bS n,.agg (dC o).toArray,.agg (bB h).toArray] w λv e=>v=bS (cf m d o h)/\ad [] w e:=by
 apply F38_ok;simp -implicitDefEqProofs only[F38,ak,au,ah];generalize E:(w.alloc (.cells (dC o).toArray 37)).alloc _=w0;have S:ad [] w w0:=by rw[<- E];exact((ad.refl _ _).alloc _).alloc _
 have a1:hp w0 w.heap.size=some (.cells (dC o).toArray 37):=by rw[<- E,af,ah,bY dy,af,bX rfl]
 have a2:hp w0 (w.heap.size+1)=some (.cells (bB h).toArray 32):=by rw[<- E,af,ah,bX rfl]
 clear E;generalize w.heap.size=g6 at*;simp -implicitDefEqProofs only[zS,am,ag,a1,aJ];refine(c_opOf o.1 w0).mono ?_;rintro _ w1 ⟨rfl,k1⟩;have y:∀e,hp e (g6+1)=some (.cells (bB h).toArray 32)->fR prog 32 (.pointer (some ⟨g6+1,0,none⟩)) e=some (.agg (bB h).toArray):=λe E=>aR (t:=32) (c:=(bB h).toArray) qX (show(Tryz.prog.info? 32).map (·.size)=some (bB h).toArray.size from ma) E;have b1:=k1.at a1 (by simp);have G:=k1.at a2 (by simp);have B:=S.trans k1;have H:=M.an B;have T:d∈m.hands:=cD P;have a7:=(ce.1 P).1;have I:¬(gH o.1≠0/\eH m h (gH o.1)=false)->∀e,ad [] w1 e->∀f:Nat,hp e f=some (.cells (gD (h.1,h.2.1)).toArray 96)->∀b nv,HdR e b (n.toNat*2) d nv->
   P38_0 (bU g) (bU g6) (.pointer (some ⟨g6+1,0,none⟩)) (.pointer (some ⟨b,n.toNat*2,none⟩)) (bU f) e λv e=>v=bS (cf m d o h)/\ad [] w e:=by
  intro k e x f F b nv D;rw[cf,bY k];exact l_ref0 (B.trans x) (H.an x) D (x.at b1 (by simp)) (x.at G (by simp)) F (sm.h d T)
 obtain⟨F0,U⟩:=H.hT;obtain⟨b,c,Y,_⟩:=hd_at U P;have l:¬(gH o.1≠0/\eH m h (gH o.1)=false)->∀u,ad [] w1 u->∀f:Nat,w1.heap.size<=f->hp u f=some (.cells #[bS 0,bS 0] 96)->
   dE prog (Instr.storeAt 96 (bU f) (.agg (gD (h.1,h.2.1)).toArray)) u λe=>
   P38_0 (bU g) (bU g6) (.pointer (some ⟨g6+1,0,none⟩)) (.pointer (some ⟨b,n.toNat*2,none⟩)) (bU f) e λv e=>v=bS (cf m d o h)/\ad [] w e:=by
  intro k u x f V F;rw[st_96 (by rfl) (by rfl) (by rw[F];rfl) (by rw[F];rfl),F];simp -implicitDefEqProofs only[ar];have J:ad [] w1 (put u f (gD (h.1,h.2.1)).toArray 96):=x.put (.inr V) _ _;obtain⟨F1,W⟩:=(H.an J).hT;obtain⟨b',c',L,nv,D⟩:=hd_at W P;rw[Y]at L;cases L;exact I k _ J f (aq (az F) _ _) _ nv D
 have C:=ia_88 (b:=b) (p:=0) (n:=m.hands.length) (c:=c) (j:= .i64) (i:=n) dy dy;rw[cV]at C;have q:∀e,ad [] w1 e->ao (hp e g) (0+9)=some (.slice (some ⟨b,0,none⟩) m.hands.length c):=λe x=>by
  have:=(H.an x).hl;rw[Y]at this;exact this
 have nm:∀(e:World) {K:Value->World->Prop},(∀ z,ad [] e z->K (.agg (gD (h.1,h.2.1)).toArray) z)->aa prog 41 [.agg (bB h).toArray] e K:=λe K Q=>(kT h e).mono λv z hv=>by obtain⟨rfl,x⟩:=hv;exact Q z x
 have vA:∀w2,ad [] w1 w2->ad [] w1 w2.drew:=λw2 h=>h.drew;by_cases R:gH o.1=0
 ·have k:¬(gH o.1≠0/\eH m h (gH o.1)=false):=λh=>h.1 R;have Z:((0:Int)!=0)=false:=rfl;have O:ad [] w1 w1.drew:=(ad.refl _ _).drew;rw[R];simp only[zS,qx,ld_88,q _ (ad.refl _ _),C,y w1.drew G,y w1 G,al_96];repeat' (with_reducible apply And.intro)
  all_goals first
   |(refine nm _ ?_
     intro u A;have a:=(O.alloc _).trans A;try simp only[zS,q _ a,C]
     exact l k u a _ (cy _) (A.at (by rw[af,bX rfl]) (by simp)))
   |(refine nm _ ?_
     intro u A;have a:=O.trans A;try simp only[zS,q _ a,C]
     exact l k _ (a.alloc _) _ a.size (by rw[af,bX rfl]))
 ·have Z:(gH o.1 !=0)=true:=bne_iff_ne.2 R;simp only[zS,Z,y w1 G];refine(c_mKnown H h (gH o.1) sm.r sm.o).mono ?_;rintro _ w2 ⟨rfl,k2⟩;cases Q:eH m h (gH o.1)with
  |false=>
   simp only[zS];exact⟨by rw[cf,bX ⟨R,Q⟩],B.trans k2⟩
  |true=>
   have k:¬(gH o.1≠0/\eH m h (gH o.1)=false):=λh=>by rw[Q]at h;cases h.2
   have O:=k2.drew;have X:=k2.at G (by simp);simp only[zS,qx,ld_88,q _ k2,C,y w2.drew X,al_96];repeat' (with_reducible apply And.intro)
   all_goals first
    |(refine nm _ ?_
      intro u A;have a:=(O.alloc _).trans A;try simp only[zS,q _ a,C]
      exact l k u a _ k2.size (A.at (by rw[af,bX rfl]) (by simp)))
    |(refine nm _ ?_
      intro u A;have a:=O.trans A;try simp only[zS,q _ a,C]
      exact l k _ (a.alloc _) _ a.size (by rw[af,bX rfl]))
end Go.Proofs.YtnpflajdbchghaaGreat
