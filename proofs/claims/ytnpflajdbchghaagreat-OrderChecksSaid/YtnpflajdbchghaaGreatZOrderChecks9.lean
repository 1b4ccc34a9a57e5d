/- Parts of the proof of OrderChecks, one behind the other. Conditions: none. -/
import Derived.Test.YtnpflajdbchghaaGreatChecked
import Derived.Eval
import Derived.Laws.Tables
import Derived.Test.YtnpflajdbchghaaGreatZOrderChecks8
set_option linter.unusedSimpArgs false
set_option linter.unusedVariables false
set_option maxHeartbeats 4000000
set_option maxRecDepth 100000
noncomputable section
namespace Go.Proofs.YtnpflajdbchghaaGreat
open Tryz(f127 f38 prog underlying3)
open Go Ev
variable{w:World}{K:Value->World->Prop}{L:World->Prop}
section
variable{t e k j z n:Nat}{a b:Array Value}{w:World}{v:Value}{K:Value->World->Prop}{L:World->Prop}
abbrev FA(t:TypeId)(k j:Nat):Prop:=∀{b o:Nat},ai prog (Instr.fieldAt t (.pointer (some ⟨b,o,none⟩)) k)=some (.pointer (some ⟨b,o+j,none⟩))
theorem fk(z:Nat)(g:Bool)(h:fOff prog t k=some (j,z,g):=by kernel_rfl)(a:z≠0:=by decide):FA t k j:=pr_fieldAt h a
abbrev SZ(t:TypeId)(n:Nat):Prop:=(Tryz.prog.info? t).map (·.size)=some n
abbrev AG(t:TypeId)(b:Bool):Prop:=(Tryz.prog.underlying t).map iX=some b
theorem oc(h:(Tryz.prog.info? t).map (·.size)=some n:=by kernel_rfl):SZ t n:=h
theorem lI{b:Bool}(h:(Tryz.prog.underlying t).map iX=some b:=by kernel_rfl):AG t b:=h
abbrev LD(t:TypeId):Prop:=∀{w:World} {b o:Nat},gi prog t (.pointer (some ⟨b,o,none⟩)) w=an (hp w b) o
theorem o7(h:AG t false):LD t:=ldv_blk h
abbrev LA(t:TypeId)(n:Nat):Prop:=∀{w:World} {b o:Nat},gi prog t (.pointer (some ⟨b,o,none⟩)) w=(ldL (hp w b) o n).map λl=> .agg l.toArray
theorem lak(h:AG t true)(a:SZ t n):LA t n:=ldv_L h a
abbrev SA(t:TypeId)(n:Nat):Prop:=∀{w:World} {L:World->Prop} {b:Nat} {c:Array Value} (_:c.size=n) (_:c.toList.all (·.oneCell')=true) (_:pY (hp w b) n=true) (_:(dL (hp w b)).size=n),ck prog (Instr.storeAt t (bS b) (.agg c)) w L=L (put w b c (dM (hp w b)))
theorem sak(h:SZ t n)(a:0<n:=by decide):SA t n:=λb c d e=>effu_storeW h b c a d e
abbrev SV(t:TypeId):Prop:=∀{w:World} {L:World->Prop} {b o:Nat} {v:Value} (_:v.cells= #[v]) (_:v.oneCell'=true) (_:pY (hp w b) (o+1)=true),ck prog (Instr.storeAt t (.pointer (some ⟨b,o,none⟩)) v) w L=L (put w b ((dL (hp w b)).setIfInBounds o v) (dM (hp w b)))
theorem svk(h:SZ t 1):SV t:=λa b c=>mv h a b c
abbrev AL(t:TypeId)(z:Array Value):Prop:=∀{w:World} {K:Value->World->Prop} {x:Value},cP prog (Instr.alloc t true x) w K=K (bS w.heap.size) (w.alloc (.cells z t))
theorem alk(h:(Tryz.prog.info? t).bind (·.zero)=some (.agg a):=by kernel_rfl):AL t a:=effv_alloc h
abbrev BD(t:TypeId)(a:Array (Nat×Value))(b:Array Value):Prop:=ai prog (Instr.build t a)=some (.agg b)
theorem kr{a:Array (Nat×Value)}(h:Tryz.prog.built t a.toList=some b:=by kernel_rfl):BD t a b:=aU λw=>run_build w t _ _ h
abbrev IA(t:TypeId)(z:Nat):Prop:=∀{b p n c:Nat} {j:IntKind} {i:Int} (_:0<=i) (_:i<n),ai prog (Instr.indexAt t (.slice (some ⟨b,p,none⟩) n c) (.int j i))=some (.pointer (some ⟨b,p+i.toNat*z,none⟩))
theorem iak(h:Tryz.prog.underlying t=some (.slice e))(a:(Tryz.prog.info? e).map (·.size)=some z:=by kernel_rfl):IA t z:=λb c=>by rw[<- eL];exact pr_index h a b c
abbrev LN(t:TypeId):Prop:=∀{A:Option Addr} {n c:Nat},ai prog (Builtin.len_ #[t] 3 #[.slice A n c])=some (bN n)
abbrev IF(e:TypeId)(z:Value)(s b:Nat):Prop:=∃i,Tryz.prog.info? e=some i/\i.zero=some z/\i.size=s/\i.bytes=b
end
@[simp] theorem fq : FA 25 0 0 := fk 1 false
@[simp] theorem jo : FA 25 1 1 := fk 1 false
@[simp] theorem eW : FA 25 2 2 := fk 1 false
@[simp] theorem gj : FA 25 3 3 := fk 1 false
@[simp] theorem fa_25_4 : FA 25 4 4 := fk 1 false
@[simp] theorem fa_25_5 : FA 25 5 5 := fk 1 false
@[simp] theorem bu : FA 32 0 0 := fk 1 false
@[simp] theorem gm : FA 32 1 1 := fk 1 false
@[simp] theorem eX : FA 32 2 2 := fk 1 false
@[simp] theorem hC : FA 32 3 3 := fk 1 false
@[simp] theorem iz : FA 32 4 4 := fk 1 false
@[simp] theorem kR : FA 35 0 0 := fk 1 false
@[simp] theorem iS : FA 35 1 1 := fk 5 true
@[simp] theorem fa_35_2 : FA 35 2 6 := fk 1 false
@[simp] theorem fa_35_3 : FA 35 3 7 := fk 1 false
@[simp] theorem am : FA 37 0 0 := fk 1 false
@[simp] theorem iA : FA 37 1 1 := fk 1 false
@[simp] theorem iB : FA 37 2 2 := fk 1 false
@[simp] theorem bc : FA 37 3 3 := fk 1 false
@[simp] theorem fr : FA 37 4 4 := fk 1 false
@[simp] theorem mh : FA 37 5 5 := fk 1 false
@[simp] theorem jq : FA 39 0 0 := fk 1 false
@[simp] theorem jY : FA 39 1 1 := fk 1 false
@[simp] theorem jr : FA 39 2 2 := fk 6 true
@[simp] theorem fa_39_3 : FA 39 3 8 := fk 1 false
@[simp] theorem kS : FA 39 4 9 := fk 1 false
@[simp] theorem sy : FA 39 5 10 := fk 1 false
@[simp] theorem fa_39_6 : FA 39 6 11 := fk 1 false
@[simp] theorem hH : FA 39 7 12 := fk 8 true
@[simp] theorem fa_58_0 : FA 58 0 0 := fk 1 false
@[simp] theorem oz : FA 58 1 1 := fk 1 false
@[simp] theorem fa_58_2 : FA 58 2 2 := fk 1 false
@[simp] theorem fa_78_0 : FA 78 0 0 := fk 6 true
@[simp] theorem fa_78_1 : FA 78 1 6 := fk 1 false
@[simp] theorem mi : FA 78 2 7 := fk 1 false
@[simp] theorem sB : FA 78 3 8 := fk 1 false
@[simp] theorem fa_78_4 : FA 78 4 9 := fk 1 false
@[simp] theorem sC : FA 78 5 10 := fk 1 false
@[simp] theorem jZ : FA 78 6 11 := fk 1 false
@[simp] theorem fa_78_7 : FA 78 7 12 := fk 1 false
@[simp] theorem sD : FA 78 8 13 := fk 1 false
@[simp] theorem sE : FA 90 0 0 := fk 6 true
@[simp] theorem fa_90_1 : FA 90 1 6 := fk 1 false
@[simp] theorem mj : FA 90 2 7 := fk 1 false
@[simp] theorem fa_90_3 : FA 90 3 8 := fk 1 false
@[simp] theorem fa_90_4 : FA 90 4 9 := fk 1 false
@[simp] theorem fa_96_0 : FA 96 0 0 := fk 1 false
@[simp] theorem fa_96_1 : FA 96 1 1 := fk 1 false
@[simp] theorem fa_99_0 : FA 99 0 0 := fk 2 true
@[simp] theorem fa_99_1 : FA 99 1 2 := fk 1 false
@[simp] theorem fa_99_2 : FA 99 2 3 := fk 1 false
@[simp] theorem ql : FA 99 3 4 := fk 1 false
@[simp] theorem fa_99_4 : FA 99 4 5 := fk 1 false
@[simp] theorem fa_99_5 : FA 99 5 6 := fk 1 false
@[simp] theorem fa_111_0 : FA 111 0 0 := fk 1 false
@[simp] theorem fa_111_1 : FA 111 1 1 := fk 1 false
@[simp] theorem fa_111_2 : FA 111 2 2 := fk 1 false
@[simp] theorem fa_114_0 : FA 114 0 0 := fk 1 false
@[simp] theorem rq : FA 114 1 1 := fk 1 false
@[simp] theorem jK : FA 136 0 0 := fk 1 false
@[simp] theorem rr : FA 136 1 1 := fk 1 false
@[simp] theorem kT : FA 142 0 0 := fk 1 false
@[simp] theorem fa_142_1 : FA 142 1 1 := fk 1 false
@[simp] theorem bJ : FA 153 0 0 := fk 6 true
@[simp] theorem eZ : FA 153 1 6 := fk 1 false
@[simp] theorem ru : FA 153 2 7 := fk 1 false
@[simp] theorem fa_153_3 : FA 153 3 8 := fk 1 false
@[simp] theorem fa_153_4 : FA 153 4 9 := fk 1 false
@[simp] theorem kU : FA 156 0 0 := fk 1 false
@[simp] theorem ry : FA 156 1 1 := fk 1 false
@[simp] theorem fa_156_2 : FA 156 2 2 := fk 1 false
@[simp] theorem ph : FA 156 3 3 := fk 1 false
@[simp] theorem pj : FA 158 0 0 := fk 1 false
@[simp] theorem fa_158_1 : FA 158 1 1 := fk 1 false
@[simp] theorem fa_158_2 : FA 158 2 2 := fk 1 false
@[simp] theorem fa_158_3 : FA 158 3 3 := fk 1 false
@[simp] theorem gM : FA 163 0 0 := fk 1 false
@[simp] theorem jL : FA 163 1 1 := fk 1 false
@[simp] theorem hJ : FA 172 0 0 := fk 1 false
@[simp] theorem fa_172_1 : FA 172 1 1 := fk 1 false
@[simp] theorem fa_172_2 : FA 172 2 2 := fk 1 false
@[simp] theorem jM : FA 172 3 3 := fk 2 true
@[simp] theorem aV : FA 172 4 5 := fk 1 false
@[simp] theorem fV : FA 172 5 6 := fk 6 true
@[simp] theorem fa_172_6 : FA 172 6 12 := fk 5 true
@[simp] theorem jN : FA 172 7 17 := fk 1 false
@[simp] theorem eM : FA 172 8 18 := fk 1 false
@[simp] theorem fa_172_9 : FA 172 9 19 := fk 1 false
@[simp] theorem fa_172_10 : FA 172 10 20 := fk 8 true
@[simp] theorem pn : FA 172 11 28 := fk 1 false
@[simp] theorem fa_172_12 : FA 172 12 29 := fk 1 false
@[simp] theorem fa_172_13 : FA 172 13 30 := fk 1 false
@[simp] theorem fa_172_14 : FA 172 14 31 := fk 1 false
@[simp] theorem po : FA 172 15 32 := fk 1 false
@[simp] theorem fa_172_16 : FA 172 16 33 := fk 1 false
@[simp] theorem fa_172_17 : FA 172 17 34 := fk 1 false
@[simp] theorem fC : FA 182 0 0 := fk 6 true
@[simp] theorem fa_182_1 : FA 182 1 6 := fk 1 false
@[simp] theorem mz : FA 182 2 7 := fk 1 false
@[simp] theorem fa_182_3 : FA 182 3 8 := fk 1 false
@[simp] theorem aS : FA 182 4 9 := fk 1 false
@[simp] theorem mB : FA 182 5 10 := fk 1 false
@[simp] theorem nu : FA 182 6 11 := fk 1 false
@[simp] theorem fa_193_0 : FA 193 0 0 := fk 1 false
@[simp] theorem fa_193_1 : FA 193 1 1 := fk 1 false
@[simp] theorem fa_193_2 : FA 193 2 2 := fk 1 false
@[simp] theorem fa_193_3 : FA 193 3 3 := fk 1 false
@[simp] theorem fa_193_4 : FA 193 4 4 := fk 1 false
@[simp] theorem jO : FA 204 0 0 := fk 1 false
@[simp] theorem fa_204_1 : FA 204 1 1 := fk 1 false
@[simp] theorem fa_209_0 : FA 209 0 0 := fk 1 false
@[simp] theorem fa_209_1 : FA 209 1 1 := fk 1 false
@[simp] theorem jb : FA 215 0 0 := fk 1 false
@[simp] theorem nx : FA 215 1 1 := fk 1 false
@[simp] theorem fa_215_2 : FA 215 2 2 := fk 1 false
@[simp] theorem fa_220_0 : FA 220 0 0 := fk 1 false
@[simp] theorem fa_220_1 : FA 220 1 1 := fk 1 false
@[simp] theorem fa_220_2 : FA 220 2 2 := fk 1 false
@[simp] theorem fa_220_3 : FA 220 3 3 := fk 1 false
@[simp] theorem rA : FA 220 4 4 := fk 1 false
@[simp] theorem fa_224_0 : FA 224 0 0 := fk 1 false
@[simp] theorem fa_224_1 : FA 224 1 1 := fk 1 false
@[simp] theorem fa_224_2 : FA 224 2 2 := fk 1 false
@[simp] theorem fa_226_0 : FA 226 0 0 := fk 1 false
@[simp] theorem fa_226_1 : FA 226 1 1 := fk 1 false
@[simp] theorem fa_226_2 : FA 226 2 2 := fk 1 false
@[simp] theorem fa_226_3 : FA 226 3 3 := fk 1 false
@[simp] theorem rB : FA 226 4 4 := fk 1 false
@[simp] theorem fa_226_5 : FA 226 5 5 := fk 1 false
@[simp] theorem fa_231_0 : FA 231 0 0 := fk 1 false
@[simp] theorem mC : FA 231 1 1 := fk 1 false
@[simp] theorem fa_231_2 : FA 231 2 2 := fk 1 false
@[simp] theorem pq : FA 231 3 3 := fk 1 false
@[simp] theorem fa_233_0 : FA 233 0 0 := fk 1 false
@[simp] theorem fa_233_1 : FA 233 1 1 := fk 1 false
@[simp] theorem fa_233_2 : FA 233 2 2 := fk 1 false
@[simp] theorem fa_233_3 : FA 233 3 3 := fk 1 false
@[simp] theorem fa_233_4 : FA 233 4 4 := fk 1 false
@[simp] theorem ny : FA 233 5 5 := fk 1 false
@[simp] theorem fa_233_6 : FA 233 6 6 := fk 1 false
@[simp] theorem fa_233_7 : FA 233 7 7 := fk 1 false
@[simp] theorem fa_233_8 : FA 233 8 8 := fk 4 true
@[simp] theorem fa_233_9 : FA 233 9 12 := fk 1 false
@[simp] theorem lT : FA 233 10 13 := fk 1 false
@[simp] theorem pr : FA 237 0 0 := fk 1 false
@[simp] theorem fa_237_1 : FA 237 1 1 := fk 1 false
@[simp] theorem fa_237_2 : FA 237 2 2 := fk 1 false
@[simp] theorem fa_237_3 : FA 237 3 3 := fk 1 false
@[simp] theorem hM : FA 237 4 4 := fk 1 false
@[simp] theorem fa_237_5 : FA 237 5 5 := fk 1 false
@[simp] theorem fa_237_6 : FA 237 6 6 := fk 1 false
@[simp] theorem rC : FA 237 7 7 := fk 1 false
@[simp] theorem kV : FA 237 8 8 := fk 1 false
@[simp] theorem fa_237_9 : FA 237 9 9 := fk 1 false
@[simp] theorem fa_237_10 : FA 237 10 10 := fk 1 false
@[simp] theorem sG : FA 237 11 11 := fk 1 false
@[simp] theorem fa_237_12 : FA 237 12 12 := fk 1 false
@[simp] theorem sH : FA 237 13 13 := fk 1 false
@[simp] theorem fa_237_14 : FA 237 14 14 := fk 5 true
@[simp] theorem fa_237_15 : FA 237 15 19 := fk 1 false
@[simp] theorem pw : FA 237 16 20 := fk 1 false
@[simp] theorem fa_243_0 : FA 243 0 0 := fk 1 false
@[simp] theorem fa_243_1 : FA 243 1 1 := fk 1 false
@[simp] theorem fa_243_2 : FA 243 2 2 := fk 1 false
@[simp] theorem fa_243_3 : FA 243 3 3 := fk 1 false
@[simp] theorem fa_243_4 : FA 243 4 4 := fk 1 false
@[simp] theorem fa_243_5 : FA 243 5 5 := fk 1 false
@[simp] theorem fa_243_6 : FA 243 6 6 := fk 1 false
@[simp] theorem fa_243_7 : FA 243 7 7 := fk 1 false
@[simp] theorem fa_243_8 : FA 243 8 8 := fk 1 false
@[simp] theorem fa_243_9 : FA 243 9 9 := fk 1 false
@[simp] theorem fa_243_10 : FA 243 10 10 := fk 1 false
@[simp] theorem sI : FA 243 11 11 := fk 1 false
@[simp] theorem fa_246_0 : FA 246 0 0 := fk 1 false
@[simp] theorem rD : FA 246 1 1 := fk 1 false
@[simp] theorem fa_246_2 : FA 246 2 2 := fk 1 false
@[simp] theorem fa_246_3 : FA 246 3 3 := fk 1 false
@[simp] theorem fa_246_4 : FA 246 4 4 := fk 1 false
@[simp] theorem px : FA 246 5 5 := fk 1 false
@[simp] theorem fa_250_0 : FA 250 0 0 := fk 1 false
@[simp] theorem fa_250_1 : FA 250 1 1 := fk 1 false
@[simp] theorem fa_250_2 : FA 250 2 2 := fk 1 false
@[simp] theorem mD : FA 250 3 3 := fk 1 false
@[simp] theorem jc : FA 250 4 4 := fk 1 false
@[simp] theorem mE : FA 250 5 5 := fk 1 false
@[simp] theorem mF : FA 250 6 6 := fk 1 false
@[simp] theorem fa_250_7 : FA 250 7 7 := fk 1 false
@[simp] theorem fa_256_0 : FA 256 0 0 := fk 1 false
@[simp] theorem fa_256_1 : FA 256 1 1 := fk 1 false
@[simp] theorem fa_258_0 : FA 258 0 0 := fk 1 false
@[simp] theorem rE : FA 258 1 1 := fk 1 false
@[simp] theorem nz : FA 262 0 0 := fk 3 true
@[simp] theorem iJ : FA 262 1 3 := fk 3 true
@[simp] theorem fa_262_2 : FA 262 2 6 := fk 1 false
@[simp] theorem fa_268_0 : FA 268 0 0 := fk 1 false
@[simp] theorem fa_268_1 : FA 268 1 1 := fk 1 false
@[simp] theorem fa_268_2 : FA 268 2 2 := fk 1 false
@[simp] theorem fa_268_3 : FA 268 3 3 := fk 1 false
@[simp] theorem nA : FA 268 4 4 := fk 1 false
@[simp] theorem fa_270_0 : FA 270 0 0 := fk 1 false
@[simp] theorem fa_270_1 : FA 270 1 1 := fk 1 false
@[simp] theorem fa_270_2 : FA 270 2 2 := fk 1 false
@[simp] theorem fa_270_3 : FA 270 3 3 := fk 1 false
@[simp] theorem fa_270_4 : FA 270 4 4 := fk 1 false
@[simp] theorem rF : FA 270 5 5 := fk 1 false
@[simp] theorem jP : FA 270 6 6 := fk 1 false
@[simp] theorem fa_279_0 : FA 279 0 0 := fk 1 false
@[simp] theorem fa_279_1 : FA 279 1 1 := fk 1 false
@[simp] theorem fa_279_2 : FA 279 2 2 := fk 1 false
@[simp] theorem fa_279_3 : FA 279 3 3 := fk 1 false
@[simp] theorem fa_279_4 : FA 279 4 4 := fk 1 false
@[simp] theorem jQ : FA 279 5 5 := fk 1 false
@[simp] theorem fa_282_0 : FA 282 0 0 := fk 1 false
@[simp] theorem mG : FA 282 2 2 := fk 1 false
@[simp] theorem fa_287_0 : FA 287 0 0 := fk 1 false
@[simp] theorem fa_287_1 : FA 287 1 1 := fk 1 false
@[simp] theorem fa_287_2 : FA 287 2 2 := fk 1 false
@[simp] theorem py : FA 287 3 3 := fk 1 false
@[simp] theorem fa_287_4 : FA 287 4 4 := fk 1 false
@[simp] theorem fa_287_5 : FA 287 5 5 := fk 1 false
@[simp] theorem fa_287_6 : FA 287 6 6 := fk 1 false
@[simp] theorem fa_287_7 : FA 287 7 7 := fk 1 false
@[simp] theorem fa_287_8 : FA 287 8 8 := fk 1 false
@[simp] theorem pz : FA 287 9 9 := fk 1 false
@[simp] theorem fa_290_0 : FA 290 0 0 := fk 1 false
@[simp] theorem rG : FA 290 1 1 := fk 1 false
@[simp] theorem fa_290_2 : FA 290 2 2 := fk 1 false
@[simp] theorem fa_293_0 : FA 293 0 0 := fk 1 false
@[simp] theorem fa_293_1 : FA 293 1 1 := fk 1 false
@[simp] theorem rH : FA 293 2 2 := fk 1 false
@[simp] theorem fa_293_3 : FA 293 3 3 := fk 1 false
@[simp] theorem mH : FA 293 4 4 := fk 1 false
@[simp] theorem fi_193_1 {x0 x1 x2 x3 x4 : Value} : ai prog (Instr.field 193 (.agg #[x0, x1, x2, x3, x4]) 1) = some x1 := pr_field1 (off := 1) (z := 1) dE rfl
theorem aE:SZ 3 1:=oc
theorem ag_3:AG 3 false:=lI
@[simp] theorem ag : LD 3 := o7 ag_3
theorem m8:SZ 4 1:=oc
theorem ag_4:AG 4 false:=lI
@[simp] theorem az : LD 4 := o7 ag_4
theorem ag_9:AG 9 false:=lI
@[simp] theorem ld_9 : LD 9 := o7 ag_9
theorem sz_22:SZ 22 1:=oc
theorem ag_22:AG 22 false:=lI
@[simp] theorem aK : LD 22 := o7 ag_22
theorem sz_25:SZ 25 6:=oc
theorem ag_25:AG 25 true:=lI
theorem sz_26:SZ 26 1:=oc
theorem ag_26:AG 26 false:=lI
@[simp] theorem qI : LD 26 := o7 ag_26
theorem sz_30:SZ 30 1:=oc
theorem ag_30:AG 30 false:=lI
@[simp] theorem jd : LD 30 := o7 ag_30
theorem lP:SZ 32 5:=oc
theorem qJ:AG 32 true:=lI
theorem ld_32:LA 32 5:=lak qJ lP
theorem sz_33:SZ 33 1:=oc
theorem ag_33:AG 33 false:=lI
@[simp] theorem br : LD 33 := o7 ag_33
theorem sz_35:SZ 35 8:=oc
theorem ag_35:AG 35 true:=lI
theorem ld_35:LA 35 8:=lak ag_35 sz_35
theorem nC:SZ 37 6:=oc
theorem td:AG 37 true:=lI
theorem ld_37:LA 37 6:=lak td nC
theorem sz_39:SZ 39 20:=oc
theorem ag_39:AG 39 true:=lI
theorem ld_39:LA 39 20:=lak ag_39 sz_39
theorem sz_58:SZ 58 3:=oc
theorem ag_58:AG 58 true:=lI
theorem ld_58:LA 58 3:=lak ag_58 sz_58
theorem sz_70:SZ 70 1:=oc
theorem ag_70:AG 70 false:=lI
@[simp] theorem ld_70 : LD 70 := o7 ag_70
theorem ag_74:AG 74 false:=lI
@[simp] theorem fW : LD 74 := o7 ag_74
theorem sz_75:SZ 75 1:=oc
theorem ag_75:AG 75 false:=lI
@[simp] theorem ld_75 : LD 75 := o7 ag_75
theorem sz_76:SZ 76 1:=oc
theorem ag_76:AG 76 false:=lI
@[simp] theorem ld_76 : LD 76 := o7 ag_76
theorem ag_86:AG 86 false:=lI
@[simp] theorem tf : LD 86 := o7 ag_86
theorem sz_87:SZ 87 1:=oc
theorem ag_87:AG 87 false:=lI
@[simp] theorem ld_87 : LD 87 := o7 ag_87
theorem ag_88:AG 88 false:=lI
@[simp] theorem ld_88 : LD 88 := o7 ag_88
theorem sz_96:SZ 96 2:=oc
theorem ag_96:AG 96 true:=lI
theorem ld_96:LA 96 2:=lak ag_96 sz_96
theorem sz_97:SZ 97 1:=oc
theorem ag_97:AG 97 false:=lI
@[simp] theorem ld_97 : LD 97 := o7 ag_97
theorem sz_99:SZ 99 7:=oc
theorem ag_99:AG 99 true:=lI
theorem ld_99:LA 99 7:=lak ag_99 sz_99
theorem nD:SZ 111 3:=oc
theorem ag_111:AG 111 true:=lI
theorem sz_116:SZ 116 1:=oc
theorem ag_116:AG 116 false:=lI
@[simp] theorem nE : LD 116 := o7 ag_116
theorem sz_118:SZ 118 1:=oc
theorem ag_118:AG 118 false:=lI
@[simp] theorem rI : LD 118 := o7 ag_118
theorem sz_134:SZ 134 1:=oc
theorem ag_134:AG 134 false:=lI
@[simp] theorem ld_134 : LD 134 := o7 ag_134
theorem ag_139:AG 139 false:=lI
@[simp] theorem jC : LD 139 := o7 ag_139
theorem sz_142:SZ 142 2:=oc
theorem ag_142:AG 142 true:=lI
theorem ld_142:LA 142 2:=lak ag_142 sz_142
theorem ag_147:AG 147 false:=lI
@[simp] theorem bx : LD 147 := o7 ag_147
theorem sz_150:SZ 150 1:=oc
theorem ag_150:AG 150 false:=lI
@[simp] theorem lU : LD 150 := o7 ag_150
theorem sz_151:SZ 151 1:=oc
theorem ag_151:AG 151 false:=lI
@[simp] theorem qm : LD 151 := o7 ag_151
theorem ag_159:AG 159 false:=lI
@[simp] theorem jD : LD 159 := o7 ag_159
theorem sz_161:SZ 161 1:=oc
theorem ag_161:AG 161 false:=lI
@[simp] theorem kW : LD 161 := o7 ag_161
theorem sz_164:SZ 164 1:=oc
theorem ag_164:AG 164 false:=lI
@[simp] theorem ld_164 : LD 164 := o7 ag_164
theorem sz_165:SZ 165 1:=oc
theorem ag_165:AG 165 false:=lI
@[simp] theorem ld_165 : LD 165 := o7 ag_165
theorem sz_166:SZ 166 1:=oc
theorem ag_166:AG 166 false:=lI
@[simp] theorem ld_166 : LD 166 := o7 ag_166
theorem sz_167:SZ 167 1:=oc
theorem ag_167:AG 167 false:=lI
@[simp] theorem ld_167 : LD 167 := o7 ag_167
theorem sz_168:SZ 168 1:=oc
theorem ag_168:AG 168 false:=lI
@[simp] theorem ld_168 : LD 168 := o7 ag_168
theorem sz_169:SZ 169 1:=oc
theorem ag_169:AG 169 false:=lI
@[simp] theorem ld_169 : LD 169 := o7 ag_169
theorem sz_170:SZ 170 1:=oc
theorem ag_170:AG 170 false:=lI
@[simp] theorem ld_170 : LD 170 := o7 ag_170
theorem sz_179:SZ 179 1:=oc
theorem ag_179:AG 179 false:=lI
@[simp] theorem bz : LD 179 := o7 ag_179
theorem ag_180:AG 180 false:=lI
@[simp] theorem tC : LD 180 := o7 ag_180
theorem sz_193:SZ 193 5:=oc
theorem ag_193:AG 193 true:=lI
theorem ld_193:LA 193 5:=lak ag_193 sz_193
theorem sz_201:SZ 201 4:=oc
theorem ag_201:AG 201 true:=lI
theorem ld_201:LA 201 4:=lak ag_201 sz_201
theorem sz_209:SZ 209 2:=oc
theorem ag_209:AG 209 true:=lI
theorem ag_210:AG 210 false:=lI
@[simp] theorem tD : LD 210 := o7 ag_210
theorem ag_212:AG 212 false:=lI
@[simp] theorem ld_212 : LD 212 := o7 ag_212
theorem sz_229:SZ 229 1:=oc
theorem ag_229:AG 229 false:=lI
@[simp] theorem ld_229 : LD 229 := o7 ag_229
theorem sz_231:SZ 231 4:=oc
theorem ag_231:AG 231 true:=lI
theorem sz_234:SZ 234 1:=oc
theorem ag_234:AG 234 false:=lI
@[simp] theorem ld_234 : LD 234 := o7 ag_234
theorem sz_235:SZ 235 1:=oc
theorem ag_235:AG 235 false:=lI
@[simp] theorem ld_235 : LD 235 := o7 ag_235
theorem ag_239:AG 239 false:=lI
@[simp] theorem ld_239 : LD 239 := o7 ag_239
theorem sz_240:SZ 240 1:=oc
theorem ag_240:AG 240 false:=lI
@[simp] theorem ld_240 : LD 240 := o7 ag_240
theorem sz_241:SZ 241 1:=oc
theorem ag_241:AG 241 false:=lI
@[simp] theorem ld_241 : LD 241 := o7 ag_241
theorem ag_244:AG 244 false:=lI
@[simp] theorem ld_244 : LD 244 := o7 ag_244
theorem sz_250:SZ 250 8:=oc
theorem ag_250:AG 250 true:=lI
theorem ld_250:LA 250 8:=lak ag_250 sz_250
theorem sz_256:SZ 256 2:=oc
theorem ag_256:AG 256 true:=lI
theorem ld_256:LA 256 2:=lak ag_256 sz_256
theorem gB:SV 3:=svk aE
theorem st_4:SV 4:=svk m8
theorem st_22:SV 22:=svk sz_22
theorem st_25:SA 25 6:=sak sz_25
theorem st_32:SA 32 5:=sak lP
theorem nG:SV 33:=svk sz_33
theorem st_35:SA 35 8:=sak sz_35
theorem st_37:SA 37 6:=sak nC
theorem st_39:SA 39 20:=sak sz_39
theorem st_58:SA 58 3:=sak sz_58
theorem st_76:SV 76:=svk sz_76
theorem st_87:SV 87:=svk sz_87
theorem st_96:SA 96 2:=sak sz_96
theorem st_97:SV 97:=svk sz_97
theorem st_99:SA 99 7:=sak sz_99
theorem st_116:SV 116:=svk sz_116
theorem st_134:SV 134:=svk sz_134
theorem st_142:SA 142 2:=sak sz_142
theorem st_161:SV 161:=svk sz_161
theorem st_179:SV 179:=svk sz_179
theorem st_193:SA 193 5:=sak sz_193
theorem st_201:SA 201 4:=sak sz_201
theorem st_209:SA 209 2:=sak sz_209
theorem st_229:SV 229:=svk sz_229
theorem st_231:SA 231 4:=sak sz_231
theorem st_250:SA 250 8:=sak sz_250
@[simp] theorem al_25 : AL 25 #[bN 0, bN 0, bN 0, bN 0, bN 0, bN 0] := alk
@[simp] theorem oB : AL 32 #[bN 0, bN 0, bN 0, bN 0, bN 0] := alk
@[simp] theorem al_35 : AL 35 #[bN 0, bN 0, bN 0, bN 0, bN 0, bN 0, bN 0, bR 0] := alk
@[simp] theorem al_37 : AL 37 #[bN 0, bN 0, bN 0, bN 0, bR 0, bR 0] := alk
@[simp] theorem qK : AL 39 #[bN 0, bN 0, bN 0, bN 0, bN 0, bN 0, bR 0, bR 0, bN 0, bN 0, bN 0, bN 0, bN 0, bN 0, bN 0, bN 0, bN 0, bN 0, bN 0, bR 0] := alk
@[simp] theorem al_58 : AL 58 #[bN 0, bN 0, .bool false] := alk
@[simp] theorem al_96 : AL 96 #[bN 0, bN 0] := alk
@[simp] theorem al_99 : AL 99 #[bN 0, bN 0, bN 0, bN 0, .slice none 0 0, .slice none 0 0, .slice none 0 0] := alk
@[simp] theorem al_142 : AL 142 #[bN 0, bN 0] := alk
@[simp] theorem al_193 : AL 193 #[.string { data := #[] }, bN 0, .bool false, .bool false, .bool false] := alk
@[simp] theorem al_201 : AL 201 #[bN 0, bN 0, bN 0, bN 0] := alk
@[simp] theorem al_209 : AL 209 #[bN 0, bN 0] := alk
@[simp] theorem tE : AL 231 #[bN 0, bN 0, bN 0, bN 0] := alk
@[simp] theorem al_250 : AL 250 #[bN 0, bN 0, bN 0, bN 0, .bool false, .slice none 0 0, .slice none 0 0, .slice none 0 0] := alk
@[simp] theorem bd_25_0_1_2_3_4_5 {x0 : Int} {x1 : Int} {x2 : Int} {x3 : Int} {x4 : Int} {x5 : Int} : BD 25 #[(0, (bN x0)), (1, (bN x1)), (2, (bN x2)), (3, (bN x3)), (4, (bN x4)), (5, (bN x5))] #[(bN x0), (bN x1), (bN x2), (bN x3), (bN x4), (bN x5)] := kr
@[simp] theorem bd_25_0_1_2_3_5 {x0 : Int} {x1 : Int} {x2 : Int} {x3 : Int} {x5 : Int} : BD 25 #[(0, (bN x0)), (1, (bN x1)), (2, (bN x2)), (3, (bN x3)), (5, (bN x5))] #[(bN x0), (bN x1), (bN x2), (bN x3), (bN 0), (bN x5)] := kr
@[simp] theorem bd_32_0_1 {x0 : Int} {x1 : Int} : BD 32 #[(0, (bN x0)), (1, (bN x1))] #[(bN x0), (bN x1), (bN 0), (bN 0), (bN 0)] := kr
@[simp] theorem bd_32_0_1_2_3_4 {x0 : Int} {x1 : Int} {x2 : Int} {x3 : Int} {x4 : Int} : BD 32 #[(0, (bN x0)), (1, (bN x1)), (2, (bN x2)), (3, (bN x3)), (4, (bN x4))] #[(bN x0), (bN x1), (bN x2), (bN x3), (bN x4)] := kr
@[simp] theorem th {x0 : Int} {x1 : Int} {x2 : Int} {x4 : Int} : BD 32 #[(0, (bN x0)), (1, (bN x1)), (2, (bN x2)), (4, (bN x4))] #[(bN x0), (bN x1), (bN x2), (bN 0), (bN x4)] := kr
@[simp] theorem bd_35_  : BD 35 #[] #[(bN 0), (bN 0), (bN 0), (bN 0), (bN 0), (bN 0), (bN 0), (bR 0)] := kr
@[simp] theorem bd_35_0 {x0 : Int} : BD 35 #[(0, (bN x0))] #[(bN x0), (bN 0), (bN 0), (bN 0), (bN 0), (bN 0), (bN 0), (bR 0)] := kr
@[simp] theorem bd_35_0_1 {x0 : Int} {a b c d e : Value} : BD 35 #[(0, (bN x0)), (1, (.agg #[a, b, c, d, e]))] #[(bN x0), a, b, c, d, e, (bN 0), (bR 0)] := kr
@[simp] theorem bd_35_0_2 {x0 : Int} {x2 : Int} : BD 35 #[(0, (bN x0)), (2, (bN x2))] #[(bN x0), (bN 0), (bN 0), (bN 0), (bN 0), (bN 0), (bN x2), (bR 0)] := kr
@[simp] theorem bd_35_1 {a b c d e : Value} : BD 35 #[(1, (.agg #[a, b, c, d, e]))] #[(bN 0), a, b, c, d, e, (bN 0), (bR 0)] := kr
@[simp] theorem bd_35_2 {x2 : Int} : BD 35 #[(2, (bN x2))] #[(bN 0), (bN 0), (bN 0), (bN 0), (bN 0), (bN 0), (bN x2), (bR 0)] := kr
@[simp] theorem bd_35_3 {x3 : Int} : BD 35 #[(3, (bR x3))] #[(bN 0), (bN 0), (bN 0), (bN 0), (bN 0), (bN 0), (bN 0), (bR x3)] := kr
@[simp] theorem bd_37_0 {x0 : Int} : BD 37 #[(0, (bN x0))] #[(bN x0), (bN 0), (bN 0), (bN 0), (bR 0), (bR 0)] := kr
@[simp] theorem bd_37_1_2 {x1 : Int} {x2 : Int} : BD 37 #[(1, (bN x1)), (2, (bN x2))] #[(bN 0), (bN x1), (bN x2), (bN 0), (bR 0), (bR 0)] := kr
@[simp] theorem s4 {x0 : Int} {x1 : Int} {a b c d e f : Value} {x3 : Int} {x4 : Int} {x5 : Int} {x6 : Int} : BD 39 #[(0, (bN x0)), (1, (bN x1)), (2, (.agg #[a, b, c, d, e, f])), (3, (bN x3)), (4, (bN x4)), (5, (bN x5)), (6, (bN x6))] #[(bN x0), (bN x1), a, b, c, d, e, f, (bN x3), (bN x4), (bN x5), (bN x6), (bN 0), (bN 0), (bN 0), (bN 0), (bN 0), (bN 0), (bN 0), (bR 0)] := kr
@[simp] theorem bd_39_2_4_5_6 {a b c d e f : Value} {x4 : Int} {x5 : Int} {x6 : Int} : BD 39 #[(2, (.agg #[a, b, c, d, e, f])), (4, (bN x4)), (5, (bN x5)), (6, (bN x6))] #[(bN 0), (bN 0), a, b, c, d, e, f, (bN 0), (bN x4), (bN x5), (bN x6), (bN 0), (bN 0), (bN 0), (bN 0), (bN 0), (bN 0), (bN 0), (bR 0)] := kr
@[simp] theorem bd_58_0_1 {x0 : Int} {x1 : Int} : BD 58 #[(0, (bN x0)), (1, (bN x1))] #[(bN x0), (bN x1), (.bool false)] := kr
@[simp] theorem bd_58_0_1_2 {x0 : Int} {x1 : Int} {x2 : Bool} : BD 58 #[(0, (bN x0)), (1, (bN x1)), (2, (.bool x2))] #[(bN x0), (bN x1), (.bool x2)] := kr
@[simp] theorem bd_78_0_1 {a b c d e f : Value} {x1 : Option Addr} : BD 78 #[(0, (.agg #[a, b, c, d, e, f])), (1, (.pointer x1))] #[a, b, c, d, e, f, (.pointer x1), (.slice none 0 0), (.slice none 0 0), (.slice none 0 0), (.slice none 0 0), (.slice none 0 0), (.slice none 0 0), (bN 0)] := kr
@[simp] theorem bd_90_0_2_4 {a b c d e f : Value} {x2 : Option Addr} {g i : Nat} {x4 : Option Addr} {j k : Nat} : BD 90 #[(0, (.agg #[a, b, c, d, e, f])), (2, (.slice x2 g i)), (4, (.slice x4 j k))] #[a, b, c, d, e, f, (.bool false), (.slice x2 g i), (.slice none 0 0), (.slice x4 j k)] := kr
@[simp] theorem bd_96_0_1 {x0 : Int} {x1 : Int} : BD 96 #[(0, (bN x0)), (1, (bN x1))] #[(bN x0), (bN x1)] := kr
@[simp] theorem bd_99_0_1 {a b : Value} {x1 : Int} : BD 99 #[(0, (.agg #[a, b])), (1, (bN x1))] #[a, b, (bN x1), (bN 0), (.slice none 0 0), (.slice none 0 0), (.slice none 0 0)] := kr
@[simp] theorem bd_111_0_1_2 {x0 : Int} {x1 : Int} {x2 : Bool} : BD 111 #[(0, (bN x0)), (1, (bN x1)), (2, (.bool x2))] #[(bN x0), (bN x1), (.bool x2)] := kr
@[simp] theorem bd_114_0 {x0 : Option Addr} {a b : Nat} : BD 114 #[(0, (.slice x0 a b))] #[(.slice x0 a b), (bN 0)] := kr
@[simp] theorem bd_142_0_1 {x0 : Int} {x1 : Int} : BD 142 #[(0, (bN x0)), (1, (bN x1))] #[(bN x0), (bN x1)] := kr
@[simp] theorem bd_153_0_1 {a b c d e f : Value} {x1 : Option Addr} : BD 153 #[(0, (.agg #[a, b, c, d, e, f])), (1, (.pointer x1))] #[a, b, c, d, e, f, (.pointer x1), (.pointer none), (.pointer none), (.pointer none)] := kr
@[simp] theorem rJ {x0 : Option Addr} {x1 : Int} {x2 : Int} {x3 : Int} : BD 156 #[(0, (.pointer x0)), (1, (bN x1)), (2, (bN x2)), (3, (bN x3))] #[(.pointer x0), (bN x1), (bN x2), (bN x3)] := kr
@[simp] theorem bd_158_0_1_2_3 {x0 : Option Addr} {x1 : Int} {x2 : Int} {x3 : Int} : BD 158 #[(0, (.pointer x0)), (1, (bN x1)), (2, (bN x2)), (3, (bN x3))] #[(.pointer x0), (bN x1), (bN x2), (bN x3)] := kr
@[simp] theorem bd_172_0_1_2 {x0 : Option Addr} {x1 : Int} {x2 : Option Addr} : BD 172 #[(0, (.pointer x0)), (1, (bN x1)), (2, (.pointer x2))] #[(.pointer x0), (bN x1), (.pointer x2), (bN 0), (.slice none 0 0), (.bool false), (bN 0), (bN 0), (bN 0), (bN 0), (bR 0), (bR 0), (bN 0), (bN 0), (bN 0), (bN 0), (bN 0), (bN 0), (bN 0), (bN 0), (bN 0), (bN 0), (bN 0), (bN 0), (bN 0), (bN 0), (bN 0), (bR 0), (.pointer none), (.pointer none), (.pointer none), (.pointer none), (.pointer none), (.pointer none), (.pointer none)] := kr
@[simp] theorem tF {a b c d e f : Value} {x1 : Bool} {x2 : Option Addr} {g i : Nat} {x3 : Option Addr} {j k : Nat} {x5 : Option Addr} {l m : Nat} {x6 : Option Addr} {n o : Nat} : BD 182 #[(0, (.agg #[a, b, c, d, e, f])), (1, (.bool x1)), (2, (.slice x2 g i)), (3, (.slice x3 j k)), (5, (.slice x5 l m)), (6, (.slice x6 n o))] #[a, b, c, d, e, f, (.bool x1), (.slice x2 g i), (.slice x3 j k), (.slice none 0 0), (.slice x5 l m), (.slice x6 n o)] := kr
@[simp] theorem bd_193_  : BD 193 #[] #[(.string { data := #[] }), (bN 0), (.bool false), (.bool false), (.bool false)] := kr
@[simp] theorem bd_193_0 {x0 : ByteArray} : BD 193 #[(0, (.string x0))] #[(.string x0), (bN 0), (.bool false), (.bool false), (.bool false)] := kr
@[simp] theorem bd_193_0_1 {x0 : ByteArray} {x1 : Int} : BD 193 #[(0, (.string x0)), (1, (bN x1))] #[(.string x0), (bN x1), (.bool false), (.bool false), (.bool false)] := kr
@[simp] theorem bd_193_0_1_2 {x0 : ByteArray} {x1 : Int} {x2 : Bool} : BD 193 #[(0, (.string x0)), (1, (bN x1)), (2, (.bool x2))] #[(.string x0), (bN x1), (.bool x2), (.bool false), (.bool false)] := kr
@[simp] theorem bd_193_0_1_2_3 {x0 : ByteArray} {x1 : Int} {x2 : Bool} {x3 : Bool} : BD 193 #[(0, (.string x0)), (1, (bN x1)), (2, (.bool x2)), (3, (.bool x3))] #[(.string x0), (bN x1), (.bool x2), (.bool x3), (.bool false)] := kr
@[simp] theorem bd_193_0_1_2_3_4 {x0 : ByteArray} {x1 : Int} {x2 : Bool} {x3 : Bool} {x4 : Bool} : BD 193 #[(0, (.string x0)), (1, (bN x1)), (2, (.bool x2)), (3, (.bool x3)), (4, (.bool x4))] #[(.string x0), (bN x1), (.bool x2), (.bool x3), (.bool x4)] := kr
@[simp] theorem bd_193_0_2 {x0 : ByteArray} {x2 : Bool} : BD 193 #[(0, (.string x0)), (2, (.bool x2))] #[(.string x0), (bN 0), (.bool x2), (.bool false), (.bool false)] := kr
@[simp] theorem bd_201_0_1_2_3 {x0 : Int} {x1 : Int} {x2 : Int} {x3 : Int} : BD 201 #[(0, (bN x0)), (1, (bN x1)), (2, (bN x2)), (3, (bN x3))] #[(bN x0), (bN x1), (bN x2), (bN x3)] := kr
@[simp] theorem bd_204_0 {x0 : Option Addr} {a b : Nat} : BD 204 #[(0, (.slice x0 a b))] #[(.slice x0 a b), (bN 0)] := kr
@[simp] theorem bd_209_0 {x0 : Int} : BD 209 #[(0, (bN x0))] #[(bN x0), (bN 0)] := kr
@[simp] theorem bd_209_0_1 {x0 : Int} {x1 : Int} : BD 209 #[(0, (bN x0)), (1, (bN x1))] #[(bN x0), (bN x1)] := kr
@[simp] theorem bd_215_0_1_2 {x0 : Option Addr} {x1 : Option Addr} {x2 : Option Addr} : BD 215 #[(0, (.pointer x0)), (1, (.pointer x1)), (2, (.pointer x2))] #[(.pointer x0), (.pointer x1), (.pointer x2)] := kr
@[simp] theorem bd_220_0_1 {x0 : Option Addr} {x1 : Int} : BD 220 #[(0, (.pointer x0)), (1, (bN x1))] #[(.pointer x0), (bN x1), (bN 0), (bN 0), (.bool false)] := kr
@[simp] theorem bd_224_0_1 {x0 : Option Addr} {x1 : Int} : BD 224 #[(0, (.pointer x0)), (1, (bN x1))] #[(.pointer x0), (bN x1), (.bool false)] := kr
@[simp] theorem bd_226_0_1_2 {x0 : Option Addr} {x1 : Int} {x2 : Int} : BD 226 #[(0, (.pointer x0)), (1, (bN x1)), (2, (bN x2))] #[(.pointer x0), (bN x1), (bN x2), (bN 0), (bN 0), (.bool false)] := kr
@[simp] theorem bd_231_0 {x0 : Int} : BD 231 #[(0, (bN x0))] #[(bN x0), (bN 0), (bN 0), (bN 0)] := kr
@[simp] theorem bd_231_0_1_2 {x0 : Int} {x1 : Int} {x2 : Int} : BD 231 #[(0, (bN x0)), (1, (bN x1)), (2, (bN x2))] #[(bN x0), (bN x1), (bN x2), (bN 0)] := kr
@[simp] theorem bd_231_0_1_2_3 {x0 : Int} {x1 : Int} {x2 : Int} {x3 : Int} : BD 231 #[(0, (bN x0)), (1, (bN x1)), (2, (bN x2)), (3, (bN x3))] #[(bN x0), (bN x1), (bN x2), (bN x3)] := kr
@[simp] theorem bd_233_0_1_7 {x0 : Option Addr} {x1 : Int} {x7 : Option Addr} : BD 233 #[(0, (.pointer x0)), (1, (bN x1)), (7, (.pointer x7))] #[(.pointer x0), (bN x1), (bN 0), (bN 0), (bN 0), (bN 0), (bN 0), (.pointer x7), (bN 0), (bN 0), (bN 0), (bN 0), (bN 0), (.bool false)] := kr
@[simp] theorem bd_237_0_1_2_3_8 {x0 : Option Addr} {x1 : Int} {x2 : Int} {x3 : Int} {x8 : Int} : BD 237 #[(0, (.pointer x0)), (1, (bN x1)), (2, (bN x2)), (3, (bN x3)), (8, (bN x8))] #[(.pointer x0), (bN x1), (bN x2), (bN x3), (bN 0), (bN 0), (bN 0), (bN 0), (bN x8), (bN 0), (bR 0), (.pointer none), (.pointer none), (bN 0), (bN 0), (bN 0), (bN 0), (bN 0), (bN 0), (.bool false), (.bool false)] := kr
@[simp] theorem bd_243_0_6 {x0 : Option Addr} {x6 : Option Addr} : BD 243 #[(0, (.pointer x0)), (6, (.pointer x6))] #[(.pointer x0), (bN 0), (bN 0), (bN 0), (bN 0), (bN 0), (.pointer x6), (.pointer none), (.pointer none), (.pointer none), (bN 0), (.bool false)] := kr
@[simp] theorem bd_246_0_2 {x0 : Option Addr} {x2 : Option Addr} : BD 246 #[(0, (.pointer x0)), (2, (.pointer x2))] #[(.pointer x0), (bN 0), (.pointer x2), (.pointer none), (.bool false), (.bool false)] := kr
@[simp] theorem bd_250_0_1_2_4 {x0 : Int} {x1 : Int} {x2 : Int} {x4 : Bool} : BD 250 #[(0, (bN x0)), (1, (bN x1)), (2, (bN x2)), (4, (.bool x4))] #[(bN x0), (bN x1), (bN x2), (bN 0), (.bool x4), (.slice none 0 0), (.slice none 0 0), (.slice none 0 0)] := kr
@[simp] theorem tG {x0 : Int} {x1 : Int} : BD 256 #[(0, (bN x0)), (1, (bN x1))] #[(bN x0), (bN x1)] := kr
@[simp] theorem bd_258_0 {x0 : Int} : BD 258 #[(0, (bN x0))] #[(bN x0), (.slice none 0 0)] := kr
@[simp] theorem bd_262_2 {x2 : Int} : BD 262 #[(2, (bN x2))] #[(bN 0), (bN 0), (bN 0), (.slice none 0 0), (.slice none 0 0), (.slice none 0 0), (bN x2)] := kr
@[simp] theorem bd_268_0 {x0 : Option Addr} : BD 268 #[(0, (.pointer x0))] #[(.pointer x0), (bN 0), (bR 0), (.bool false), (.bool false)] := kr
@[simp] theorem bd_270_0_1 {x0 : Option Addr} {x1 : Int} : BD 270 #[(0, (.pointer x0)), (1, (bN x1))] #[(.pointer x0), (bN x1), (bN 0), (bN 0), (bR 0), (.slice none 0 0), (.bool false)] := kr
@[simp] theorem bd_279_0_2_3 {x0 : Option Addr} {x2 : Int} {x3 : Int} : BD 279 #[(0, (.pointer x0)), (2, (bN x2)), (3, (bN x3))] #[(.pointer x0), (bN 0), (bN x2), (bN x3), (.pointer none), (.bool false)] := kr
@[simp] theorem bd_282_0_1_2 {x0 : Option Addr} {x1 : Option Addr} {a b : Nat} {x2 : Bool} : BD 282 #[(0, (.pointer x0)), (1, (.slice x1 a b)), (2, (.bool x2))] #[(.pointer x0), (.slice x1 a b), (.bool x2)] := kr
@[simp] theorem bd_287_0_1_2_6 {x0 : Option Addr} {x1 : Int} {x2 : Int} {x6 : Int} : BD 287 #[(0, (.pointer x0)), (1, (bN x1)), (2, (bN x2)), (6, (bN x6))] #[(.pointer x0), (bN x1), (bN x2), (bN 0), (bN 0), (bN 0), (bN x6), (bR 0), (bN 0), (.bool false)] := kr
@[simp] theorem bd_290_0_1 {x0 : Option Addr} {x1 : Option Addr} {a b : Nat} : BD 290 #[(0, (.pointer x0)), (1, (.slice x1 a b))] #[(.pointer x0), (.slice x1 a b), (.bool false)] := kr
@[simp] theorem bd_293_0_1_4 {x0 : Option Addr} {x1 : Option Addr} {a b : Nat} {x4 : Bool} : BD 293 #[(0, (.pointer x0)), (1, (.slice x1 a b)), (4, (.bool x4))] #[(.pointer x0), (.slice x1 a b), (bN 0), (bR 0), (.bool x4)] := kr
theorem oC:IF 3 (bN 0) 1 8:=⟨Tryz.t3,dE,rfl,rfl,rfl⟩
theorem inf_39:IF 39 (.agg #[bN 0,bN 0,bN 0,bN 0,bN 0,bN 0,bR 0,bR 0,bN 0,bN 0,bN 0,bN 0,bN 0,bN 0,bN 0,bN 0,bN 0,bN 0,bN 0,bR 0]) 20 160:=⟨Tryz.t39,dE,rfl,rfl,rfl⟩
theorem inf_58:IF 58 (.agg #[bN 0,bN 0,.bool false]) 3 24:=⟨Tryz.t58,dE,rfl,rfl,rfl⟩
theorem inf_116:IF 116 (.slice none 0 0) 1 24:=⟨Tryz.t116,dE,rfl,rfl,rfl⟩
theorem inf_118:IF 118 (.pointer none) 1 8:=⟨Tryz.t118,dE,rfl,rfl,rfl⟩
theorem inf_32:IF 32 (.agg #[bN 0,bN 0,bN 0,bN 0,bN 0]) 5 40:=⟨Tryz.t32,dE,rfl,rfl,rfl⟩
theorem inf_142:IF 142 (.agg #[bN 0,bN 0]) 2 16:=⟨Tryz.t142,dE,rfl,rfl,rfl⟩
theorem inf_99:IF 99 (.agg #[bN 0,bN 0,bN 0,bN 0,.slice none 0 0,.slice none 0 0,.slice none 0 0]) 7 104:=⟨Tryz.t99,dE,rfl,rfl,rfl⟩
theorem inf_136:IF 136 (.agg #[bN 0,.slice none 0 0]) 2 32:=⟨Tryz.t136,dE,rfl,rfl,rfl⟩
theorem inf_139:IF 139 (.slice none 0 0) 1 24:=⟨Tryz.t139,dE,rfl,rfl,rfl⟩
theorem inf_111:IF 111 (.agg #[bN 0,bN 0,.bool false]) 3 24:=⟨Tryz.t111,dE,rfl,rfl,rfl⟩
theorem inf_37:IF 37 (.agg #[bN 0,bN 0,bN 0,bN 0,bR 0,bR 0]) 6 48:=⟨Tryz.t37,dE,rfl,rfl,rfl⟩
theorem inf_96:IF 96 (.agg #[bN 0,bN 0]) 2 16:=⟨Tryz.t96,dE,rfl,rfl,rfl⟩
theorem inf_33:IF 33 (bR 0) 1 8:=⟨Tryz.t33,dE,rfl,rfl,rfl⟩
theorem inf_256:IF 256 (.agg #[bN 0,bN 0]) 2 16:=⟨Tryz.t256,dE,rfl,rfl,rfl⟩
theorem inf_250:IF 250 (.agg #[bN 0,bN 0,bN 0,bN 0,.bool false,.slice none 0 0,.slice none 0 0,.slice none 0 0]) 8 112:=⟨Tryz.t250,dE,rfl,rfl,rfl⟩
theorem inf_161:IF 161 (.slice none 0 0) 1 24:=⟨Tryz.t161,dE,rfl,rfl,rfl⟩
theorem ps_22{x0:Int}{x:Value}{base n:Nat}{xs:List Value}(d:∀u∈([(bN x0)]:List Value),u.oneCell'=true)(b:w.ownsRow base 3 1 x n xs)(k:n+1<=1048577)(a:base<=w.heap.size)(e:∀x' c,c.ownsRow base 3 1 x' (n+1) (xs++ [(bN x0)])->w.grownBy c x.ownBlock->hI w x x'->K x' c):
  cP prog (Instr.buildSlice 22 1 #[(0,(bN x0))]) w λy w1=>cP prog (Builtin.append_ #[22,22] 22 #[x,y]) w1 K:=by
 obtain⟨i,f,g,j,hb⟩:=oC;exact fP (cs:= [(bN x0)]) Tryz.underlying22 f g j rfl dC dC dE rfl d b (by unfold maxLen;omega) (by rw[hb];omega) a e
@[simp] theorem bs_22_1 {x0 : Int} : cP prog (Instr.buildSlice 22 1 #[(0, (bN x0))]) w K = K (.slice (some ⟨w.heap.size, 0, none⟩) 1 1) (w.alloc (.cells #[(bN x0)] 3)) := by
 obtain⟨i,a,b,c,hb⟩:=oC;exact eS (z:=1) Tryz.underlying22 a b c dC dC dE
@[simp] theorem bs_22_2 {x0 : Int} {x1 : Int} : cP prog (Instr.buildSlice 22 2 #[(0, (bN x0)), (1, (bN x1))]) w K = K (.slice (some ⟨w.heap.size, 0, none⟩) 2 2) (w.alloc (.cells #[(bN x0), (bN x1)] 3)) := by
 obtain⟨i,a,b,c,hb⟩:=oC;exact eS (z:=1) Tryz.underlying22 a b c dC dC dE
@[simp] theorem bs_22_4 {x0 : Int} {x1 : Int} {x2 : Int} {x3 : Int} : cP prog (Instr.buildSlice 22 4 #[(0, (bN x0)), (1, (bN x1)), (2, (bN x2)), (3, (bN x3))]) w K = K (.slice (some ⟨w.heap.size, 0, none⟩) 4 4) (w.alloc (.cells #[(bN x0), (bN x1), (bN x2), (bN x3)] 3)) := by
 obtain⟨i,a,b,c,hb⟩:=oC;exact eS (z:=1) Tryz.underlying22 a b c dC dC dE
@[simp] theorem bs_22_6 {x0 : Int} {x1 : Int} {x2 : Int} {x3 : Int} {x4 : Int} {x5 : Int} : cP prog (Instr.buildSlice 22 6 #[(0, (bN x0)), (1, (bN x1)), (2, (bN x2)), (3, (bN x3)), (4, (bN x4)), (5, (bN x5))]) w K = K (.slice (some ⟨w.heap.size, 0, none⟩) 6 6) (w.alloc (.cells #[(bN x0), (bN x1), (bN x2), (bN x3), (bN x4), (bN x5)] 3)) := by
 obtain⟨i,a,b,c,hb⟩:=oC;exact eS (z:=1) Tryz.underlying22 a b c dC dC dE
@[simp] theorem bs_22_9 {x0 : Int} {x1 : Int} {x2 : Int} {x3 : Int} {x4 : Int} {x5 : Int} {x6 : Int} {x7 : Int} {x8 : Int} : cP prog (Instr.buildSlice 22 9 #[(0, (bN x0)), (1, (bN x1)), (2, (bN x2)), (3, (bN x3)), (4, (bN x4)), (5, (bN x5)), (6, (bN x6)), (7, (bN x7)), (8, (bN x8))]) w K = K (.slice (some ⟨w.heap.size, 0, none⟩) 9 9) (w.alloc (.cells #[(bN x0), (bN x1), (bN x2), (bN x3), (bN x4), (bN x5), (bN x6), (bN x7), (bN x8)] 3)) := by
 obtain⟨i,a,b,c,hb⟩:=oC;exact eS (z:=1) Tryz.underlying22 a b c dC dC dE
@[simp] theorem bs_22_23 {x0 : Int} {x1 : Int} {x2 : Int} {x3 : Int} {x4 : Int} {x5 : Int} {x6 : Int} {x7 : Int} {x8 : Int} {x9 : Int} {eU : Int} {gq : Int} {oD : Int} {x13 : Int} {x14 : Int} {x15 : Int} {x16 : Int} {x17 : Int} {x18 : Int} {x19 : Int} {x20 : Int} {x21 : Int} {x22 : Int} : cP prog (Instr.buildSlice 22 23 #[(0, (bN x0)), (1, (bN x1)), (2, (bN x2)), (3, (bN x3)), (4, (bN x4)), (5, (bN x5)), (6, (bN x6)), (7, (bN x7)), (8, (bN x8)), (9, (bN x9)), (10, (bN eU)), (11, (bN gq)), (12, (bN oD)), (13, (bN x13)), (14, (bN x14)), (15, (bN x15)), (16, (bN x16)), (17, (bN x17)), (18, (bN x18)), (19, (bN x19)), (20, (bN x20)), (21, (bN x21)), (22, (bN x22))]) w K = K (.slice (some ⟨w.heap.size, 0, none⟩) 23 23) (w.alloc (.cells #[(bN x0), (bN x1), (bN x2), (bN x3), (bN x4), (bN x5), (bN x6), (bN x7), (bN x8), (bN x9), (bN eU), (bN gq), (bN oD), (bN x13), (bN x14), (bN x15), (bN x16), (bN x17), (bN x18), (bN x19), (bN x20), (bN x21), (bN x22)] 3)) := by
 obtain⟨i,a,b,c,hb⟩:=oC;exact eS (z:=1) Tryz.underlying22 a b c dC dC dE
theorem ps_26{m o p q r s t v z A a b c d e f g j k l:Value}{x:Value}{base n:Nat}{xs:List Value}(E:∀u∈([m,o,p,q,r,s,t,v,z,A,a,b,c,d,e,f,g,j,k,l]:List Value),u.oneCell'=true)(C:w.ownsRow base 39 20 x n xs)(J:n+1<=1048577)(B:base<=w.heap.size)(F:∀x' D,D.ownsRow base 39 20 x' (n+1) (xs++ [m,o,p,q,r,s,t,v,z,A,a,b,c,d,e,f,g,j,k,l])->w.grownBy D x.ownBlock->hI w x x'->K x' D):
  cP prog (Instr.buildSlice 26 1 #[(0,(.agg #[m,o,p,q,r,s,t,v,z,A,a,b,c,d,e,f,g,j,k,l]))]) w λy w1=>cP prog (Builtin.append_ #[26,26] 26 #[x,y]) w1 K:=by
 obtain⟨i,G,H,I,hb⟩:=inf_39;exact fP (cs:= [m,o,p,q,r,s,t,v,z,A,a,b,c,d,e,f,g,j,k,l]) Tryz.underlying26 G H I rfl dC dC dE rfl E C (by unfold maxLen;omega) (by rw[hb];omega) B F
@[simp] theorem bs_26_1 {m n o p q r s t u v a b c d e f g j k l : Value} : cP prog (Instr.buildSlice 26 1 #[(0, (.agg #[m, n, o, p, q, r, s, t, u, v, a, b, c, d, e, f, g, j, k, l]))]) w K = K (.slice (some ⟨w.heap.size, 0, none⟩) 1 1) (w.alloc (.cells #[m, n, o, p, q, r, s, t, u, v, a, b, c, d, e, f, g, j, k, l] 39)) := by
 obtain⟨i,x,y,A,hb⟩:=inf_39;exact eS (z:=20) Tryz.underlying26 x y A dC dC dE
theorem ps_55{a b c:Value}{x:Value}{base n:Nat}{xs:List Value}(g:∀u∈([a,b,c]:List Value),u.oneCell'=true)(e:w.ownsRow base 58 3 x n xs)(o:n+1<=1048577)(d:base<=w.heap.size)(j:∀x' f,f.ownsRow base 58 3 x' (n+1) (xs++ [a,b,c])->w.grownBy f x.ownBlock->hI w x x'->K x' f):
  cP prog (Instr.buildSlice 55 1 #[(0,(.agg #[a,b,c]))]) w λy w1=>cP prog (Builtin.append_ #[55,55] 55 #[x,y]) w1 K:=by
 obtain⟨i,k,l,m,hb⟩:=inf_58;exact fP (cs:= [a,b,c]) Tryz.underlying55 k l m rfl dC dC dE rfl g e (by unfold maxLen;omega) (by rw[hb];omega) d j
theorem ps_70{x0:Option Addr}{c d:Nat}{x:Value}{base n:Nat}{xs:List Value}(f:∀u∈([(.slice x0 c d)]:List Value),u.oneCell'=true)(b:w.ownsRow base 116 1 x n xs)(m:n+1<=1048577)(a:base<=w.heap.size)(g:∀x' e,e.ownsRow base 116 1 x' (n+1) (xs++ [(.slice x0 c d)])->w.grownBy e x.ownBlock->hI w x x'->K x' e):
  cP prog (Instr.buildSlice 70 1 #[(0,(.slice x0 c d))]) w λy w1=>cP prog (Builtin.append_ #[70,70] 70 #[x,y]) w1 K:=by
 obtain⟨i,j,k,l,hb⟩:=inf_116;exact fP (cs:= [(.slice x0 c d)]) Tryz.underlying70 j k l rfl dC dC dE rfl f b (by unfold maxLen;omega) (by rw[hb];omega) a g
theorem ps_75{x0:Option Addr}{x:Value}{base n:Nat}{xs:List Value}(d:∀u∈([(.pointer x0)]:List Value),u.oneCell'=true)(b:w.ownsRow base 118 1 x n xs)(k:n+1<=1048577)(a:base<=w.heap.size)(e:∀x' c,c.ownsRow base 118 1 x' (n+1) (xs++ [(.pointer x0)])->w.grownBy c x.ownBlock->hI w x x'->K x' c):
  cP prog (Instr.buildSlice 75 1 #[(0,(.pointer x0))]) w λy w1=>cP prog (Builtin.append_ #[75,75] 75 #[x,y]) w1 K:=by
 obtain⟨i,f,g,j,hb⟩:=inf_118;exact fP (cs:= [(.pointer x0)]) Tryz.underlying75 f g j rfl dC dC dE rfl d b (by unfold maxLen;omega) (by rw[hb];omega) a e
theorem ps_76{a b c d e:Value}{x:Value}{base n:Nat}{xs:List Value}(k:∀u∈([a,b,c,d,e]:List Value),u.oneCell'=true)(g:w.ownsRow base 32 5 x n xs)(q:n+1<=1048577)(f:base<=w.heap.size)(l:∀x' j,j.ownsRow base 32 5 x' (n+1) (xs++ [a,b,c,d,e])->w.grownBy j x.ownBlock->hI w x x'->K x' j):
  cP prog (Instr.buildSlice 76 1 #[(0,(.agg #[a,b,c,d,e]))]) w λy w1=>cP prog (Builtin.append_ #[76,76] 76 #[x,y]) w1 K:=by
 obtain⟨i,m,o,p,hb⟩:=inf_32;exact fP (cs:= [a,b,c,d,e]) Tryz.underlying76 m o p rfl dC dC dE rfl k g (by unfold maxLen;omega) (by rw[hb];omega) f l
theorem ps_87{a b c d e f g:Value}{x:Value}{base n:Nat}{xs:List Value}(m:∀u∈([a,b,c,d,e,f,g]:List Value),u.oneCell'=true)(k:w.ownsRow base 99 7 x n xs)(s:n+1<=1048577)(j:base<=w.heap.size)(o:∀x' l,l.ownsRow base 99 7 x' (n+1) (xs++ [a,b,c,d,e,f,g])->w.grownBy l x.ownBlock->hI w x x'->K x' l):
  cP prog (Instr.buildSlice 87 1 #[(0,(.agg #[a,b,c,d,e,f,g]))]) w λy w1=>cP prog (Builtin.append_ #[87,87] 87 #[x,y]) w1 K:=by
 obtain⟨i,p,q,r,hb⟩:=inf_99;exact fP (cs:= [a,b,c,d,e,f,g]) Tryz.underlying87 p q r rfl dC dC dE rfl m k (by unfold maxLen;omega) (by rw[hb];omega) j o
theorem ps_97{x0:Option Addr}{c d:Nat}{x:Value}{base n:Nat}{xs:List Value}(f:∀u∈([(.slice x0 c d)]:List Value),u.oneCell'=true)(b:w.ownsRow base 139 1 x n xs)(m:n+1<=1048577)(a:base<=w.heap.size)(g:∀x' e,e.ownsRow base 139 1 x' (n+1) (xs++ [(.slice x0 c d)])->w.grownBy e x.ownBlock->hI w x x'->K x' e):
  cP prog (Instr.buildSlice 97 1 #[(0,(.slice x0 c d))]) w λy w1=>cP prog (Builtin.append_ #[97,97] 97 #[x,y]) w1 K:=by
 obtain⟨i,j,k,l,hb⟩:=inf_139;exact fP (cs:= [(.slice x0 c d)]) Tryz.underlying97 j k l rfl dC dC dE rfl f b (by unfold maxLen;omega) (by rw[hb];omega) a g
theorem ps_109{a b c:Value}{x:Value}{base n:Nat}{xs:List Value}(g:∀u∈([a,b,c]:List Value),u.oneCell'=true)(e:w.ownsRow base 111 3 x n xs)(o:n+1<=1048577)(d:base<=w.heap.size)(j:∀x' f,f.ownsRow base 111 3 x' (n+1) (xs++ [a,b,c])->w.grownBy f x.ownBlock->hI w x x'->K x' f):
  cP prog (Instr.buildSlice 109 1 #[(0,(.agg #[a,b,c]))]) w λy w1=>cP prog (Builtin.append_ #[109,109] 109 #[x,y]) w1 K:=by
 obtain⟨i,k,l,m,hb⟩:=inf_111;exact fP (cs:= [a,b,c]) Tryz.underlying109 k l m rfl dC dC dE rfl g e (by unfold maxLen;omega) (by rw[hb];omega) d j
theorem ps_116{a b c d e f:Value}{x:Value}{base n:Nat}{xs:List Value}(l:∀u∈([a,b,c,d,e,f]:List Value),u.oneCell'=true)(j:w.ownsRow base 37 6 x n xs)(r:n+1<=1048577)(g:base<=w.heap.size)(m:∀x' k,k.ownsRow base 37 6 x' (n+1) (xs++ [a,b,c,d,e,f])->w.grownBy k x.ownBlock->hI w x x'->K x' k):
  cP prog (Instr.buildSlice 116 1 #[(0,(.agg #[a,b,c,d,e,f]))]) w λy w1=>cP prog (Builtin.append_ #[116,116] 116 #[x,y]) w1 K:=by
 obtain⟨i,o,p,q,hb⟩:=inf_37;exact fP (cs:= [a,b,c,d,e,f]) Tryz.underlying116 o p q rfl dC dC dE rfl l j (by unfold maxLen;omega) (by rw[hb];omega) g m
theorem ps_134{a b:Value}{x:Value}{base n:Nat}{xs:List Value}(f:∀u∈([a,b]:List Value),u.oneCell'=true)(d:w.ownsRow base 96 2 x n xs)(m:n+1<=1048577)(c:base<=w.heap.size)(g:∀x' e,e.ownsRow base 96 2 x' (n+1) (xs++ [a,b])->w.grownBy e x.ownBlock->hI w x x'->K x' e):
  cP prog (Instr.buildSlice 134 1 #[(0,(.agg #[a,b]))]) w λy w1=>cP prog (Builtin.append_ #[134,134] 134 #[x,y]) w1 K:=by
 obtain⟨i,j,k,l,hb⟩:=inf_96;exact fP (cs:= [a,b]) Tryz.underlying134 j k l rfl dC dC dE rfl f d (by unfold maxLen;omega) (by rw[hb];omega) c g
theorem ps_161{a b:Value}{x:Value}{base n:Nat}{xs:List Value}(f:∀u∈([a,b]:List Value),u.oneCell'=true)(d:w.ownsRow base 256 2 x n xs)(m:n+1<=1048577)(c:base<=w.heap.size)(g:∀x' e,e.ownsRow base 256 2 x' (n+1) (xs++ [a,b])->w.grownBy e x.ownBlock->hI w x x'->K x' e):
  cP prog (Instr.buildSlice 161 1 #[(0,(.agg #[a,b]))]) w λy w1=>cP prog (Builtin.append_ #[161,161] 161 #[x,y]) w1 K:=by
 obtain⟨i,j,k,l,hb⟩:=inf_256;exact fP (cs:= [a,b]) Tryz.underlying161 j k l rfl dC dC dE rfl f d (by unfold maxLen;omega) (by rw[hb];omega) c g
theorem ps_179{a b c d e f g j:Value}{x:Value}{base n:Nat}{xs:List Value}(o:∀u∈([a,b,c,d,e,f,g,j]:List Value),u.oneCell'=true)(l:w.ownsRow base 250 8 x n xs)(t:n+1<=1048577)(k:base<=w.heap.size)(p:∀x' m,m.ownsRow base 250 8 x' (n+1) (xs++ [a,b,c,d,e,f,g,j])->w.grownBy m x.ownBlock->hI w x x'->K x' m):
  cP prog (Instr.buildSlice 179 1 #[(0,(.agg #[a,b,c,d,e,f,g,j]))]) w λy w1=>cP prog (Builtin.append_ #[179,179] 179 #[x,y]) w1 K:=by
 obtain⟨i,q,r,s,hb⟩:=inf_250;exact fP (cs:= [a,b,c,d,e,f,g,j]) Tryz.underlying179 q r s rfl dC dC dE rfl o l (by unfold maxLen;omega) (by rw[hb];omega) k p
theorem inf_193:IF 193 (.agg #[.string {data:= #[]},bN 0,.bool false,.bool false,.bool false]) 5 32:=⟨Tryz.t193,dE,rfl,rfl,rfl⟩
@[simp] theorem bs_252_13 {r s t u v : Value} {x y A B C : Value} {D E F G H : Value} {I J L M O : Value} {P Q R S T : Value} {U V W X Y : Value} {Z a7 a8 a9 b1 : Value} {b2 b3 b4 b5 b6 : Value} {b7 b8 b9 c1 c2 : Value} {c3 c4 c5 c6 c7 : Value} {a b c d e : Value} {f g j k l : Value} {m n o p q : Value} : cP prog (Instr.buildSlice 252 13 #[(0, (.agg #[r, s, t, u, v])), (1, (.agg #[x, y, A, B, C])), (2, (.agg #[D, E, F, G, H])), (3, (.agg #[I, J, L, M, O])), (4, (.agg #[P, Q, R, S, T])), (5, (.agg #[U, V, W, X, Y])), (6, (.agg #[Z, a7, a8, a9, b1])), (7, (.agg #[b2, b3, b4, b5, b6])), (8, (.agg #[b7, b8, b9, c1, c2])), (9, (.agg #[c3, c4, c5, c6, c7])), (10, (.agg #[a, b, c, d, e])), (11, (.agg #[f, g, j, k, l])), (12, (.agg #[m, n, o, p, q]))]) w K = K (.slice (some ⟨w.heap.size, 0, none⟩) 13 13) (w.alloc (.cells #[r, s, t, u, v, x, y, A, B, C, D, E, F, G, H, I, J, L, M, O, P, Q, R, S, T, U, V, W, X, Y, Z, a7, a8, a9, b1, b2, b3, b4, b5, b6, b7, b8, b9, c1, c2, c3, c4, c5, c6, c7, a, b, c, d, e, f, g, j, k, l, m, n, o, p, q] 193)) := by
 obtain⟨i,hi,hz,hs,hb⟩:=inf_193;exact eS (z:=5) Tryz.underlying252 hi hz hs dC dC dE
@[simp] theorem aQ : LN 22 := kO Tryz.underlying22
@[simp] theorem iP : LN 26 := kO Tryz.underlying26
@[simp] theorem tH : LN 55 := kO Tryz.underlying55
@[simp] theorem tI : LN 70 := kO Tryz.underlying70
@[simp] theorem len_76 : LN 76 := kO Tryz.underlying76
@[simp] theorem len_86 : LN 86 := kO Tryz.underlying86
@[simp] theorem len_87 : LN 87 := kO Tryz.underlying87
@[simp] theorem len_88 : LN 88 := kO Tryz.underlying88
@[simp] theorem len_109 : LN 109 := kO Tryz.underlying109
@[simp] theorem mm : LN 116 := kO Tryz.underlying116
@[simp] theorem len_134 : LN 134 := kO Tryz.underlying134
@[simp] theorem jt : LN 161 := kO Tryz.underlying161
@[simp] theorem qo : LN 179 := kO Tryz.underlying179
@[simp] theorem len_252 : LN 252 := kO Tryz.underlying252
@[simp] theorem kX {a : Int} : ai prog (convert 3 33 (bN a)) = some (bR ((IntKind.u64).wrap a)) := pr_conv underlying3 Tryz.underlying33
@[simp] theorem rK {a : Int} : ai prog (convert 3 254 (bN a)) = some (bR ((IntKind.u64).wrap a)) := pr_conv underlying3 Tryz.underlying254
@[simp] theorem cv_33_3 {a : Int} : ai prog (convert 33 3 (bR a)) = some (bN ((IntKind.i64).wrap a)) := pr_conv Tryz.underlying33 underlying3
@[simp] theorem rL {a : Int} : ai prog (convert 254 3 (bR a)) = some (bN ((IntKind.i64).wrap a)) := pr_conv Tryz.underlying254 underlying3
theorem ia_22:IA 22 1:=iak Tryz.underlying22
theorem ia_70:IA 70 1:=iak Tryz.underlying70
theorem ia_86:IA 86 2:=iak Tryz.underlying86
theorem ia_87:IA 87 7:=iak Tryz.underlying87
theorem ia_88:IA 88 2:=iak Tryz.underlying88
theorem ia_97:IA 97 1:=iak Tryz.underlying97
theorem ia_139:IA 139 1:=iak Tryz.underlying139
theorem oP:IA 179 8:=iak Tryz.underlying179
theorem ia_180:IA 180 1:=iak Tryz.underlying180
theorem ia_252:IA 252 5:=iak Tryz.underlying252
theorem ei_32{d:Nat}{x0 a:Int}{x1 b:Int}{x2 c:Int}{x3 e:Int}{x4 f:Int}:(Op.equalIn (d+2) 32 (.agg #[(bN x0),(bN x1),(bN x2),(bN x3),(bN x4)]) (.agg #[(bN a),(bN b),(bN c),(bN e),(bN f)])).run prog w= .ok ((x0==a)&&((x1==b)&&((x2==c)&&((x3==e)&&((x4==f)&&(true)))))) w:=
 my (d:=d+1) (fs:= [(true,3,0),(true,3,1),(true,3,2),(true,3,3),(true,3,4)]) dE dE dE (fU (bD dE rfl) (bD dE rfl) (gK underlying3) (fU (bD dE rfl) (bD dE rfl) (gK underlying3) (fU (bD dE rfl) (bD dE rfl) (gK underlying3) (fU (bD dE rfl) (bD dE rfl) (gK underlying3) (fU (bD dE rfl) (bD dE rfl) (gK underlying3) eqF_nil)))))
@[simp] theorem be_eql_32 {x y : Operand} {x0 a : Int} {x1 b : Int} {x2 c : Int} {x3 e : Int} {x4 f : Int} : be prog .eql 32 x y (.agg #[(bN x0), (bN x1), (bN x2), (bN x3), (bN x4)]) (.agg #[(bN a), (bN b), (bN c), (bN e), (bN f)]) = some (.bool (((x0 == a) && ((x1 == b) && ((x2 == c) && ((x3 == e) && ((x4 == f) && (true)))))))) := be_eqls dE λw => ei_32 (d := 9998)
@[simp] theorem be_neq_32 {x y : Operand} {x0 a : Int} {x1 b : Int} {x2 c : Int} {x3 e : Int} {x4 f : Int} : be prog .neq 32 x y (.agg #[(bN x0), (bN x1), (bN x2), (bN x3), (bN x4)]) (.agg #[(bN a), (bN b), (bN c), (bN e), (bN f)]) = some (.bool (!((x0 == a) && ((x1 == b) && ((x2 == c) && ((x3 == e) && ((x4 == f) && (true)))))))) := be_neqs dE λw => ei_32 (d := 9998)
theorem ei_35{d:Nat}{x0 a:Int}{x1 b:Int}{x2 c:Int}{x3 e:Int}{x4 f:Int}{x5 g:Int}{x6 i:Int}{x7 j:Int}:(Op.equalIn (d+3) 35 (.agg #[(bN x0),(bN x1),(bN x2),(bN x3),(bN x4),(bN x5),(bN x6),(bR x7)]) (.agg #[(bN a),(bN b),(bN c),(bN e),(bN f),(bN g),(bN i),(bR j)])).run prog w= .ok ((x0==a)&&(((x1==b)&&((x2==c)&&((x3==e)&&((x4==f)&&((x5==g)&&(true))))))&&((x6==i)&&((x7==j)&&(true))))) w:=
 my (d:=d+2) (fs:= [(true,30,0),(true,32,1),(true,3,6),(true,33,7)]) dE dE dE (fU (bD dE rfl) (bD dE rfl) (gK Tryz.underlying30) (fU (part_ag (n:=5) dE dE) (part_ag (n:=5) dE dE) (ei_32 (d:=d+0)) (fU (bD dE rfl) (bD dE rfl) (gK underlying3) (fU (bD dE rfl) (bD dE rfl) (gK Tryz.underlying33) eqF_nil))))
@[simp] theorem be_eql_35 {x y : Operand} {x0 a : Int} {x1 b : Int} {x2 c : Int} {x3 e : Int} {x4 f : Int} {x5 g : Int} {x6 i : Int} {x7 j : Int} : be prog .eql 35 x y (.agg #[(bN x0), (bN x1), (bN x2), (bN x3), (bN x4), (bN x5), (bN x6), (bR x7)]) (.agg #[(bN a), (bN b), (bN c), (bN e), (bN f), (bN g), (bN i), (bR j)]) = some (.bool (((x0 == a) && (((x1 == b) && ((x2 == c) && ((x3 == e) && ((x4 == f) && ((x5 == g) && (true)))))) && ((x6 == i) && ((x7 == j) && (true))))))) := be_eqls dE λw => ei_35 (d := 9997)
@[simp] theorem be_neq_35 {x y : Operand} {x0 a : Int} {x1 b : Int} {x2 c : Int} {x3 e : Int} {x4 f : Int} {x5 g : Int} {x6 i : Int} {x7 j : Int} : be prog .neq 35 x y (.agg #[(bN x0), (bN x1), (bN x2), (bN x3), (bN x4), (bN x5), (bN x6), (bR x7)]) (.agg #[(bN a), (bN b), (bN c), (bN e), (bN f), (bN g), (bN i), (bR j)]) = some (.bool (!((x0 == a) && (((x1 == b) && ((x2 == c) && ((x3 == e) && ((x4 == f) && ((x5 == g) && (true)))))) && ((x6 == i) && ((x7 == j) && (true))))))) := be_neqs dE λw => ei_35 (d := 9997)
theorem ei_96{d:Nat}{x0 a:Int}{x1 b:Int}:(Op.equalIn (d+2) 96 (.agg #[(bN x0),(bN x1)]) (.agg #[(bN a),(bN b)])).run prog w= .ok ((x0==a)&&((x1==b)&&(true))) w:=
 my (d:=d+1) (fs:= [(true,3,0),(true,3,1)]) dE dE dE (fU (bD dE rfl) (bD dE rfl) (gK underlying3) (fU (bD dE rfl) (bD dE rfl) (gK underlying3) eqF_nil))
@[simp] theorem be_eql_96 {x y : Operand} {x0 a : Int} {x1 b : Int} : be prog .eql 96 x y (.agg #[(bN x0), (bN x1)]) (.agg #[(bN a), (bN b)]) = some (.bool (((x0 == a) && ((x1 == b) && (true))))) := be_eqls dE λw => ei_96 (d := 9998)
theorem ei_142{d:Nat}{x0 a:Int}{x1 b:Int}:(Op.equalIn (d+2) 142 (.agg #[(bN x0),(bN x1)]) (.agg #[(bN a),(bN b)])).run prog w= .ok ((x0==a)&&((x1==b)&&(true))) w:=
 my (d:=d+1) (fs:= [(true,3,0),(true,3,1)]) dE dE dE (fU (bD dE rfl) (bD dE rfl) (gK underlying3) (fU (bD dE rfl) (bD dE rfl) (gK underlying3) eqF_nil))
@[simp] theorem be_eql_142 {x y : Operand} {x0 a : Int} {x1 b : Int} : be prog .eql 142 x y (.agg #[(bN x0), (bN x1)]) (.agg #[(bN a), (bN b)]) = some (.bool (((x0 == a) && ((x1 == b) && (true))))) := be_eqls dE λw => ei_142 (d := 9998)
theorem ei_256{d:Nat}{x0 a:Int}{x1 b:Int}:(Op.equalIn (d+2) 256 (.agg #[(bN x0),(bN x1)]) (.agg #[(bN a),(bN b)])).run prog w= .ok ((x0==a)&&((x1==b)&&(true))) w:=
 my (d:=d+1) (fs:= [(true,3,0),(true,3,1)]) dE dE dE (fU (bD dE rfl) (bD dE rfl) (gK underlying3) (fU (bD dE rfl) (bD dE rfl) (gK underlying3) eqF_nil))
@[simp] theorem be_eql_256 {x y : Operand} {x0 a : Int} {x1 b : Int} : be prog .eql 256 x y (.agg #[(bN x0), (bN x1)]) (.agg #[(bN a), (bN b)]) = some (.bool (((x0 == a) && ((x1 == b) && (true))))) := be_eqls dE λw => ei_256 (d := 9998)
end Go.Proofs.YtnpflajdbchghaaGreat
namespace Go.Proofs.YtnpflajdbchghaaGreat.Ev
open Tryz(f127 f38 prog underlying3)
open Go
abbrev QQ:=Value->World->Prop
structure Bx where
 p:Prop
def bWp(o:Option Value)(K:Value->Bx):Bx:=⟨mV o λv=>(K v).p⟩
def bEf(P:Program)(m:Sem Value)(w:World)(K:Value->World->Bx):Bx:=⟨cP P m w λv w=>(K v w).p⟩
def bEu(P:Program)(m:Sem Unit)(w:World)(K:World->Bx):Bx:=⟨ck P m w λw=>(K w).p⟩
def bCa(P:Program)(f:FuncId)(l:List Value)(w:World)(K:Value->World->Bx):Bx:=⟨aa P f l w λv w=>(K v w).p⟩
def bCx(P:Program)(f:FuncId)(l:List Value)(w:World)(K:Value->World->Bx):Bx:=⟨CallX P f l w λv w=>(K v w).p⟩
def bCd(D:Nat->Prop)(P:Program)(f:FuncId)(l:List Value)(w:World)(K:Value->World->Bx):Bx:=⟨CallD D P f l w λv w=>(K v w).p⟩
def bRd(D:Nat->Prop)(x:Value)(b:Bx):Bx:=⟨rdD D x b.p⟩
def bRg(D:Nat->Prop)(c:Value)(k:Bool)(x:Value)(b:Bx):Bx:=⟨rdG D c k x b.p⟩
def bGe(P:Program)(c:Value)(k:Bool)(m:Sem Value)(K:Value->World->Bx)(w:World):Bx:=⟨gE c k (cP P m w) (λv w=>(K v w).p) w⟩
def bGu(P:Program)(c:Value)(k:Bool)(m:Sem Unit)(K:World->Bx)(w:World):Bx:=⟨gU c k (ck P m w) (λw=>(K w).p) w⟩
def bGc(P:Program)(c:Value)(k:Bool)(f:FuncId)(l:List Value)(K:Value->World->Bx)(w:World):Bx:=⟨gE c k (aa P f l w) (λv w=>(K v w).p) w⟩
def bGx(P:Program)(c:Value)(k:Bool)(f:FuncId)(l:List Value)(K:Value->World->Bx)(w:World):Bx:=⟨gE c k (CallX P f l w) (λv w=>(K v w).p) w⟩
def bGd(D:Nat->Prop)(P:Program)(c:Value)(k:Bool)(f:FuncId)(l:List Value)(K:Value->World->Bx)(w:World):Bx:=⟨gE c k (CallD D P f l w) (λv w=>(K v w).p) w⟩
def bGn(c:Value)(k:Bool)(K:Value->World->Bx)(w:World):Bx:=⟨gE c k (λ_=>False) (λv w=>(K v w).p) w⟩
def bCn(c:Value)(a b:Bx):Bx:=⟨cnd c a.p b.p⟩
def bAn(a b:Bx):Bx:=⟨a.p/\b.p⟩
def bQ(Q:QQ)(v:Value)(w:World):Bx:=⟨Q v w⟩
def bC(F:World->QQ->Prop)(w:World)(Q:QQ):Bx:=⟨F w Q⟩
def bNo:Bx:=⟨False⟩
def bEv(P:Program)(ent:FuncId->Bool)(f:Option Value)(l:Option (List Value))(w:World)(K:Value->World->Bx):Bx:=⟨evP P (nl ent f l) w λv w=>(K v w).p⟩
def bEg(P:Program)(ent:FuncId->Bool)(f:Option Value)(l:Option (List Value))(c:Value)(k:Bool)(w:World)(K:Value->World->Bx):Bx:=⟨evG P (nl ent f l) c k w λv w=>(K v w).p⟩
theorem zB:(∀ {o K},(bWp o K).p=mV o λv=>(K v).p)/\(∀ {P m w K},(bEf P m w K).p=cP P m w λv w=>(K v w).p)/\(∀ {P m w K},(bEu P m w K).p=ck P m w λw=>(K w).p)
 /\(∀ {P f l w K},(bCa P f l w K).p=aa P f l w λv w=>(K v w).p)/\(∀ {P f l w K},(bCx P f l w K).p=CallX P f l w λv w=>(K v w).p)/\(∀ {D P f l w K},(bCd D P f l w K).p=CallD D P f l w λv w=>(K v w).p)
 /\(∀ {D x b},(bRd D x b).p=rdD D x b.p)/\(∀ {D c k x b},(bRg D c k x b).p=rdG D c k x b.p)
 /\(∀ {P c k m K w},(bGe P c k m K w).p=gE c k (cP P m w) (λv w=>(K v w).p) w)/\(∀ {P c k m K w},(bGu P c k m K w).p=gU c k (ck P m w) (λw=>(K w).p) w)
 /\(∀ {P c k f l K w},(bGc P c k f l K w).p=gE c k (aa P f l w) (λv w=>(K v w).p) w)/\(∀ {P c k f l K w},(bGx P c k f l K w).p=gE c k (CallX P f l w) (λv w=>(K v w).p) w)
 /\(∀ {D P c k f l K w},(bGd D P c k f l K w).p=gE c k (CallD D P f l w) (λv w=>(K v w).p) w)/\(∀ {c k K w},(bGn c k K w).p=gE c k (λ_=>False) (λv w=>(K v w).p) w)
 /\(∀ {c a b},(bCn c a b).p=cnd c a.p b.p)/\(∀ {a b},(bAn a b).p=(a.p/\b.p))/\(∀ {Q v w},(bQ Q v w).p=Q v w)/\(∀ {F w Q},(bC F w Q).p=F w Q)/\bNo.p=False
 /\(∀ {P e f l w K},(bEv P e f l w K).p=evP P (nl e f l) w λv w=>(K v w).p)/\(∀ {P e f l c k w K},(bEg P e f l c k w K).p=evG P (nl e f l) c k w λv w=>(K v w).p):=by
 refine⟨?_,?_,?_,?_,?_,?_,?_,?_,?_,?_,?_,?_,?_,?_,?_,?_,?_,?_,?_,?_,?_⟩<;>intros<;>rfl
attribute [irreducible] bWp bEf bEu bCa bCx bCd bRd bRg bGe bGu bGc bGx bGd bGn bCn bAn bQ bC bNo bEv bEg
theorem mkA{α:Type}(l:List α):Array.mk l=l.toArray:=rfl
def r0:Nat->Nat->List Nat->List Nat
 |_,0,l=>l
 |a,n+1,l=>a::r0 (a+1) n l
noncomputable def cb(f:Func):Code:=f.body.getD .skip
structure Nm where
 loop:List (Nat×List Nat×(List Value->Option (World->QQ->Prop)))
 join:List (Nat×List Nat×(List Value->Option (World->QQ->Prop)))
 plan:List (Nat×Plan)
def Nm.h(N:Nm):Hints:=⟨N.loop.map λx=>(x.1,x.2.1),N.join.map λx=>(x.1,x.2.1),N.plan⟩
abbrev Vs:=List Value->Option (World->QQ->Prop)
abbrev V0:=World->QQ->Prop
abbrev V1:=Value->V0
abbrev V2:=Value->V1
abbrev V3:=Value->V2
abbrev V4:=Value->V3
abbrev V5:=Value->V4
abbrev V6:=Value->V5
abbrev V7:=Value->V6
abbrev V8:=Value->V7
abbrev V9:=Value->V8
abbrev V10:=Value->V9
def u0(F:V0):Vs| []=>some F|_=>none
def u1(F:V1):Vs|x::l=>u0 (F x) l|_=>none
def u2(F:V2):Vs|x::l=>u1 (F x) l|_=>none
def u3(F:V3):Vs|x::l=>u2 (F x) l|_=>none
def u4(F:V4):Vs|x::l=>u3 (F x) l|_=>none
def u5(F:V5):Vs|x::l=>u4 (F x) l|_=>none
def u6(F:V6):Vs|x::l=>u5 (F x) l|_=>none
def u7(F:V7):Vs|x::l=>u6 (F x) l|_=>none
def u8(F:V8):Vs|x::l=>u7 (F x) l|_=>none
def u9(F:V9):Vs|x::l=>u8 (F x) l|_=>none
def u10(F:V10):Vs|x::l=>u9 (F x) l|_=>none
section
variable(P:Program)(ent:FuncId->Bool)
noncomputable def xk(ρ:Env)(o:Oper):lJ:=match o.op with
 | .binOp op t x y _=>on2 (cm ρ x) (cm ρ y) λa b=> .opt (match op with| .eql| .neq=>be P op t x y a b|_=>bp P op t a b)
 | .call c=>match c.callee with
  | .value (.func g)=>onL (pZ ρ c.args.toList) λvs=> .call g vs
  |_=>sX ent ρ o
 |_=>sX ent ρ o
def xv(o:Oper):Option (Operand×List Operand):=match o.op with
 | .call c=>match c.callee with
  | .value (.func _)=>none
  | .value f=>some (f,c.args.toList)
  |_=>none
 |_=>none
noncomputable def xP(D:Option (Option (Nat->Prop)))(k:lJ)(w:World)(K:Value->World->Bx):Bx:=
 match k with
 | .val v=>K v w
 | .opt v=>bWp v λv=>K v w
 | .pure m=>bWp (ai P m) λv=>K v w
 | .read t x=>match D with
  |some (some D)=>bRd D x (bWp (gi P t x w) λv=>K v w)
  |_=>bWp (gi P t x w) λv=>K v w
 | .tc m=>bEf P m w K
 | .effU m=>bEu P m w λw'=>K undef w'
 | .call g args=>match D with
  |none=>bCa P g args w K
  |some none=>bCx P g args w K
  |some (some D)=>bCd D P g args w K
 | .bad=>bNo
noncomputable def xG(D:Option (Option (Nat->Prop)))(k:lJ)(c:Value)(want:Bool)(w:World)(K:Value->World->Bx):Bx:=
 match k with
 | .val v=>K (gv c want v) w
 | .opt v=>bWp (gd c want v) λv=>K v w
 | .pure m=>bWp (gd c want (ai P m)) λv=>K v w
 | .read t x=>match D with
  |some (some D)=>bRg D c want x (bWp (gd c want (gi P t x w)) λv=>K v w)
  |_=>bWp (gd c want (gi P t x w)) λv=>K v w
 | .tc m=>bGe P c want m K w
 | .effU m=>bGu P c want m (λw'=>K undef w') w
 | .call g args=>match D with
  |none=>bGc P c want g args K w
  |some none=>bGx P c want g args K w
  |some (some D)=>bGd D P c want g args K w
 | .bad=>bGn c want K w
noncomputable def xSeq(m:Option (Option (Nat->Prop)))(ops:Array Oper)(n:Nat):List Nat->Env->World->(Env->World->Bx)->Bx
 | [],ρ,w,K=>K ρ w
 |i::rest,ρ,w,K=>match ops[i]? with
  |none=>bNo
  |some o=>match gOf ops ρ o,xv o with
   |none,_=>bNo
   |some none,none=>xP P m (xk P ent ρ o) w λv w'=>xSeq m ops n rest (ij n o.dst v ρ) w' K
   |some (some (c,want)),none=>xG P m (xk P ent ρ o) c want w λv w'=>xSeq m ops n rest (ij n o.dst v ρ) w' K
   |some none,some (f,l)=>bEv P ent (cm ρ f) (pZ ρ l) w λv w'=>xSeq m ops n rest (ij n o.dst v ρ) w' K
   |some (some (c,want)),some (f,l)=>bEg P ent (cm ρ f) (pZ ρ l) c want w λv w'=>xSeq m ops n rest (ij n o.dst v ρ) w' K
noncomputable def xPlan(n:Nat)(ops:Array Oper):Plan->Env->World->(Env->World->Bx)->Bx
 | .leaf l,ρ,w,K=>xSeq P ent none ops n l ρ w K
 | .ext l,ρ,w,K=>xSeq P ent (some none) ops n l ρ w K
 | .exd D l,ρ,w,K=>xSeq P ent (some (some D)) ops n l ρ w K
 | .ask _ _ a b,ρ,w,K=>bAn (xPlan n ops a ρ w K) (xPlan n ops b ρ w K)
noncomputable def xReg(n:Nat)(pl:Option Plan)(ops:Array Oper)(draw:Bool)(ρ:Env)(w:World)(K:Env->World->Bx):Bx:=
 match draw with
 |false=>xSeq P ent none ops n (List.range ops.size) ρ w K
 |true=>match pl with
  |none=>bNo
  |some pl=>xPlan P ent n ops pl ρ w.drew K
variable(N:Nm)(n:Nat)(res:List ResultVar)(Q:QQ)
def xCut(x:Option (List Nat×Vs))(ρ:Env)(w:World)(A:Bx):Bx:=match x with
 |some (ks,F)=>match packE ρ ks with
  |some xs=>match F xs with|some F=>bC F w Q|none=>bNo
  |none=>bNo
 |none=>A
noncomputable def xC:Code->Env->World->(Ex->Env->World->Bx)->Bx
 | .skip,ρ,w,K=>K .normal ρ w
 | .region id ops draw,ρ,w,K=>xReg P ent n (look N.plan id) ops draw ρ w λρ' w'=>K .normal ρ' w'
 | .seq x y,ρ,w,K=>xC x ρ w λe ρ' w'=>match e with
  | .normal=>xCut Q (lookC N.join y) ρ' w' (xC y ρ' w' K)
  | .exit id=>K (.exit id) ρ' w'
  | .ret=>K .ret ρ' w'
 | .cond c x y,ρ,w,K=>match cm ρ c with
  |some v=>bCn v (xC x ρ w K) (xC y ρ w K)
  |none=>bNo
 | .block id c,ρ,w,K=>xC c ρ w λe ρ' w'=>match e with
  | .normal=>K .normal ρ' w'
  | .exit id'=>bif Nat.beq id' id then K .normal ρ' w' else K (.exit id') ρ' w'
  | .ret=>K .ret ρ' w'
 | .loop c,ρ,w,_=>xCut Q (lookC N.loop c) ρ w bNo
 | .exit id,ρ,w,K=>K (.exit id) ρ w
 | .ret,ρ,w,K=>K .ret ρ w
 |_,_,_,_=>bNo
noncomputable def xR(ρ:Env)(w:World):List ResultVar->(List Value->Bx)->Bx
 | [],K=>K []
 | .tmp t::rs,K=>match ρ t with|some v=>xR ρ w rs λvs=>K (v::vs)|none=>bNo
 | .cell a t::rs,K=>match ρ a with|some x=>bWp (gi P t x w) λv=>xR ρ w rs λvs=>K (v::vs)|none=>bNo
noncomputable def xT:List It->Ex->Env->World->Bx
 | [],e,ρ,w=>match e with
  | .exit _=>bNo
  |_=>xR P ρ w res λvs=>bQ Q (retv vs) w
 | .jn y::t,e,ρ,w=>match e with
  | .normal=>xCut Q (lookC N.join y) ρ w (xC P ent N n Q y ρ w (xT t))
  | .exit id=>xT t (.exit id) ρ w
  | .ret=>xT t .ret ρ w
 | .eK id::t,e,ρ,w=>match e with
  | .normal=>xT t .normal ρ w
  | .exit id'=>bif Nat.beq id' id then xT t .normal ρ w else xT t (.exit id') ρ w
  | .ret=>xT t .ret ρ w
 | .lp c::t,e,ρ,w=>match e with
  | .normal=>xCut Q (lookC N.loop c) ρ w bNo
  | .exit id=>xT t (.exit id) ρ w
  | .ret=>xT t .ret ρ w
end
end Go.Proofs.YtnpflajdbchghaaGreat.Ev
namespace Go.Proofs.YtnpflajdbchghaaGreat
open Tryz(f127 f38 prog underlying3)
open Go Ev
theorem mixed:Tryz.prog.follows .mixedOrders=true:=Checked.mixed Tryz.checked
theorem entOk:EntOk prog (qh 3 233):=entOk_of dE
section
noncomputable def fx(N:Nm)(f:Func)(l:List Value)(w:World)(Q:QQ):Bx:=xC prog (qh 3 233) N f.ntmps Q (cb f) (nq 0 l) w (xT prog (qh 3 233) N f.ntmps f.results.toList Q [])
noncomputable def mq(N:Nm)(f:Func)(T:List It)(ks:List Nat)(xs:List Value)(w:World)(Q:QQ):Bx:=match T with
 | .lp c::t=>xC prog (qh 3 233) N f.ntmps Q c (unpack ks xs) w (xT prog (qh 3 233) N f.ntmps f.results.toList Q (.lp c::t))
 |_=>bNo
noncomputable def fQ(N:Nm)(f:Func)(T:List It)(ks:List Nat)(xs:List Value)(w:World)(Q:QQ):Bx:=match T with
 | .jn c::t=>xC prog (qh 3 233) N f.ntmps Q c (unpack ks xs) w (xT prog (qh 3 233) N f.ntmps f.results.toList Q t)
 |_=>bNo
theorem cF{fn:Func}{N:Nm}{f:FuncId}{c:Code}{l:List Value}{w:World}{Q:QQ}{L:Prop}(a:Tryz.prog.funcs[f]? =some fn)(hb:fn.body=some c)(b:Nat.ble l.length fn.ntmps=true)
  (e:gR prog (qh 3 233) f fn.ntmps N.h Q c [] (nq 0 l) w (iZ prog (qh 3 233) f fn.ntmps N.h fn.results.toList Q [])=L) (h:L):aa prog f l w Q:=
 call_ofE mixed entOk a hb N.h (Nat.le_of_ble_eq_true b) e h
theorem cG{fn:Func}{f:FuncId}{c:Code}{l:List Value}{w:World}{Q:QQ}{L:Prop}(N:Nm)(a:Tryz.prog.funcs[f]? =some fn)(h:L)(hb:fn.body=some c:=by exact rfl)(b:Nat.ble l.length fn.ntmps=true:=by kernel_rfl)
  (e:gR prog (qh 3 233) f fn.ntmps N.h Q c [] (nq 0 l) w (iZ prog (qh 3 233) f fn.ntmps N.h fn.results.toList Q [])=L:=by kernel_rfl):aa prog f l w Q:=cF a hb b e h
theorem pL{fn:Func}{f:FuncId}{c:Code}{t:List It}{ao:List Nat}{xs:List Value}{w:World}{Q:QQ}{L:Prop}(N:Nm)(a:Tryz.prog.funcs[f]? =some fn)(h:L)
  (e:gR prog (qh 3 233) f fn.ntmps N.h Q c (.lp c::t) (unpack ao xs) w (iZ prog (qh 3 233) f fn.ntmps N.h fn.results.toList Q (.lp c::t))=L:=by kernel_rfl):Part prog f (.lp c::t) ao xs w Q:=part_lpE mixed entOk a N.h e h
theorem pJ{fn:Func}{f:FuncId}{c:Code}{t:List It}{ao:List Nat}{xs:List Value}{w:World}{Q:QQ}{L:Prop}(N:Nm)(a:Tryz.prog.funcs[f]? =some fn)(h:L)
  (e:gR prog (qh 3 233) f fn.ntmps N.h Q c t (unpack ao xs) w (iZ prog (qh 3 233) f fn.ntmps N.h fn.results.toList Q t)=L:=by kernel_rfl):Part prog f (.jn c::t) ao xs w Q:=part_jnE mixed entOk a N.h e h
end
section
variable(D:Nat->Prop)(a0 a1 a2 a3 a4 a5 a6 x0 x1 x2 x3 x4 x5 x6 x7 x8 x9 eU gq oD x13 x14 x15 x16 x17 x18 x19 x20 x21 x22 x23 x24 x25 x26 x27 x28 x29 x30 x31 x32 x33 x34 x35 x36 x37 x38 x39 x40 x41 x42 x43 x44 x45 x46 x47 x48 x49 x50 x51 x52 x53 x54 x55 x56 x57 x58 x59 x60 x61 x62 x63 x64 x65 x66 x67 x68 x69 x70 x71 x72 x73 x74 x75 x76 x77 x78 x79 x80 x81 x82 x83 x84 x85 x86 x87 x88 x89 x90 x91 x92 x93 x94 x95 x96 x97 x98 x99 x100 x101 x102 x103 x104 x105 x106 x107 x108 x109 x110 x111 x112 x113 x114 x115 x116 x117:Value)(w:World)(Q:QQ)
def H8:Nm:=⟨[], [], [(7,(.ext [0,1,3,2,4,5,6,8,9,10,7,11,12,13,14]))]⟩
def C11:Code:=cb Tryz.f11
def T11_0:List It:= [.jn (aX [1,1,1] C11)]
def P11_0:Prop:=Part prog 11 T11_0 [5] [x5] w Q
def H11:Nm:=⟨[], [(4, [5],u1 P11_0)], []⟩
def H15:Nm:=⟨[], [], []⟩
def H16:Nm:=⟨[], [], []⟩
def C17:Code:=cb Tryz.f17
def T17_0:List It:= [.jn (aX [1,1,1,1,0,1,4,1] C17),.eK 0,.jn (aX [1,1,1,1,1] C17)]
def P17_0:Prop:=Part prog 17 T17_0 [0,6,7,8,10,28,29] [x0,x6,x7,x8,eU,x28,x29] w Q
def T17_1:List It:= [.jn (aX [1,1,1,1,0,1,4,1,3,1] C17),.eK 0,.jn (aX [1,1,1,1,1] C17)]
def P17_1:Prop:=Part prog 17 T17_1 [0,6,7,8,10,28,33] [x0,x6,x7,x8,eU,x28,x33] w Q
def T17_2:List It:= [.jn (aX [1,1,1,1,1] C17)]
def P17_2:Prop:=Part prog 17 T17_2 [8,10] [x8,eU] w Q
def T17_3:List It:= [.jn (aX [1,1,1,1,0,1,4,1,3,1,3,1,2,1] C17),.eK 0,.jn (aX [1,1,1,1,1] C17)]
def P17_3:Prop:=Part prog 17 T17_3 [8,10,55] [x8,eU,x55] w Q
def H17:Nm:=⟨[], [(9, [0,6,7,8,10,28,29],u7 P17_0),(12, [0,6,7,8,10,28,33],u7 P17_1),(15, [8,10,55],u3 P17_3),(18, [8,10],u2 P17_2)], [(14,(.ask 8 4 (.leaf [0,2,7,1,3,8,4,5,6,9]) (.leaf (r0 0 10 []))))]⟩
def C18:Code:=cb Tryz.f18
def T18_0:List It:= [.jn (aX [1,1,0,1,1,2,1,1] C18),.jn (aX [1,1,1] C18)]
def P18_0:Prop:=Part prog 18 T18_0 [] [] w Q
def H18:Nm:=⟨[], [(9, [],u0 P18_0)], []⟩
def H19:Nm:=⟨[], [], []⟩
def C21:Code:=cb Tryz.f21
def T21_0:List It:= [.lp (aX [1,1,1,0,1,4,5] C21),.eK 0,.jn (aX [1,1,1,1] C21)]
def P21_0:Prop:=Part prog 21 T21_0 [3,9,10,11] [x3,x9,eU,gq] w Q
def T21_1:List It:= [.jn (aX [1,1,1,0,1,4,5,1,1,0,4,1,1] C21),.eK 1,.jn (aX [1,1,1,0,1,4,5,1,1,1] C21),.lp (aX [1,1,1,0,1,4,5] C21),.eK 0,.jn (aX [1,1,1,1] C21)]
def P21_1:Prop:=Part prog 21 T21_1 [3,4,5,9,10,11] [x3,x4,x5,x9,eU,gq] w Q
def T21_2:List It:= [.jn (aX [1,1,1,0,1,4,5,1,1,1] C21),.lp (aX [1,1,1,0,1,4,5] C21),.eK 0,.jn (aX [1,1,1,1] C21)]
def P21_2:Prop:=Part prog 21 T21_2 [3,9,10,11] [x3,x9,eU,gq] w Q
def H21:Nm:=⟨[(5, [3,9,10,11],u4 P21_0)], [(9, [3,4,5,9,10,11],u6 P21_1),(11, [3,9,10,11],u4 P21_2)], []⟩
def C22:Code:=cb Tryz.f22
def T22_0:List It:= [.lp (aX [1,1,1,0,1,4,5] C22),.eK 0,.jn (aX [1,1,1,1] C22)]
def P22_0:Prop:=Part prog 22 T22_0 [1,6,31,32,33] [x1,x6,x31,x32,x33] w Q
def T22_1:List It:= [.jn (aX [1,1,1,0,1,4,5,1,1,0,4,1,1] C22),.eK 1,.jn (aX [1,1,1,0,1,4,5,1,1,1] C22),.lp (aX [1,1,1,0,1,4,5] C22),.eK 0,.jn (aX [1,1,1,1] C22)]
def P22_1:Prop:=Part prog 22 T22_1 [1,6,9,10,11,31,32,33] [x1,x6,x9,eU,gq,x31,x32,x33] w Q
def T22_2:List It:= [.jn (aX [1,1,1,0,1,4,5,1,1,0,4,1,1,1,1] C22),.eK 1,.jn (aX [1,1,1,0,1,4,5,1,1,1] C22),.lp (aX [1,1,1,0,1,4,5] C22),.eK 0,.jn (aX [1,1,1,1] C22)]
def P22_2:Prop:=Part prog 22 T22_2 [1,6,9,12,31,32,33] [x1,x6,x9,oD,x31,x32,x33] w Q
def H22:Nm:=⟨[(5, [1,6,31,32,33],u5 P22_0)], [(8, [1,6,9,10,11,31,32,33],u8 P22_1),(12, [1,6,9,12,31,32,33],u7 P22_2)], [(7,(.ask 9 10 (.ask 9 8 (.ask 10 8 (.ext [0,1,5,6,2,3,4,7,9,10,8,11,12]) (.ext [0,1,5,6,2,3,4,7,9,8,10,11,12])) (.ext (0::1::5::6::2::3::4::(r0 7 6 [])))) (.ask 10 8 (.ask 9 8 (.ext [0,1,5,6,2,3,4,7,10,9,8,11,12]) (.ext [0,1,5,6,2,3,4,7,10,8,9,11,12])) (.ext [0,1,5,6,2,3,4,7,8,10,9,11,12]))))]⟩
def C23:Code:=cb Tryz.f23
def T23_0:List It:= [.jn (aX [1,1] C23)]
def P23_0:Prop:=Part prog 23 T23_0 [1,2,5,6] [x1,x2,x5,x6] w Q
def T23_1:List It:= [.lp (aX [1,1,1,1,1,1,1,1,0,1,4,5] C23),.eK 0,.jn (aX [1,1,1,1,1,1,1,1,1] C23)]
def P23_1:Prop:=Part prog 23 T23_1 [1,9,10,11] [x1,x9,eU,gq] w Q
def T23_2:List It:= [.lp (aX [1,1,1,1,1,1,1,1,1,0,1,4,5] C23),.eK 2,.jn (aX [1,1,1,1,1,1,1,1,1,1] C23)]
def P23_2:Prop:=Part prog 23 T23_2 [1,12] [x1,oD] w Q
def H23:Nm:=⟨[(12, [1,9,10,11],u4 P23_1),(17, [1,12],u2 P23_2)], [(2, [1,2,5,6],u4 P23_0)], [(1,(.ask 0 2 (.leaf (r0 0 9 [])) (.leaf (1::2::0::(r0 3 6 []))))),(14,(.leaf (r0 0 37 [])))]⟩
def C24:Code:=cb Tryz.f24
def T24_0:List It:= [.jn (aX [1,1,1,1,1,1] C24)]
def P24_0:Prop:=Part prog 24 T24_0 [7] [x7] w Q
def H24:Nm:=⟨[], [(28, [7],u1 P24_0)], [(27,(.leaf (r0 0 20 [])))]⟩
def H32:Nm:=⟨[], [], []⟩
def C33:Code:=cb Tryz.f33
def T33_0:List It:= [.lp (aX [1,0,1,4,5] C33),.eK 0,.jn (aX [1,1] C33)]
def P33_0:Prop:=Part prog 33 T33_0 [0,6,7,8] [x0,x6,x7,x8] w Q
def T33_1:List It:= [.lp (aX [1,0,1,4,5,1,1,0,4,1,1,1,4,5] C33),.eK 2,.eK 1,.jn (aX [1,0,1,4,5,1,1,1] C33),.lp (aX [1,0,1,4,5] C33),.eK 0,.jn (aX [1,1] C33)]
def P33_1:Prop:=Part prog 33 T33_1 [0,4,6,7,8,31,32] [x0,x4,x6,x7,x8,x31,x32] w Q
def H33:Nm:=⟨[(2, [0,6,7,8],u4 P33_0),(7, [0,4,6,7,8,31,32],u7 P33_1)], [], [(4,(.leaf (r0 0 18 []))),(9,(.leaf (r0 0 35 [])))]⟩
def H35:Nm:=⟨[], [], [(3,(.ask 3 6 (.leaf (1::4::0::2::5::3::(r0 6 5 []))) (.leaf [1,4,0,2,5,6,3,7,8,9,10])))]⟩
def C36:Code:=cb Tryz.f36
def T36_0:List It:= [.lp (aX [1,1,1,0,1,4,5] C36),.eK 0,.jn (aX [1,1,1,1] C36)]
def P36_0:Prop:=Part prog 36 T36_0 [0,1,4,5,18,19,20] [x0,x1,x4,x5,x18,x19,x20] w Q
def H36:Nm:=⟨[(5, [0,1,4,5,18,19,20],u7 P36_0)], [], [(7,(.leaf (r0 0 38 [])))]⟩
def H37:Nm:=⟨[], [], []⟩
def C38:Code:=cb f38
def T38_0:List It:= [.jn (aX [1,1,1] C38)]
def P38_0:Prop:=Part prog 38 T38_0 [0,6,7,10,11] [x0,x6,x7,eU,gq] w Q
def T38_1:List It:= [.jn (aX [1,1,1,1,1,1] C38)]
def P38_1:Prop:=Part prog 38 T38_1 [0,6,7,10,12,13] [x0,x6,x7,eU,oD,x13] w Q
def T38_2:List It:= [.jn (aX [1,1,1,1,1,1,1] C38)]
def P38_2:Prop:=Part prog 38 T38_2 [] [] w Q
def T38_3:List It:= [.jn (aX [1,1,1,1,1,1,0,1,4,1,3,1,3,1,3,1,3,1] C38),.eK 0,.jn (aX [1,1,1,1,1,1,1] C38)]
def P38_3:Prop:=Part prog 38 T38_3 [6,7,12,13,45,94] [x6,x7,oD,x13,x45,x94] w Q
def T38_4:List It:= [.jn (aX [1,1,1,1,1,1,0,1,4,1,3,1,3,1,3,1,3,1,3,1] C38),.eK 0,.jn (aX [1,1,1,1,1,1,1] C38)]
def P38_4:Prop:=Part prog 38 T38_4 [13,108] [x13,x108] w Q
def H38:Nm:=⟨[], [(5, [0,6,7,10,11],u5 P38_0),(9, [0,6,7,10,12,13],u6 P38_1),(31, [6,7,12,13,45,94],u6 P38_3),(37, [13,108],u2 P38_4),(38, [],u0 P38_2)], [(4,(.ask 3 7 (.ask 8 7 (.leaf [0,1,2,4,3,5,6,8,7,9,10]) (.leaf (r0 0 11 []))) (.ask 8 7 (.leaf [0,1,2,4,6,8,7,3,5,9,10]) (.leaf [0,1,2,4,6,7,3,5,8,9,10])))),(5,(.leaf (r0 0 7 []))),(11,(.leaf (r0 0 13 [])))]⟩
def H39:Nm:=⟨[], [], [(2,(.ask 3 10 (.ask 14 10 (.leaf [0,1,2,4,5,6,8,13,15,3,7,9,14,16,10,11,12,17,18]) (.leaf (r0 0 19 []))) (.ask 14 10 (.leaf [0,1,2,4,5,6,8,13,15,7,9,14,16,10,3,11,12,17,18]) (.leaf [0,1,2,4,5,6,8,13,15,7,9,10,3,11,12,14,16,17,18]))))]⟩
def C40:Code:=cb Tryz.f40
def T40_0:List It:= [.lp (aX [1,0,1,4,5] C40),.eK 0,.jn (aX [1,1] C40)]
def P40_0:Prop:=Part prog 40 T40_0 [0,3,10,11] [x0,x3,eU,gq] w Q
def H40:Nm:=⟨[(2, [0,3,10,11],u4 P40_0)], [], [(4,(.leaf (r0 0 10 [])))]⟩
def H41:Nm:=⟨[], [], []⟩
def C42:Code:=cb Tryz.f42
def T42_0:List It:= [.jn (aX [1,1] C42)]
def P42_0:Prop:=Part prog 42 T42_0 [0,6,7,8,9] [x0,x6,x7,x8,x9] w Q
def H42:Nm:=⟨[], [(2, [0,6,7,8,9],u5 P42_0)], [(1,(.ask 3 7 (.ask 8 7 (.leaf [0,1,2,4,3,5,6,8,7,9,10]) (.leaf (r0 0 11 []))) (.ask 8 7 (.leaf [0,1,2,4,6,8,7,3,5,9,10]) (.leaf [0,1,2,4,6,7,3,5,8,9,10])))),(10,(.leaf (r0 0 7 []))),(11,(.leaf (r0 0 11 []))),(13,(.ask 6 4 (.leaf [0,2,5,1,3,6,4,7,8]) (.leaf (r0 0 9 [])))),(15,(.ask 8 4 (.leaf [0,2,7,1,3,8,4,5,6,9,10,11]) (.leaf (r0 0 12 [])))),(18,(.leaf (r0 0 6 []))),(21,(.leaf (r0 0 9 []))),(23,(.leaf (r0 0 9 [])))]⟩
def C43:Code:=cb Tryz.f43
def T43_0:List It:= [.jn (aX [1,1,1,1,1] C43)]
def P43_0:Prop:=Part prog 43 T43_0 [0,1,5,7] [x0,x1,x5,x7] w Q
def T43_1:List It:= [.jn (aX [1,1,1,1,1,1,1,1] C43)]
def P43_1:Prop:=Part prog 43 T43_1 [] [] w Q
def H43:Nm:=⟨[], [(9, [0,1,5,7],u4 P43_0),(13, [],u0 P43_1)], [(3,(.leaf (r0 0 19 []))),(6,(.leaf (r0 0 11 []))),(11,(.leaf (r0 0 11 []))),(12,(.ask 4 7 (.leaf (r0 0 15 [])) (.leaf (0::1::2::3::5::8::6::7::9::4::(r0 10 5 [])))))]⟩
def C44:Code:=cb Tryz.f44
def T44_0:List It:= [.jn (aX [1,1,1,1,1,1] C44)]
def P44_0:Prop:=Part prog 44 T44_0 [0,7,9,10,11,12] [x0,x7,x9,eU,gq,oD] w Q
def T44_1:List It:= [.jn (aX [1,1,1,1,1,1,1,1] C44)]
def P44_1:Prop:=Part prog 44 T44_1 [9,11] [x9,gq] w Q
def H44:Nm:=⟨[], [(11, [0,7,9,10,11,12],u6 P44_0),(18, [9,11],u2 P44_1)], [(6,(.ask 5 1 (.leaf [0,2,3,4,5,1,6,7,8,9]) (.ask 5 7 (.leaf (r0 0 10 [])) (.leaf [0,2,3,4,1,6,7,5,8,9])))),(9,(.leaf (r0 0 20 []))),(15,(.leaf (r0 0 12 []))),(16,(.leaf (r0 0 16 []))),(18,(.leaf (r0 0 11 [])))]⟩
def H45:Nm:=⟨[], [], []⟩
def H46:Nm:=⟨[], [], []⟩
def H47:Nm:=⟨[], [], []⟩
def H48:Nm:=⟨[], [], []⟩
def C49:Code:=cb Tryz.f49
def T49_0:List It:= [.lp (aX [1,1,1,1,0,1,4,5] C49),.eK 0,.jn (aX [1,1,1,1,1] C49)]
def P49_0:Prop:=Part prog 49 T49_0 [1,6,7,8] [x1,x6,x7,x8] w Q
def H49:Nm:=⟨[(6, [1,6,7,8],u4 P49_0)], [], []⟩
def C50:Code:=cb Tryz.f50
def T50_0:List It:= [.lp (aX [1,0,1,4,5] C50),.eK 0,.jn (aX [1,1] C50)]
def P50_0:Prop:=Part prog 50 T50_0 [0,3] [x0,x3] w Q
def T50_1:List It:= [.lp (aX [1,0,1,4,5,1,0,4,1,1,4,5] C50),.eK 2,.eK 1,.jn (aX [1,0,1,4,5,1,1] C50),.lp (aX [1,0,1,4,5] C50),.eK 0,.jn (aX [1,1] C50)]
def P50_1:Prop:=Part prog 50 T50_1 [0,3,4] [x0,x3,x4] w Q
def H50:Nm:=⟨[(2, [0,3],u2 P50_0),(7, [0,3,4],u3 P50_1)], [], [(4,(.leaf (r0 0 24 []))),(9,(.leaf (r0 0 47 [])))]⟩
def C51:Code:=cb Tryz.f51
def T51_0:List It:= [.lp (aX [1,1,0,1,4,5] C51),.eK 0,.jn (aX [1,1,1] C51)]
def P51_0:Prop:=Part prog 51 T51_0 [0,3,4] [x0,x3,x4] w Q
def T51_1:List It:= [.jn (aX [1,1,0,1,4,5,1,0,4,1] C51),.eK 1,.jn (aX [1,1,0,1,4,5,1,1] C51),.lp (aX [1,1,0,1,4,5] C51),.eK 0,.jn (aX [1,1,1] C51)]
def P51_1:Prop:=Part prog 51 T51_1 [0,3,4] [x0,x3,x4] w Q
def T51_2:List It:= [.jn (aX [1,1,0,1,4,5,1,1] C51),.lp (aX [1,1,0,1,4,5] C51),.eK 0,.jn (aX [1,1,1] C51)]
def P51_2:Prop:=Part prog 51 T51_2 [0,3,4] [x0,x3,x4] w Q
def H51:Nm:=⟨[(3, [0,3,4],u3 P51_0)], [(4, [0,3,4],u3 P51_2),(7, [0,3,4],u3 P51_1)], []⟩
def C52:Code:=cb Tryz.f52
def T52_0:List It:= [.lp (aX [1,1,0,1,4,5] C52),.eK 0,.jn (aX [1,1,1] C52)]
def P52_0:Prop:=Part prog 52 T52_0 [0,1,4,5] [x0,x1,x4,x5] w Q
def H52:Nm:=⟨[(4, [0,1,4,5],u4 P52_0)], [], [(7,(.leaf (r0 0 46 [])))]⟩
def H54:Nm:=⟨[], [], []⟩
def H60:Nm:=⟨[], [], [(1,(.ask 4 7 (.ask 4 10 (.ask 4 13 (.ask 7 10 (.ask 7 13 (.ask 10 13 (.leaf [1,2,5,8,11,0,3,6,9,12,4,7,10,13,14,15,16]) (.leaf [1,2,5,8,11,0,3,6,9,12,4,7,13,10,14,15,16])) (.leaf [1,2,5,8,11,0,3,6,9,12,4,13,7,10,14,15,16])) (.ask 10 13 (.ask 7 13 (.leaf [1,2,5,8,11,0,3,6,9,12,4,10,7,13,14,15,16]) (.leaf [1,2,5,8,11,0,3,6,9,12,4,10,13,7,14,15,16])) (.leaf [1,2,5,8,11,0,3,6,9,12,4,13,10,7,14,15,16]))) (.ask 7 10 (.leaf [1,2,5,8,11,0,3,6,9,12,13,4,7,10,14,15,16]) (.leaf [1,2,5,8,11,0,3,6,9,12,13,4,10,7,14,15,16]))) (.ask 10 13 (.ask 4 13 (.ask 7 13 (.leaf [1,2,5,8,11,0,3,6,9,12,10,4,7,13,14,15,16]) (.leaf [1,2,5,8,11,0,3,6,9,12,10,4,13,7,14,15,16])) (.leaf [1,2,5,8,11,0,3,6,9,12,10,13,4,7,14,15,16])) (.leaf [1,2,5,8,11,0,3,6,9,12,13,10,4,7,14,15,16]))) (.ask 7 10 (.ask 7 13 (.ask 4 10 (.ask 4 13 (.ask 10 13 (.leaf [1,2,5,8,11,0,3,6,9,12,7,4,10,13,14,15,16]) (.leaf [1,2,5,8,11,0,3,6,9,12,7,4,13,10,14,15,16])) (.leaf [1,2,5,8,11,0,3,6,9,12,7,13,4,10,14,15,16])) (.ask 10 13 (.ask 4 13 (.leaf [1,2,5,8,11,0,3,6,9,12,7,10,4,13,14,15,16]) (.leaf [1,2,5,8,11,0,3,6,9,12,7,10,13,4,14,15,16])) (.leaf [1,2,5,8,11,0,3,6,9,12,7,13,10,4,14,15,16]))) (.ask 4 10 (.leaf [1,2,5,8,11,0,3,6,9,12,13,7,4,10,14,15,16]) (.leaf [1,2,5,8,11,0,3,6,9,12,13,7,10,4,14,15,16]))) (.ask 10 13 (.ask 7 13 (.ask 4 13 (.leaf [1,2,5,8,11,0,3,6,9,12,10,7,4,13,14,15,16]) (.leaf [1,2,5,8,11,0,3,6,9,12,10,7,13,4,14,15,16])) (.leaf [1,2,5,8,11,0,3,6,9,12,10,13,7,4,14,15,16])) (.leaf [1,2,5,8,11,0,3,6,9,12,13,10,7,4,14,15,16])))))]⟩
def H61:Nm:=⟨[], [], []⟩
def H62:Nm:=⟨[], [], []⟩
def C63:Code:=cb Tryz.f63
def T63_0:List It:= [.lp (aX [1,1,0,1,4,5] C63),.eK 0,.jn (aX [1,1,1] C63)]
def P63_0:Prop:=Part prog 63 T63_0 [5,25,26,27] [x5,x25,x26,x27] w Q
def H63:Nm:=⟨[(3, [5,25,26,27],u4 P63_0)], [], []⟩
def H67:Nm:=⟨[], [], []⟩
def C68:Code:=cb Tryz.f68
def T68_0:List It:= [.jn (aX [1,1,1,1] C68)]
def P68_0:Prop:=Part prog 68 T68_0 [1,3,4,5,6] [x1,x3,x4,x5,x6] w Q
def T68_1:List It:= [.jn (aX [1,1,1,1,1] C68)]
def P68_1:Prop:=Part prog 68 T68_1 [1,3,4,5,6] [x1,x3,x4,x5,x6] w Q
def H68:Nm:=⟨[], [(5, [1,3,4,5,6],u5 P68_0),(9, [1,3,4,5,6],u5 P68_1)], []⟩
def H69:Nm:=⟨[], [], [(6,(.leaf (r0 0 11 [])))]⟩
def H70:Nm:=⟨[], [], []⟩
def H71:Nm:=⟨[], [], [(1,(.leaf (r0 0 19 [])))]⟩
def C72:Code:=cb Tryz.f72
def T72_0:List It:= [.lp (aX [1,0,1,4,5] C72),.eK 0,.jn (aX [1,1] C72)]
def P72_0:Prop:=Part prog 72 T72_0 [0,1,7,8] [x0,x1,x7,x8] w Q
def H72:Nm:=⟨[(2, [0,1,7,8],u4 P72_0)], [], []⟩
def C73:Code:=cb Tryz.f73
def T73_0:List It:= [.lp (aX [1,1,0,1,4,5] C73),.eK 0,.jn (aX [1,1,1] C73)]
def P73_0:Prop:=Part prog 73 T73_0 [3,9,10,11] [x3,x9,eU,gq] w Q
def T73_1:List It:= [.jn (aX [1,1,0,1,4,5,1,1,1] C73),.lp (aX [1,1,0,1,4,5] C73),.eK 0,.jn (aX [1,1,1] C73)]
def P73_1:Prop:=Part prog 73 T73_1 [3,9,10,11] [x3,x9,eU,gq] w Q
def H73:Nm:=⟨[(3, [3,9,10,11],u4 P73_0)], [(7, [3,9,10,11],u4 P73_1)], []⟩
def H74:Nm:=⟨[], [], []⟩
def H75:Nm:=⟨[], [], []⟩
def H76:Nm:=⟨[], [], []⟩
def H77:Nm:=⟨[], [], [(3,(.leaf (r0 0 13 [])))]⟩
def C78:Code:=cb Tryz.f78
def T78_0:List It:= [.lp (aX [1,0,1,4,5] C78),.eK 0,.jn (aX [1,1] C78)]
def P78_0:Prop:=Part prog 78 T78_0 [0,1,10,11,12] [x0,x1,eU,gq,oD] w Q
def H78:Nm:=⟨[(2, [0,1,10,11,12],u5 P78_0)], [], []⟩
def H79:Nm:=⟨[], [], []⟩
def C80:Code:=cb Tryz.f80
def T80_0:List It:= [.lp (aX [1,1,0,4,5] C80),.eK 0,.jn (aX [1,1,1] C80)]
def P80_0:Prop:=Part prog 80 T80_0 [0,1,2,6,7,8] [x0,x1,x2,x6,x7,x8] w Q
def T80_1:List It:= [.lp (aX [1,1,1,1,4,5] C80),.eK 2]
def P80_1:Prop:=Part prog 80 T80_1 [0,1,2,6] [x0,x1,x2,x6] w Q
def T80_2:List It:= [.lp (aX [1,1,1,1,4,5,1,4,1,0,4,5] C80),.eK 4,.jn (aX [1,1,1,1,4,5,1,4,1,1] C80),.eK 3,.lp (aX [1,1,1,1,4,5] C80),.eK 2]
def P80_2:Prop:=Part prog 80 T80_2 [0,1,2,6,7,8] [x0,x1,x2,x6,x7,x8] w Q
def T80_3:List It:= [.jn (aX [1,1,1,1,4,5,1,4,1,1,1] C80),.eK 3,.lp (aX [1,1,1,1,4,5] C80),.eK 2]
def P80_3:Prop:=Part prog 80 T80_3 [0,1,2,6] [x0,x1,x2,x6] w Q
def H80:Nm:=⟨[(2, [0,1,2,6,7,8],u6 P80_0),(7, [0,1,2,6],u4 P80_1),(9, [0,1,2,6,7,8],u6 P80_2)], [(16, [0,1,2,6],u4 P80_3)], []⟩
def H81:Nm:=⟨[], [], []⟩
def H82:Nm:=⟨[], [], []⟩
def C83:Code:=cb Tryz.f83
def T83_0:List It:= [.jn (aX [1,1,1,0,4,1,2,1,1] C83),.eK 0,.jn (aX [1,1,1,1] C83)]
def P83_0:Prop:=Part prog 83 T83_0 [] [] w Q
def H83:Nm:=⟨[], [(9, [],u0 P83_0)], []⟩
def H84:Nm:=⟨[], [], []⟩
def C85:Code:=cb Tryz.f85
def T85_0:List It:= [.jn (aX [1,1] C85)]
def P85_0:Prop:=Part prog 85 T85_0 [5,6] [x5,x6] w Q
def T85_1:List It:= [.lp (aX [1,1,0,1,4,5] C85),.eK 0,.jn (aX [1,1,1] C85)]
def P85_1:Prop:=Part prog 85 T85_1 [5,6,7] [x5,x6,x7] w Q
def T85_2:List It:= [.lp (aX [1,1,0,1,4,5,1,0,4,1,4,5] C85),.eK 2,.eK 1,.jn (aX [1,1,0,1,4,5,1,1] C85),.lp (aX [1,1,0,1,4,5] C85),.eK 0,.jn (aX [1,1,1] C85)]
def P85_2:Prop:=Part prog 85 T85_2 [5,6,7,8] [x5,x6,x7,x8] w Q
def H85:Nm:=⟨[(3, [5,6,7],u3 P85_1),(6, [5,6,7,8],u4 P85_2)], [(2, [5,6],u2 P85_0)], [(1,(.ask 2 1 (.ask 4 5 (.ask 4 1 (.ask 5 1 (.leaf [0,2,4,5,1,3,6,7]) (.ask 5 3 (.leaf [0,2,4,1,5,3,6,7]) (.leaf [0,2,4,1,3,5,6,7]))) (.ask 4 3 (.ask 5 3 (.leaf [0,2,1,4,5,3,6,7]) (.leaf [0,2,1,4,3,5,6,7])) (.leaf (0::2::1::(r0 3 5 []))))) (.ask 5 1 (.ask 4 1 (.leaf [0,2,5,4,1,3,6,7]) (.ask 4 3 (.leaf [0,2,5,1,4,3,6,7]) (.leaf [0,2,5,1,3,4,6,7]))) (.ask 5 3 (.ask 4 3 (.leaf [0,2,1,5,4,3,6,7]) (.leaf [0,2,1,5,3,4,6,7])) (.leaf [0,2,1,3,5,4,6,7])))) (.ask 4 5 (.ask 4 1 (.ask 5 1 (.leaf [0,4,5,1,2,3,6,7]) (.ask 5 3 (.leaf [0,4,1,2,5,3,6,7]) (.leaf [0,4,1,2,3,5,6,7]))) (.ask 4 3 (.ask 5 3 (.leaf [0,1,2,4,5,3,6,7]) (.leaf [0,1,2,4,3,5,6,7])) (.leaf (r0 0 8 [])))) (.ask 5 1 (.ask 4 1 (.leaf [0,5,4,1,2,3,6,7]) (.ask 4 3 (.leaf [0,5,1,2,4,3,6,7]) (.leaf [0,5,1,2,3,4,6,7]))) (.ask 5 3 (.ask 4 3 (.leaf [0,1,2,5,4,3,6,7]) (.leaf [0,1,2,5,3,4,6,7])) (.leaf [0,1,2,3,5,4,6,7])))))),(8,(.leaf (r0 0 13 [])))]⟩
def H86:Nm:=⟨[], [], []⟩
def C87:Code:=cb Tryz.f87
def T87_0:List It:= [.lp (aX [1,1,0,4,5] C87),.eK 0,.jn (aX [1,1,1] C87)]
def P87_0:Prop:=Part prog 87 T87_0 [0,3,5] [x0,x3,x5] w Q
def H87:Nm:=⟨[(2, [0,3,5],u3 P87_0)], [], [(2,(.leaf (r0 0 14 [])))]⟩
def C88:Code:=cb Tryz.f88
def T88_0:List It:= [.jn (aX [1,0,1,4,1] C88),.eK 0,.jn (aX [1,1] C88)]
def P88_0:Prop:=Part prog 88 T88_0 [3,4] [x3,x4] w Q
def T88_1:List It:= [.jn (aX [1,0,1,4,1,3,1] C88),.eK 0,.jn (aX [1,1] C88)]
def P88_1:Prop:=Part prog 88 T88_1 [3,8] [x3,x8] w Q
def H88:Nm:=⟨[], [(5, [3,4],u2 P88_0),(10, [3,8],u2 P88_1)], []⟩
def H89:Nm:=⟨[], [], []⟩
def C106:Code:=cb Tryz.f106
def T106_0:List It:= [.jn (aX [1,1,1] C106)]
def P106_0:Prop:=Part prog 106 T106_0 [1,3] [x1,x3] w Q
def H106:Nm:=⟨[], [(6, [1,3],u2 P106_0)], []⟩
def C107:Code:=cb Tryz.f107
def T107_0:List It:= [.jn (aX [1,1,1,1] C107)]
def P107_0:Prop:=Part prog 107 T107_0 [0,1,6,7,8,10] [x0,x1,x6,x7,x8,eU] w Q
def T107_1:List It:= [.jn (aX [1,1,1,1,1,1] C107)]
def P107_1:Prop:=Part prog 107 T107_1 [8,11] [x8,gq] w Q
def H107:Nm:=⟨[], [(6, [0,1,6,7,8,10],u6 P107_0),(41, [8,11],u2 P107_1)], [(12,(.leaf (r0 0 14 [])))]⟩
def H109:Nm:=⟨[], [], []⟩
def H119:Nm:=⟨[], [], []⟩
def H120:Nm:=⟨[], [], []⟩
def H121:Nm:=⟨[], [], []⟩
def C122:Code:=cb Tryz.f122
def T122_0:List It:= [.lp (aX [1,0,1,4,5] C122),.eK 0,.jn (aX [1,1] C122)]
def P122_0:Prop:=Part prog 122 T122_0 [0,3,7,8] [x0,x3,x7,x8] w Q
def H122:Nm:=⟨[(2, [0,3,7,8],u4 P122_0)], [], [(4,(.leaf (r0 0 6 [])))]⟩
def H123:Nm:=⟨[], [], []⟩
def H124:Nm:=⟨[], [], []⟩
def H125:Nm:=⟨[], [], []⟩
def C126:Code:=cb Tryz.f126
def T126_0:List It:= [.lp (aX [1,4,5] C126),.eK 0]
def P126_0:Prop:=Part prog 126 T126_0 [0,1,2,3,8] [x0,x1,x2,x3,x8] w Q
def T126_1:List It:= [.lp (aX [1,4,5,1,0,4,1,4,5] C126),.eK 2,.eK 1,.jn (aX [1,4,5,1,1] C126),.lp (aX [1,4,5] C126),.eK 0]
def P126_1:Prop:=Part prog 126 T126_1 [0,1,2,3,8,9] [x0,x1,x2,x3,x8,x9] w Q
def H126:Nm:=⟨[(1, [0,1,2,3,8],u5 P126_0),(4, [0,1,2,3,8,9],u6 P126_1)], [], [(4,(.leaf (r0 0 17 []))),(6,(.leaf (r0 0 18 [])))]⟩
def C127:Code:=cb f127
def T127_0:List It:= [.lp (aX [0,1,2,1,1,0,4,5] C127),.eK 0,.jn (aX [0,1,2,1,1,1] C127),.jn (aX [1] C127)]
def P127_0:Prop:=Part prog 127 T127_0 [0,1,4,10,11] [x0,x1,x4,eU,gq] w Q
def T127_1:List It:= [.lp (aX [1,0,1,2,1,1,0,4,5] C127),.eK 4,.jn (aX [1,0,1,2,1,1,1] C127),.jn (aX [1,1] C127)]
def P127_1:Prop:=Part prog 127 T127_1 [0,2,4,14,15] [x0,x2,x4,x14,x15] w Q
def T127_2:List It:= [.jn (aX [1,1,1,1,1,1] C127)]
def P127_2:Prop:=Part prog 127 T127_2 [0,1,2,3,4,18,19,20,21] [x0,x1,x2,x3,x4,x18,x19,x20,x21] w Q
def T127_3:List It:= [.lp (aX [0,1,2,1,1,1,0,1,4,5] C127),.eK 2,.jn (aX [0,1,2,1,1,1,1] C127),.jn (aX [1] C127)]
def P127_3:Prop:=Part prog 127 T127_3 [0,10,13] [x0,eU,x13] w Q
def T127_4:List It:= [.lp (aX [1,0,1,2,1,1,1,0,1,4,5] C127),.eK 6,.jn (aX [1,0,1,2,1,1,1,1] C127),.jn (aX [1,1] C127)]
def P127_4:Prop:=Part prog 127 T127_4 [0,14,17] [x0,x14,x17] w Q
def T127_5:List It:= [.lp (aX [1,1,1,1,1,1,1,0,4,5] C127),.eK 8,.jn (aX [1,1,1,1,1,1,1,1] C127)]
def P127_5:Prop:=Part prog 127 T127_5 [0,1,2,3,4,18,19,20,21,22] [x0,x1,x2,x3,x4,x18,x19,x20,x21,x22] w Q
def T127_6:List It:= [.jn (aX [1,1,1,1,1,1,1,1,1,1] C127)]
def P127_6:Prop:=Part prog 127 T127_6 [0,1,3,4,18,20,24] [x0,x1,x3,x4,x18,x20,x24] w Q
def T127_7:List It:= [.jn (aX [1,1,1,1,1,1,1,1,1,1,1] C127)]
def P127_7:Prop:=Part prog 127 T127_7 [0,3,4,18,24] [x0,x3,x4,x18,x24] w Q
def H127:Nm:=⟨[(3, [0,1,4,10,11],u5 P127_0),(9, [0,10,13],u3 P127_3),(15, [0,2,4,14,15],u5 P127_1),(21, [0,14,17],u3 P127_4),(33, [0,1,2,3,4,18,19,20,21,22],u10 P127_5)], [(32, [0,1,2,3,4,18,19,20,21],u9 P127_2),(41, [0,1,3,4,18,20,24],u7 P127_6),(43, [0,3,4,18,24],u5 P127_7)], [(5,(.leaf (r0 0 11 []))),(11,(.leaf (r0 0 18 []))),(17,(.leaf (r0 0 12 []))),(23,(.leaf (r0 0 18 []))),(35,(.leaf (r0 0 14 [])))]⟩
def C128:Code:=cb Tryz.f128
def T128_0:List It:= [.jn (aX [1,1,1] C128)]
def P128_0:Prop:=Part prog 128 T128_0 [0,1,6,7,8] [x0,x1,x6,x7,x8] w Q
def T128_1:List It:= [.jn (aX [1,1,1,1,4,1,3,1,3,1,3,1,3,1] C128),.eK 0]
def P128_1:Prop:=Part prog 128 T128_1 [0,6,7,8,117] [x0,x6,x7,x8,x117] w Q
def T128_2:List It:= [.jn (aX [1,1,1,1,4,1,3,1,3,1,3,1,3,1,2,1] C128),.eK 0]
def P128_2:Prop:=Part prog 128 T128_2 [0,6,8,9,10] [x0,x6,x8,x9,eU] w Q
def H128:Nm:=⟨[], [(4, [0,1,6,7,8],u5 P128_0),(22, [0,6,7,8,117],u5 P128_1),(23, [0,6,8,9,10],u5 P128_2)], [(13,(.ask 3 18 (.leaf (r0 0 21 [])) (.leaf [0,1,2,4,5,6,7,9,12,14,8,10,11,13,15,16,17,18,3,19,20]))),(16,(.leaf (r0 0 8 []))),(18,(.leaf (r0 0 8 []))),(22,(.ask 11 9 (.ask 13 9 (.leaf [0,1,2,4,7,10,12,3,5,6,8,11,13,14,9,15,16]) (.leaf [0,1,2,4,7,10,12,3,5,6,8,11,9,15,13,14,16])) (.ask 13 9 (.leaf [0,1,2,4,7,10,12,3,5,6,8,13,9,15,11,14,16]) (.leaf (r0 0 17 []))))),(25,(.leaf (r0 0 16 []))),(27,(.leaf (r0 0 18 []))),(29,(.leaf (r0 0 16 [])))]⟩
def H129:Nm:=⟨[], [], [(9,(.leaf (r0 0 15 []))),(10,(.leaf (r0 0 15 [])))]⟩
def C130:Code:=cb Tryz.f130
def T130_0:List It:= [.jn (aX [1,1,1,1,1,1,1] C130)]
def P130_0:Prop:=Part prog 130 T130_0 [0,7,9,10,11,12] [x0,x7,x9,eU,gq,oD] w Q
def T130_1:List It:= [.jn (aX [1,1,1,1,1,1,1,1,1] C130)]
def P130_1:Prop:=Part prog 130 T130_1 [0,9,11] [x0,x9,gq] w Q
def T130_2:List It:= [.jn (aX [1,1,1,1,1,1,1,1,0,1,3,1,1] C130),.jn (aX [1,1,1,1,1,1,1,1,1] C130)]
def P130_2:Prop:=Part prog 130 T130_2 [0,9,11,12] [x0,x9,gq,oD] w Q
def T130_3:List It:= [.jn (aX [1,1,1,1,1,1,1,1,1,1] C130)]
def P130_3:Prop:=Part prog 130 T130_3 [] [] w Q
def T130_4:List It:= [.jn (aX [1,1,1,1,1,1,1,1,0,1,3,1,1,1] C130),.jn (aX [1,1,1,1,1,1,1,1,1] C130)]
def P130_4:Prop:=Part prog 130 T130_4 [0,9,11,12] [x0,x9,gq,oD] w Q
def H130:Nm:=⟨[], [(9, [0,7,9,10,11,12],u6 P130_0),(16, [0,9,11,12],u4 P130_2),(17, [0,9,11,12],u4 P130_4),(18, [0,9,11],u3 P130_1),(19, [],u0 P130_3)], [(6,(.leaf (r0 0 12 []))),(8,(.ask 23 29 (.ask 27 29 (.leaf (r0 0 32 [])) (.leaf (0::1::2::4::8::9::10::12::20::21::22::24::3::5::6::7::11::(r0 13 7 [28,23,25,26,29,27,30,31])))) (.leaf (0::1::2::4::8::9::10::12::20::21::22::24::3::5::6::7::11::(r0 13 7 [28,29,23,25,26,27,30,31]))))),(12,(.leaf (r0 0 18 []))),(13,(.leaf (r0 0 19 []))),(15,(.ask 3 16 (.leaf (r0 0 20 [])) (.leaf [0,1,2,4,5,6,7,9,13,8,10,11,12,14,15,16,3,17,18,19]))),(16,(.ask 3 20 (.leaf (r0 0 24 [])) (.leaf [0,1,2,4,5,6,7,9,13,14,15,16,8,10,11,12,17,18,19,20,3,21,22,23]))),(17,(.ask 3 11 (.leaf (r0 0 15 [])) (.leaf (0::1::2::(r0 4 5 [10,9,11,3,12,13,14]))))),(18,(.ask 3 15 (.leaf (r0 0 19 [])) (.leaf (0::1::2::4::5::6::7::9::8::(r0 10 6 [3,16,17,18])))))]⟩
def H131:Nm:=⟨[], [], []⟩
def H156:Nm:=⟨[], [], []⟩
def H157:Nm:=⟨[], [], []⟩
def H158:Nm:=⟨[], [], []⟩
def H159:Nm:=⟨[], [], []⟩
def C160:Code:=cb Tryz.f160
def T160_0:List It:= [.lp (aX [1,0,1,4,5] C160),.eK 0,.jn (aX [1,1] C160)]
def P160_0:Prop:=Part prog 160 T160_0 [0,1,2,7] [x0,x1,x2,x7] w Q
def H160:Nm:=⟨[(2, [0,1,2,7],u4 P160_0)], [], []⟩
def C161:Code:=cb Tryz.f161
def T161_0:List It:= [.lp (aX [1,0,1,4,5] C161),.eK 0,.jn (aX [1,1] C161)]
def P161_0:Prop:=Part prog 161 T161_0 [0,1,2,3,9] [x0,x1,x2,x3,x9] w Q
def H161:Nm:=⟨[(2, [0,1,2,3,9],u5 P161_0)], [], []⟩
def C162:Code:=cb Tryz.f162
def T162_0:List It:= [.jn (aX [1,1,1] C162)]
def P162_0:Prop:=Part prog 162 T162_0 [8,10,11] [x8,eU,gq] w Q
def T162_1:List It:= [.jn (aX [1,1,1,0,1,4,1] C162),.eK 1,.jn (aX [1,1,1,1] C162)]
def P162_1:Prop:=Part prog 162 T162_1 [8,10,11,57,58] [x8,eU,gq,x57,x58] w Q
def T162_2:List It:= [.jn (aX [1,1,1,1] C162)]
def P162_2:Prop:=Part prog 162 T162_2 [10] [eU] w Q
def H162:Nm:=⟨[], [(6, [8,10,11],u3 P162_0),(9, [8,10,11,57,58],u5 P162_1),(13, [10],u1 P162_2)], [(5,(.ask 3 17 (.ask 7 17 (.ask 21 17 (.ask 23 17 (.leaf [0,1,2,4,8,9,10,12,15,20,22,3,5,6,7,11,13,14,16,21,23,24,17,18,19,25,26,27]) (.leaf (0::1::2::4::8::9::10::12::15::20::22::3::5::6::7::11::13::14::16::21::17::18::19::(r0 23 5 [])))) (.ask 23 17 (.leaf [0,1,2,4,8,9,10,12,15,20,22,3,5,6,7,11,13,14,16,23,17,18,19,21,24,25,26,27]) (.leaf (r0 0 28 [])))) (.ask 21 17 (.ask 23 17 (.leaf [0,1,2,4,8,9,10,12,15,20,22,3,5,6,11,13,14,16,21,23,24,17,7,18,19,25,26,27]) (.leaf (0::1::2::4::8::9::10::12::15::20::22::3::5::6::11::13::14::16::21::17::7::18::19::(r0 23 5 [])))) (.ask 23 17 (.leaf [0,1,2,4,8,9,10,12,15,20,22,3,5,6,11,13,14,16,23,17,7,18,19,21,24,25,26,27]) (.leaf (0::1::2::4::8::9::10::12::15::20::22::3::5::6::11::13::14::16::17::7::18::19::21::(r0 23 5 [])))))) (.ask 21 17 (.ask 23 17 (.leaf [0,1,2,4,8,9,10,12,15,20,22,11,13,14,16,21,23,24,17,3,5,6,7,18,19,25,26,27]) (.leaf (0::1::2::4::8::9::10::12::15::20::22::11::13::14::16::21::17::3::5::6::7::18::19::(r0 23 5 [])))) (.ask 23 17 (.leaf [0,1,2,4,8,9,10,12,15,20,22,11,13,14,16,23,17,3,5,6,7,18,19,21,24,25,26,27]) (.leaf (0::1::2::4::8::9::10::12::15::20::22::11::13::14::16::17::3::5::6::7::18::19::21::(r0 23 5 [])))))))]⟩
def C163:Code:=cb Tryz.f163
def T163_0:List It:= [.lp (aX [1,0,1,4,5] C163),.eK 0,.jn (aX [1,1] C163)]
def P163_0:Prop:=Part prog 163 T163_0 [0,3,7,8] [x0,x3,x7,x8] w Q
def H163:Nm:=⟨[(2, [0,3,7,8],u4 P163_0)], [], [(4,(.leaf (r0 0 6 [])))]⟩
def C164:Code:=cb Tryz.f164
def T164_0:List It:= [.lp (aX [1,1,0,4,5] C164),.eK 0,.jn (aX [1,1,1] C164)]
def P164_0:Prop:=Part prog 164 T164_0 [0,2,4,10,11] [x0,x2,x4,eU,gq] w Q
def H164:Nm:=⟨[(2, [0,2,4,10,11],u5 P164_0)], [], []⟩
def C165:Code:=cb Tryz.f165
def T165_0:List It:= [.lp (aX [1,0,1,4,5] C165),.eK 0,.jn (aX [1,1] C165)]
def P165_0:Prop:=Part prog 165 T165_0 [1,2,5] [x1,x2,x5] w Q
def H165:Nm:=⟨[(2, [1,2,5],u3 P165_0)], [], []⟩
def C166:Code:=cb Tryz.f166
def T166_0:List It:= [.lp (aX [1,1,0,1,4,5] C166),.eK 0,.jn (aX [1,1,1] C166)]
def P166_0:Prop:=Part prog 166 T166_0 [0,3,4] [x0,x3,x4] w Q
def T166_1:List It:= [.jn (aX [1,1,0,1,4,5,1,1] C166),.lp (aX [1,1,0,1,4,5] C166),.eK 0,.jn (aX [1,1,1] C166)]
def P166_1:Prop:=Part prog 166 T166_1 [0,3,4] [x0,x3,x4] w Q
def H166:Nm:=⟨[(3, [0,3,4],u3 P166_0)], [(4, [0,3,4],u3 P166_1)], []⟩
def H167:Nm:=⟨[], [], []⟩
def H168:Nm:=⟨[], [], [(2,(.ask 9 15 (.ask 11 15 (.leaf (r0 0 19 [])) (.leaf (r0 0 9 [10,12,14,9,13,15,11,16,17,18]))) (.ask 11 15 (.leaf (r0 0 9 [10,12,14,11,13,15,9,16,17,18])) (.leaf (r0 0 9 [10,12,14,13,15,9,11,16,17,18])))))]⟩
def C169:Code:=cb Tryz.f169
def T169_0:List It:= [.lp (aX [1,1,1,0,1,4,5] C169),.eK 0,.jn (aX [1,1,1,1] C169)]
def P169_0:Prop:=Part prog 169 T169_0 [0,1,5,6] [x0,x1,x5,x6] w Q
def T169_1:List It:= [.lp (aX [1,1,1,1,0,4,5] C169),.eK 2,.jn (aX [1,1,1,1,1] C169)]
def P169_1:Prop:=Part prog 169 T169_1 [1,5] [x1,x5] w Q
def H169:Nm:=⟨[(5, [0,1,5,6],u4 P169_0),(8, [1,5],u2 P169_1)], [], []⟩
def C170:Code:=cb Tryz.f170
def T170_0:List It:= [.lp (aX [1,0,1,4,5] C170),.eK 0,.jn (aX [1,1] C170)]
def P170_0:Prop:=Part prog 170 T170_0 [0,1,5] [x0,x1,x5] w Q
def H170:Nm:=⟨[(2, [0,1,5],u3 P170_0)], [], []⟩
def H171:Nm:=⟨[], [], []⟩
def C206:Code:=cb Tryz.f206
def T206_0:List It:= [.lp (aX [1,1,1,1,0,1,4,5] C206),.eK 0,.jn (aX [1,1,1,1,1] C206)]
def P206_0:Prop:=Part prog 206 T206_0 [0,3,6,7,8] [x0,x3,x6,x7,x8] w Q
def H206:Nm:=⟨[(6, [0,3,6,7,8],u5 P206_0)], [], [(8,(.leaf (r0 0 13 [])))]⟩
def C207:Code:=cb Tryz.f207
def T207_0:List It:= [.lp (aX [1,4,5] C207),.eK 0]
def P207_0:Prop:=Part prog 207 T207_0 [0,1,2,3,10] [x0,x1,x2,x3,eU] w Q
def H207:Nm:=⟨[(1, [0,1,2,3,10],u5 P207_0)], [], [(3,(.leaf (r0 0 24 [])))]⟩
def H208:Nm:=⟨[], [], []⟩
def H209:Nm:=⟨[], [], []⟩
def H210:Nm:=⟨[], [], []⟩
end
section
attribute [local irreducible] prog qh Part P11_0 P17_0 P17_1 P17_2 P17_3 P18_0 P21_0 P21_1 P21_2 P22_0 P22_1 P22_2 P23_0 P23_1 P23_2 P24_0 P33_0 P33_1 P36_0 P38_0 P38_1 P38_2 P38_3 P38_4 P40_0 P42_0 P43_0 P43_1 P44_0 P44_1 P49_0 P50_0 P50_1 P51_0 P51_1 P51_2 P52_0 P63_0 P68_0 P68_1 P72_0 P73_0 P73_1 P78_0 P80_0 P80_1 P80_2 P80_3 P83_0 P85_0 P85_1 P85_2 P87_0 P88_0 P88_1 P106_0 P107_0 P107_1 P122_0 P126_0 P126_1 P127_0 P127_1 P127_2 P127_3 P127_4 P127_5 P127_6 P127_7 P128_0 P128_1 P128_2 P130_0 P130_1 P130_2 P130_3 P130_4 P160_0 P161_0 P162_0 P162_1 P162_2 P163_0 P164_0 P165_0 P166_0 P166_1 P169_0 P169_1 P170_0 P206_0 P207_0
attribute [local irreducible] mV ai bp be gi cP ck aa CallX CallD rdD rdG gv gd gE gU qV nilv cnd World.drew undef nl
attribute [local irreducible] Instr.box Instr.alloc Instr.build Instr.buildSlice Instr.storeAt convert Op.unary Instr.makeInterface Instr.makeSlice Instr.sliceAt Instr.fieldAt Instr.field Instr.indexAt Instr.index Instr.typeAssert Instr.extract
attribute [local irreducible] Builtin.len_ Builtin.cap_ Builtin.min_ Builtin.max_ Builtin.append_ Builtin.copy_
theorem rz{b:Bx}{q:Prop}(h:b.p=q:=by conv=>(lhs;conv=>{arg 1;reduce};simp only[zB,mkA,Int.reduceOfNat,Int.reduceNegSucc])):b.p=q:=h
variable(D:Nat->Prop)(a0 a1 a2 a3 a4 a5 a6 x0 x1 x2 x3 x4 x5 x6 x7 x8 x9 eU gq oD x13 x14 x15 x16 x17 x18 x19 x20 x21 x22 x23 x24 x25 x26 x27 x28 x29 x30 x31 x32 x33 x34 x35 x36 x37 x38 x39 x40 x41 x42 x43 x44 x45 x46 x47 x48 x49 x50 x51 x52 x53 x54 x55 x56 x57 x58 x59 x60 x61 x62 x63 x64 x65 x66 x67 x68 x69 x70 x71 x72 x73 x74 x75 x76 x77 x78 x79 x80 x81 x82 x83 x84 x85 x86 x87 x88 x89 x90 x91 x92 x93 x94 x95 x96 x97 x98 x99 x100 x101 x102 x103 x104 x105 x106 x107 x108 x109 x110 x111 x112 x113 x114 x115 x116 x117:Value)(w:World)(Q:QQ)
def F8:Prop:=(λp (_:(fx H8 Tryz.f8 [a0,a1,a2,a3,a4] w Q).p=p)=>p) _ rz
def F11:Prop:=(λp (_:(fx H11 Tryz.f11 [a0,a1] w Q).p=p)=>p) _ rz
def L11_0:Prop:=(λp (_:(fQ H11 Tryz.f11 T11_0 [5] [x5] w Q).p=p)=>p) _ rz
def F15:Prop:=(λp (_:(fx H15 Tryz.f15 [a0,a1] w Q).p=p)=>p) _ rz
def F16:Prop:=(λp (_:(fx H16 Tryz.f16 [a0,a1] w Q).p=p)=>p) _ rz
def F17:Prop:=(λp (_:(fx H17 Tryz.f17 [a0,a1,a2,a3] w Q).p=p)=>p) _ rz
def L17_0:Prop:=(λp (_:(fQ H17 Tryz.f17 T17_0 [0,6,7,8,10,28,29] [x0,x6,x7,x8,eU,x28,x29] w Q).p=p)=>p) _ rz
def L17_1:Prop:=(λp (_:(fQ H17 Tryz.f17 T17_1 [0,6,7,8,10,28,33] [x0,x6,x7,x8,eU,x28,x33] w Q).p=p)=>p) _ rz
def L17_2:Prop:=(λp (_:(fQ H17 Tryz.f17 T17_2 [8,10] [x8,eU] w Q).p=p)=>p) _ rz
def L17_3:Prop:=(λp (_:(fQ H17 Tryz.f17 T17_3 [8,10,55] [x8,eU,x55] w Q).p=p)=>p) _ rz
def F18:Prop:=(λp (_:(fx H18 Tryz.f18 [a0,a1,a2,a3,a4] w Q).p=p)=>p) _ rz
def L18_0:Prop:=(λp (_:(fQ H18 Tryz.f18 T18_0 [] [] w Q).p=p)=>p) _ rz
def F19:Prop:=(λp (_:(fx H19 Tryz.f19 [] w Q).p=p)=>p) _ rz
def F21:Prop:=(λp (_:(fx H21 Tryz.f21 [a0] w Q).p=p)=>p) _ rz
def L21_0:Prop:=(λp (_:(mq H21 Tryz.f21 T21_0 [3,9,10,11] [x3,x9,eU,gq] w Q).p=p)=>p) _ rz
def L21_1:Prop:=(λp (_:(fQ H21 Tryz.f21 T21_1 [3,4,5,9,10,11] [x3,x4,x5,x9,eU,gq] w Q).p=p)=>p) _ rz
def L21_2:Prop:=(λp (_:(fQ H21 Tryz.f21 T21_2 [3,9,10,11] [x3,x9,eU,gq] w Q).p=p)=>p) _ rz
def F22:Prop:=(λp (_:(fx H22 Tryz.f22 [a0,a1] w Q).p=p)=>p) _ rz
def L22_0:Prop:=(λp (_:(mq H22 Tryz.f22 T22_0 [1,6,31,32,33] [x1,x6,x31,x32,x33] w Q).p=p)=>p) _ rz
def L22_1:Prop:=(λp (_:(fQ H22 Tryz.f22 T22_1 [1,6,9,10,11,31,32,33] [x1,x6,x9,eU,gq,x31,x32,x33] w Q).p=p)=>p) _ rz
def L22_2:Prop:=(λp (_:(fQ H22 Tryz.f22 T22_2 [1,6,9,12,31,32,33] [x1,x6,x9,oD,x31,x32,x33] w Q).p=p)=>p) _ rz
def F23:Prop:=(λp (_:(fx H23 Tryz.f23 [a0,a1] w Q).p=p)=>p) _ rz
def L23_0:Prop:=(λp (_:(fQ H23 Tryz.f23 T23_0 [1,2,5,6] [x1,x2,x5,x6] w Q).p=p)=>p) _ rz
def L23_1:Prop:=(λp (_:(mq H23 Tryz.f23 T23_1 [1,9,10,11] [x1,x9,eU,gq] w Q).p=p)=>p) _ rz
def L23_2:Prop:=(λp (_:(mq H23 Tryz.f23 T23_2 [1,12] [x1,oD] w Q).p=p)=>p) _ rz
def F24:Prop:=(λp (_:(fx H24 Tryz.f24 [a0,a1,a2] w Q).p=p)=>p) _ rz
def L24_0:Prop:=(λp (_:(fQ H24 Tryz.f24 T24_0 [7] [x7] w Q).p=p)=>p) _ rz
def F32:Prop:=(λp (_:(fx H32 Tryz.f32 [a0] w Q).p=p)=>p) _ rz
def F33:Prop:=(λp (_:(fx H33 Tryz.f33 [a0] w Q).p=p)=>p) _ rz
def L33_0:Prop:=(λp (_:(mq H33 Tryz.f33 T33_0 [0,6,7,8] [x0,x6,x7,x8] w Q).p=p)=>p) _ rz
def L33_1:Prop:=(λp (_:(mq H33 Tryz.f33 T33_1 [0,4,6,7,8,31,32] [x0,x4,x6,x7,x8,x31,x32] w Q).p=p)=>p) _ rz
def F35:Prop:=(λp (_:(fx H35 Tryz.f35 [a0] w Q).p=p)=>p) _ rz
def F36:Prop:=(λp (_:(fx H36 Tryz.f36 [a0,a1] w Q).p=p)=>p) _ rz
def L36_0:Prop:=(λp (_:(mq H36 Tryz.f36 T36_0 [0,1,4,5,18,19,20] [x0,x1,x4,x5,x18,x19,x20] w Q).p=p)=>p) _ rz
def F37:Prop:=(λp (_:(fx H37 Tryz.f37 [a0,a1,a2] w Q).p=p)=>p) _ rz
def F38:Prop:=(λp (_:(fx H38 f38 [a0,a1,a2,a3] w Q).p=p)=>p) _ rz
def L38_0:Prop:=(λp (_:(fQ H38 f38 T38_0 [0,6,7,10,11] [x0,x6,x7,eU,gq] w Q).p=p)=>p) _ rz
def L38_1:Prop:=(λp (_:(fQ H38 f38 T38_1 [0,6,7,10,12,13] [x0,x6,x7,eU,oD,x13] w Q).p=p)=>p) _ rz
def L38_2:Prop:=(λp (_:(fQ H38 f38 T38_2 [] [] w Q).p=p)=>p) _ rz
def L38_3:Prop:=(λp (_:(fQ H38 f38 T38_3 [6,7,12,13,45,94] [x6,x7,oD,x13,x45,x94] w Q).p=p)=>p) _ rz
def L38_4:Prop:=(λp (_:(fQ H38 f38 T38_4 [13,108] [x13,x108] w Q).p=p)=>p) _ rz
def F39:Prop:=(λp (_:(fx H39 Tryz.f39 [a0,a1,a2] w Q).p=p)=>p) _ rz
def F40:Prop:=(λp (_:(fx H40 Tryz.f40 [a0,a1] w Q).p=p)=>p) _ rz
def L40_0:Prop:=(λp (_:(mq H40 Tryz.f40 T40_0 [0,3,10,11] [x0,x3,eU,gq] w Q).p=p)=>p) _ rz
def F41:Prop:=(λp (_:(fx H41 Tryz.f41 [a0] w Q).p=p)=>p) _ rz
def F42:Prop:=(λp (_:(fx H42 Tryz.f42 [a0,a1,a2,a3] w Q).p=p)=>p) _ rz
def L42_0:Prop:=(λp (_:(fQ H42 Tryz.f42 T42_0 [0,6,7,8,9] [x0,x6,x7,x8,x9] w Q).p=p)=>p) _ rz
def F43:Prop:=(λp (_:(fx H43 Tryz.f43 [a0,a1,a2] w Q).p=p)=>p) _ rz
def L43_0:Prop:=(λp (_:(fQ H43 Tryz.f43 T43_0 [0,1,5,7] [x0,x1,x5,x7] w Q).p=p)=>p) _ rz
def L43_1:Prop:=(λp (_:(fQ H43 Tryz.f43 T43_1 [] [] w Q).p=p)=>p) _ rz
def F44:Prop:=(λp (_:(fx H44 Tryz.f44 [a0,a1,a2,a3] w Q).p=p)=>p) _ rz
def L44_0:Prop:=(λp (_:(fQ H44 Tryz.f44 T44_0 [0,7,9,10,11,12] [x0,x7,x9,eU,gq,oD] w Q).p=p)=>p) _ rz
def L44_1:Prop:=(λp (_:(fQ H44 Tryz.f44 T44_1 [9,11] [x9,gq] w Q).p=p)=>p) _ rz
def F45:Prop:=(λp (_:(fx H45 Tryz.f45 [a0,a1] w Q).p=p)=>p) _ rz
def F46:Prop:=(λp (_:(fx H46 Tryz.f46 [a0,a1] w Q).p=p)=>p) _ rz
def F47:Prop:=(λp (_:(fx H47 Tryz.f47 [a0,a1] w Q).p=p)=>p) _ rz
def F48:Prop:=(λp (_:(fx H48 Tryz.f48 [a0,a1] w Q).p=p)=>p) _ rz
def F49:Prop:=(λp (_:(fx H49 Tryz.f49 [a0,a1] w Q).p=p)=>p) _ rz
def L49_0:Prop:=(λp (_:(mq H49 Tryz.f49 T49_0 [1,6,7,8] [x1,x6,x7,x8] w Q).p=p)=>p) _ rz
def F50:Prop:=(λp (_:(fx H50 Tryz.f50 [a0] w Q).p=p)=>p) _ rz
def L50_0:Prop:=(λp (_:(mq H50 Tryz.f50 T50_0 [0,3] [x0,x3] w Q).p=p)=>p) _ rz
def L50_1:Prop:=(λp (_:(mq H50 Tryz.f50 T50_1 [0,3,4] [x0,x3,x4] w Q).p=p)=>p) _ rz
def F51:Prop:=(λp (_:(fx H51 Tryz.f51 [a0] w Q).p=p)=>p) _ rz
def L51_0:Prop:=(λp (_:(mq H51 Tryz.f51 T51_0 [0,3,4] [x0,x3,x4] w Q).p=p)=>p) _ rz
def L51_1:Prop:=(λp (_:(fQ H51 Tryz.f51 T51_1 [0,3,4] [x0,x3,x4] w Q).p=p)=>p) _ rz
def L51_2:Prop:=(λp (_:(fQ H51 Tryz.f51 T51_2 [0,3,4] [x0,x3,x4] w Q).p=p)=>p) _ rz
def F52:Prop:=(λp (_:(fx H52 Tryz.f52 [a0,a1] w Q).p=p)=>p) _ rz
def L52_0:Prop:=(λp (_:(mq H52 Tryz.f52 T52_0 [0,1,4,5] [x0,x1,x4,x5] w Q).p=p)=>p) _ rz
def F54:Prop:=(λp (_:(fx H54 Tryz.f54 [a0] w Q).p=p)=>p) _ rz
def F60:Prop:=(λp (_:(fx H60 Tryz.f60 [a0,a1] w Q).p=p)=>p) _ rz
def F61:Prop:=(λp (_:(fx H61 Tryz.f61 [a0,a1,a2] w Q).p=p)=>p) _ rz
def F62:Prop:=(λp (_:(fx H62 Tryz.f62 [a0] w Q).p=p)=>p) _ rz
def F63:Prop:=(λp (_:(fx H63 Tryz.f63 [a0,a1] w Q).p=p)=>p) _ rz
def L63_0:Prop:=(λp (_:(mq H63 Tryz.f63 T63_0 [5,25,26,27] [x5,x25,x26,x27] w Q).p=p)=>p) _ rz
def F67:Prop:=(λp (_:(fx H67 Tryz.f67 [a0] w Q).p=p)=>p) _ rz
def F68:Prop:=(λp (_:(fx H68 Tryz.f68 [a0] w Q).p=p)=>p) _ rz
def L68_0:Prop:=(λp (_:(fQ H68 Tryz.f68 T68_0 [1,3,4,5,6] [x1,x3,x4,x5,x6] w Q).p=p)=>p) _ rz
def L68_1:Prop:=(λp (_:(fQ H68 Tryz.f68 T68_1 [1,3,4,5,6] [x1,x3,x4,x5,x6] w Q).p=p)=>p) _ rz
def F69:Prop:=(λp (_:(fx H69 Tryz.f69 [a0,a1,a2] w Q).p=p)=>p) _ rz
def F70:Prop:=(λp (_:(fx H70 Tryz.f70 [a0,a1] w Q).p=p)=>p) _ rz
def F71:Prop:=(λp (_:(fx H71 Tryz.f71 [a0,a1] w Q).p=p)=>p) _ rz
def F72:Prop:=(λp (_:(fx H72 Tryz.f72 [a0,a1] w Q).p=p)=>p) _ rz
def L72_0:Prop:=(λp (_:(mq H72 Tryz.f72 T72_0 [0,1,7,8] [x0,x1,x7,x8] w Q).p=p)=>p) _ rz
def F73:Prop:=(λp (_:(fx H73 Tryz.f73 [a0] w Q).p=p)=>p) _ rz
def L73_0:Prop:=(λp (_:(mq H73 Tryz.f73 T73_0 [3,9,10,11] [x3,x9,eU,gq] w Q).p=p)=>p) _ rz
def L73_1:Prop:=(λp (_:(fQ H73 Tryz.f73 T73_1 [3,9,10,11] [x3,x9,eU,gq] w Q).p=p)=>p) _ rz
def F74:Prop:=(λp (_:(fx H74 Tryz.f74 [a0,a1] w Q).p=p)=>p) _ rz
def F75:Prop:=(λp (_:(fx H75 Tryz.f75 [a0,a1] w Q).p=p)=>p) _ rz
def F76:Prop:=(λp (_:(fx H76 Tryz.f76 [a0,a1,a2] w Q).p=p)=>p) _ rz
def F77:Prop:=(λp (_:(fx H77 Tryz.f77 [a0] w Q).p=p)=>p) _ rz
def F78:Prop:=(λp (_:(fx H78 Tryz.f78 [a0,a1] w Q).p=p)=>p) _ rz
def L78_0:Prop:=(λp (_:(mq H78 Tryz.f78 T78_0 [0,1,10,11,12] [x0,x1,eU,gq,oD] w Q).p=p)=>p) _ rz
def F79:Prop:=(λp (_:(fx H79 Tryz.f79 [a0,a1] w Q).p=p)=>p) _ rz
def F80:Prop:=(λp (_:(fx H80 Tryz.f80 [a0,a1,a2] w Q).p=p)=>p) _ rz
def L80_0:Prop:=(λp (_:(mq H80 Tryz.f80 T80_0 [0,1,2,6,7,8] [x0,x1,x2,x6,x7,x8] w Q).p=p)=>p) _ rz
def L80_1:Prop:=(λp (_:(mq H80 Tryz.f80 T80_1 [0,1,2,6] [x0,x1,x2,x6] w Q).p=p)=>p) _ rz
def L80_2:Prop:=(λp (_:(mq H80 Tryz.f80 T80_2 [0,1,2,6,7,8] [x0,x1,x2,x6,x7,x8] w Q).p=p)=>p) _ rz
def L80_3:Prop:=(λp (_:(fQ H80 Tryz.f80 T80_3 [0,1,2,6] [x0,x1,x2,x6] w Q).p=p)=>p) _ rz
def F81:Prop:=(λp (_:(fx H81 Tryz.f81 [a0] w Q).p=p)=>p) _ rz
def F82:Prop:=(λp (_:(fx H82 Tryz.f82 [a0,a1] w Q).p=p)=>p) _ rz
def F83:Prop:=(λp (_:(fx H83 Tryz.f83 [a0,a1,a2,a3,a4] w Q).p=p)=>p) _ rz
def L83_0:Prop:=(λp (_:(fQ H83 Tryz.f83 T83_0 [] [] w Q).p=p)=>p) _ rz
def F84:Prop:=(λp (_:(fx H84 Tryz.f84 [a0] w Q).p=p)=>p) _ rz
def F85:Prop:=(λp (_:(fx H85 Tryz.f85 [a0,a1] w Q).p=p)=>p) _ rz
def L85_0:Prop:=(λp (_:(fQ H85 Tryz.f85 T85_0 [5,6] [x5,x6] w Q).p=p)=>p) _ rz
def L85_1:Prop:=(λp (_:(mq H85 Tryz.f85 T85_1 [5,6,7] [x5,x6,x7] w Q).p=p)=>p) _ rz
def L85_2:Prop:=(λp (_:(mq H85 Tryz.f85 T85_2 [5,6,7,8] [x5,x6,x7,x8] w Q).p=p)=>p) _ rz
def F86:Prop:=(λp (_:(fx H86 Tryz.f86 [a0,a1] w Q).p=p)=>p) _ rz
def F87:Prop:=(λp (_:(fx H87 Tryz.f87 [a0,a1] w Q).p=p)=>p) _ rz
def L87_0:Prop:=(λp (_:(mq H87 Tryz.f87 T87_0 [0,3,5] [x0,x3,x5] w Q).p=p)=>p) _ rz
def F88:Prop:=(λp (_:(fx H88 Tryz.f88 [a0] w Q).p=p)=>p) _ rz
def L88_0:Prop:=(λp (_:(fQ H88 Tryz.f88 T88_0 [3,4] [x3,x4] w Q).p=p)=>p) _ rz
def L88_1:Prop:=(λp (_:(fQ H88 Tryz.f88 T88_1 [3,8] [x3,x8] w Q).p=p)=>p) _ rz
def F89:Prop:=(λp (_:(fx H89 Tryz.f89 [a0,a1,a2] w Q).p=p)=>p) _ rz
def F106:Prop:=(λp (_:(fx H106 Tryz.f106 [a0] w Q).p=p)=>p) _ rz
def L106_0:Prop:=(λp (_:(fQ H106 Tryz.f106 T106_0 [1,3] [x1,x3] w Q).p=p)=>p) _ rz
def F107:Prop:=(λp (_:(fx H107 Tryz.f107 [a0,a1,a2,a3] w Q).p=p)=>p) _ rz
def L107_0:Prop:=(λp (_:(fQ H107 Tryz.f107 T107_0 [0,1,6,7,8,10] [x0,x1,x6,x7,x8,eU] w Q).p=p)=>p) _ rz
def L107_1:Prop:=(λp (_:(fQ H107 Tryz.f107 T107_1 [8,11] [x8,gq] w Q).p=p)=>p) _ rz
def F109:Prop:=(λp (_:(fx H109 Tryz.f109 [a0,a1] w Q).p=p)=>p) _ rz
def F119:Prop:=(λp (_:(fx H119 Tryz.f119 [a0] w Q).p=p)=>p) _ rz
def F120:Prop:=(λp (_:(fx H120 Tryz.f120 [a0,a1] w Q).p=p)=>p) _ rz
def F121:Prop:=(λp (_:(fx H121 Tryz.f121 [a0,a1] w Q).p=p)=>p) _ rz
def F122:Prop:=(λp (_:(fx H122 Tryz.f122 [a0,a1] w Q).p=p)=>p) _ rz
def L122_0:Prop:=(λp (_:(mq H122 Tryz.f122 T122_0 [0,3,7,8] [x0,x3,x7,x8] w Q).p=p)=>p) _ rz
def F123:Prop:=(λp (_:(fx H123 Tryz.f123 [a0,a1,a2] w Q).p=p)=>p) _ rz
def F124:Prop:=(λp (_:(fx H124 Tryz.f124 [a0,a1] w Q).p=p)=>p) _ rz
def F125:Prop:=(λp (_:(fx H125 Tryz.f125 [a0,a1] w Q).p=p)=>p) _ rz
def F126:Prop:=(λp (_:(fx H126 Tryz.f126 [a0,a1,a2,a3] w Q).p=p)=>p) _ rz
def L126_0:Prop:=(λp (_:(mq H126 Tryz.f126 T126_0 [0,1,2,3,8] [x0,x1,x2,x3,x8] w Q).p=p)=>p) _ rz
def L126_1:Prop:=(λp (_:(mq H126 Tryz.f126 T126_1 [0,1,2,3,8,9] [x0,x1,x2,x3,x8,x9] w Q).p=p)=>p) _ rz
def F127:Prop:=(λp (_:(fx H127 f127 [a0,a1,a2,a3,a4] w Q).p=p)=>p) _ rz
def L127_0:Prop:=(λp (_:(mq H127 f127 T127_0 [0,1,4,10,11] [x0,x1,x4,eU,gq] w Q).p=p)=>p) _ rz
def L127_1:Prop:=(λp (_:(mq H127 f127 T127_1 [0,2,4,14,15] [x0,x2,x4,x14,x15] w Q).p=p)=>p) _ rz
def L127_2:Prop:=(λp (_:(fQ H127 f127 T127_2 [0,1,2,3,4,18,19,20,21] [x0,x1,x2,x3,x4,x18,x19,x20,x21] w Q).p=p)=>p) _ rz
def L127_3:Prop:=(λp (_:(mq H127 f127 T127_3 [0,10,13] [x0,eU,x13] w Q).p=p)=>p) _ rz
def L127_4:Prop:=(λp (_:(mq H127 f127 T127_4 [0,14,17] [x0,x14,x17] w Q).p=p)=>p) _ rz
def L127_5:Prop:=(λp (_:(mq H127 f127 T127_5 [0,1,2,3,4,18,19,20,21,22] [x0,x1,x2,x3,x4,x18,x19,x20,x21,x22] w Q).p=p)=>p) _ rz
def L127_6:Prop:=(λp (_:(fQ H127 f127 T127_6 [0,1,3,4,18,20,24] [x0,x1,x3,x4,x18,x20,x24] w Q).p=p)=>p) _ rz
def L127_7:Prop:=(λp (_:(fQ H127 f127 T127_7 [0,3,4,18,24] [x0,x3,x4,x18,x24] w Q).p=p)=>p) _ rz
def F128:Prop:=(λp (_:(fx H128 Tryz.f128 [a0,a1,a2,a3] w Q).p=p)=>p) _ rz
def L128_0:Prop:=(λp (_:(fQ H128 Tryz.f128 T128_0 [0,1,6,7,8] [x0,x1,x6,x7,x8] w Q).p=p)=>p) _ rz
def L128_1:Prop:=(λp (_:(fQ H128 Tryz.f128 T128_1 [0,6,7,8,117] [x0,x6,x7,x8,x117] w Q).p=p)=>p) _ rz
def L128_2:Prop:=(λp (_:(fQ H128 Tryz.f128 T128_2 [0,6,8,9,10] [x0,x6,x8,x9,eU] w Q).p=p)=>p) _ rz
def F129:Prop:=(λp (_:(fx H129 Tryz.f129 [a0,a1,a2] w Q).p=p)=>p) _ rz
def F130:Prop:=(λp (_:(fx H130 Tryz.f130 [a0,a1,a2,a3] w Q).p=p)=>p) _ rz
def L130_0:Prop:=(λp (_:(fQ H130 Tryz.f130 T130_0 [0,7,9,10,11,12] [x0,x7,x9,eU,gq,oD] w Q).p=p)=>p) _ rz
def L130_1:Prop:=(λp (_:(fQ H130 Tryz.f130 T130_1 [0,9,11] [x0,x9,gq] w Q).p=p)=>p) _ rz
def L130_2:Prop:=(λp (_:(fQ H130 Tryz.f130 T130_2 [0,9,11,12] [x0,x9,gq,oD] w Q).p=p)=>p) _ rz
def L130_3:Prop:=(λp (_:(fQ H130 Tryz.f130 T130_3 [] [] w Q).p=p)=>p) _ rz
def L130_4:Prop:=(λp (_:(fQ H130 Tryz.f130 T130_4 [0,9,11,12] [x0,x9,gq,oD] w Q).p=p)=>p) _ rz
def F131:Prop:=(λp (_:(fx H131 Tryz.f131 [a0] w Q).p=p)=>p) _ rz
def F156:Prop:=(λp (_:(fx H156 Tryz.f156 [a0] w Q).p=p)=>p) _ rz
def F157:Prop:=(λp (_:(fx H157 Tryz.f157 [a0,a1,a2] w Q).p=p)=>p) _ rz
def F158:Prop:=(λp (_:(fx H158 Tryz.f158 [a0] w Q).p=p)=>p) _ rz
def F159:Prop:=(λp (_:(fx H159 Tryz.f159 [a0,a1,a2] w Q).p=p)=>p) _ rz
def F160:Prop:=(λp (_:(fx H160 Tryz.f160 [a0,a1,a2] w Q).p=p)=>p) _ rz
def L160_0:Prop:=(λp (_:(mq H160 Tryz.f160 T160_0 [0,1,2,7] [x0,x1,x2,x7] w Q).p=p)=>p) _ rz
def F161:Prop:=(λp (_:(fx H161 Tryz.f161 [a0,a1,a2,a3] w Q).p=p)=>p) _ rz
def L161_0:Prop:=(λp (_:(mq H161 Tryz.f161 T161_0 [0,1,2,3,9] [x0,x1,x2,x3,x9] w Q).p=p)=>p) _ rz
def F162:Prop:=(λp (_:(fx H162 Tryz.f162 [a0,a1,a2,a3,a4] w Q).p=p)=>p) _ rz
def L162_0:Prop:=(λp (_:(fQ H162 Tryz.f162 T162_0 [8,10,11] [x8,eU,gq] w Q).p=p)=>p) _ rz
def L162_1:Prop:=(λp (_:(fQ H162 Tryz.f162 T162_1 [8,10,11,57,58] [x8,eU,gq,x57,x58] w Q).p=p)=>p) _ rz
def L162_2:Prop:=(λp (_:(fQ H162 Tryz.f162 T162_2 [10] [eU] w Q).p=p)=>p) _ rz
def F163:Prop:=(λp (_:(fx H163 Tryz.f163 [a0,a1] w Q).p=p)=>p) _ rz
def L163_0:Prop:=(λp (_:(mq H163 Tryz.f163 T163_0 [0,3,7,8] [x0,x3,x7,x8] w Q).p=p)=>p) _ rz
def F164:Prop:=(λp (_:(fx H164 Tryz.f164 [a0,a1,a2,a3,a4] w Q).p=p)=>p) _ rz
def L164_0:Prop:=(λp (_:(mq H164 Tryz.f164 T164_0 [0,2,4,10,11] [x0,x2,x4,eU,gq] w Q).p=p)=>p) _ rz
def F165:Prop:=(λp (_:(fx H165 Tryz.f165 [a0,a1] w Q).p=p)=>p) _ rz
def L165_0:Prop:=(λp (_:(mq H165 Tryz.f165 T165_0 [1,2,5] [x1,x2,x5] w Q).p=p)=>p) _ rz
def F166:Prop:=(λp (_:(fx H166 Tryz.f166 [a0] w Q).p=p)=>p) _ rz
def L166_0:Prop:=(λp (_:(mq H166 Tryz.f166 T166_0 [0,3,4] [x0,x3,x4] w Q).p=p)=>p) _ rz
def L166_1:Prop:=(λp (_:(fQ H166 Tryz.f166 T166_1 [0,3,4] [x0,x3,x4] w Q).p=p)=>p) _ rz
def F167:Prop:=(λp (_:(fx H167 Tryz.f167 [a0] w Q).p=p)=>p) _ rz
def F168:Prop:=(λp (_:(fx H168 Tryz.f168 [a0,a1,a2] w Q).p=p)=>p) _ rz
def F169:Prop:=(λp (_:(fx H169 Tryz.f169 [a0,a1] w Q).p=p)=>p) _ rz
def L169_0:Prop:=(λp (_:(mq H169 Tryz.f169 T169_0 [0,1,5,6] [x0,x1,x5,x6] w Q).p=p)=>p) _ rz
def L169_1:Prop:=(λp (_:(mq H169 Tryz.f169 T169_1 [1,5] [x1,x5] w Q).p=p)=>p) _ rz
def F170:Prop:=(λp (_:(fx H170 Tryz.f170 [a0,a1] w Q).p=p)=>p) _ rz
def L170_0:Prop:=(λp (_:(mq H170 Tryz.f170 T170_0 [0,1,5] [x0,x1,x5] w Q).p=p)=>p) _ rz
def F171:Prop:=(λp (_:(fx H171 Tryz.f171 [a0,a1] w Q).p=p)=>p) _ rz
def F206:Prop:=(λp (_:(fx H206 Tryz.f206 [a0,a1] w Q).p=p)=>p) _ rz
def L206_0:Prop:=(λp (_:(mq H206 Tryz.f206 T206_0 [0,3,6,7,8] [x0,x3,x6,x7,x8] w Q).p=p)=>p) _ rz
def F207:Prop:=(λp (_:(fx H207 Tryz.f207 [a0,a1,a2,a3,a4] w Q).p=p)=>p) _ rz
def L207_0:Prop:=(λp (_:(mq H207 Tryz.f207 T207_0 [0,1,2,3,10] [x0,x1,x2,x3,eU] w Q).p=p)=>p) _ rz
def F208:Prop:=(λp (_:(fx H208 Tryz.f208 [a0,a1,a2] w Q).p=p)=>p) _ rz
def F209:Prop:=(λp (_:(fx H209 Tryz.f209 [a0,a1] w Q).p=p)=>p) _ rz
def F210:Prop:=(λp (_:(fx H210 Tryz.f210 [a0,a1] w Q).p=p)=>p) _ rz
end
section
variable{D:Nat->Prop}{a0 a1 a2 a3 a4 a5 a6 x0 x1 x2 x3 x4 x5 x6 x7 x8 x9 eU gq oD x13 x14 x15 x16 x17 x18 x19 x20 x21 x22 x23 x24 x25 x26 x27 x28 x29 x30 x31 x32 x33 x34 x35 x36 x37 x38 x39 x40 x41 x42 x43 x44 x45 x46 x47 x48 x49 x50 x51 x52 x53 x54 x55 x56 x57 x58 x59 x60 x61 x62 x63 x64 x65 x66 x67 x68 x69 x70 x71 x72 x73 x74 x75 x76 x77 x78 x79 x80 x81 x82 x83 x84 x85 x86 x87 x88 x89 x90 x91 x92 x93 x94 x95 x96 x97 x98 x99 x100 x101 x102 x103 x104 x105 x106 x107 x108 x109 x110 x111 x112 x113 x114 x115 x116 x117:Value}{w:World}{Q:QQ}
theorem F8_ok(h:F8 a0 a1 a2 a3 a4 w Q):aa prog 8 [a0,a1,a2,a3,a4] w Q:=cG H8 Tryz.func8 h
theorem F11_ok(h:F11 a0 a1 w Q):aa prog 11 [a0,a1] w Q:=cG H11 Tryz.func11 h
theorem L11_0_ok(h:L11_0 x5 w Q):P11_0 x5 w Q:=pJ H11 Tryz.func11 h
theorem F15_ok(h:F15 a0 a1 w Q):aa prog 15 [a0,a1] w Q:=cG H15 Tryz.func15 h
theorem F16_ok(h:F16 a0 a1 w Q):aa prog 16 [a0,a1] w Q:=cG H16 Tryz.func16 h
theorem F17_ok(h:F17 a0 a1 a2 a3 w Q):aa prog 17 [a0,a1,a2,a3] w Q:=cG H17 Tryz.func17 h
theorem L17_0_ok(h:L17_0 x0 x6 x7 x8 eU x28 x29 w Q):P17_0 x0 x6 x7 x8 eU x28 x29 w Q:=pJ H17 Tryz.func17 h
theorem L17_1_ok(h:L17_1 x0 x6 x7 x8 eU x28 x33 w Q):P17_1 x0 x6 x7 x8 eU x28 x33 w Q:=pJ H17 Tryz.func17 h
theorem L17_2_ok(h:L17_2 x8 eU w Q):P17_2 x8 eU w Q:=pJ H17 Tryz.func17 h
theorem L17_3_ok(h:L17_3 x8 eU x55 w Q):P17_3 x8 eU x55 w Q:=pJ H17 Tryz.func17 h
theorem F18_ok(h:F18 a0 a1 a2 a3 a4 w Q):aa prog 18 [a0,a1,a2,a3,a4] w Q:=cG H18 Tryz.func18 h
theorem L18_0_ok(h:L18_0  w Q):P18_0  w Q:=pJ H18 Tryz.func18 h
theorem F19_ok(h:F19  w Q):aa prog 19 [] w Q:=cG H19 Tryz.func19 h
theorem F21_ok(h:F21 a0 w Q):aa prog 21 [a0] w Q:=cG H21 Tryz.func21 h
theorem L21_0_ok(h:L21_0 x3 x9 eU gq w Q):P21_0 x3 x9 eU gq w Q:=pL H21 Tryz.func21 h
theorem L21_1_ok(h:L21_1 x3 x4 x5 x9 eU gq w Q):P21_1 x3 x4 x5 x9 eU gq w Q:=pJ H21 Tryz.func21 h
theorem L21_2_ok(h:L21_2 x3 x9 eU gq w Q):P21_2 x3 x9 eU gq w Q:=pJ H21 Tryz.func21 h
theorem F22_ok(h:F22 a0 a1 w Q):aa prog 22 [a0,a1] w Q:=cG H22 Tryz.func22 h
theorem L22_0_ok(h:L22_0 x1 x6 x31 x32 x33 w Q):P22_0 x1 x6 x31 x32 x33 w Q:=pL H22 Tryz.func22 h
theorem L22_1_ok(h:L22_1 x1 x6 x9 eU gq x31 x32 x33 w Q):P22_1 x1 x6 x9 eU gq x31 x32 x33 w Q:=pJ H22 Tryz.func22 h
theorem L22_2_ok(h:L22_2 x1 x6 x9 oD x31 x32 x33 w Q):P22_2 x1 x6 x9 oD x31 x32 x33 w Q:=pJ H22 Tryz.func22 h
theorem F23_ok(h:F23 a0 a1 w Q):aa prog 23 [a0,a1] w Q:=cG H23 Tryz.func23 h
theorem L23_0_ok(h:L23_0 x1 x2 x5 x6 w Q):P23_0 x1 x2 x5 x6 w Q:=pJ H23 Tryz.func23 h
theorem L23_1_ok(h:L23_1 x1 x9 eU gq w Q):P23_1 x1 x9 eU gq w Q:=pL H23 Tryz.func23 h
theorem L23_2_ok(h:L23_2 x1 oD w Q):P23_2 x1 oD w Q:=pL H23 Tryz.func23 h
theorem F24_ok(h:F24 a0 a1 a2 w Q):aa prog 24 [a0,a1,a2] w Q:=cG H24 Tryz.func24 h
theorem L24_0_ok(h:L24_0 x7 w Q):P24_0 x7 w Q:=pJ H24 Tryz.func24 h
theorem F32_ok(h:F32 a0 w Q):aa prog 32 [a0] w Q:=cG H32 Tryz.func32 h
theorem F33_ok(h:F33 a0 w Q):aa prog 33 [a0] w Q:=cG H33 Tryz.func33 h
theorem L33_0_ok(h:L33_0 x0 x6 x7 x8 w Q):P33_0 x0 x6 x7 x8 w Q:=pL H33 Tryz.func33 h
theorem L33_1_ok(h:L33_1 x0 x4 x6 x7 x8 x31 x32 w Q):P33_1 x0 x4 x6 x7 x8 x31 x32 w Q:=pL H33 Tryz.func33 h
theorem F35_ok(h:F35 a0 w Q):aa prog 35 [a0] w Q:=cG H35 Tryz.func35 h
theorem F36_ok(h:F36 a0 a1 w Q):aa prog 36 [a0,a1] w Q:=cG H36 Tryz.func36 h
theorem L36_0_ok(h:L36_0 x0 x1 x4 x5 x18 x19 x20 w Q):P36_0 x0 x1 x4 x5 x18 x19 x20 w Q:=pL H36 Tryz.func36 h
theorem F37_ok(h:F37 a0 a1 a2 w Q):aa prog 37 [a0,a1,a2] w Q:=cG H37 Tryz.func37 h
theorem F38_ok(h:F38 a0 a1 a2 a3 w Q):aa prog 38 [a0,a1,a2,a3] w Q:=cG H38 Tryz.func38 h
theorem L38_0_ok(h:L38_0 x0 x6 x7 eU gq w Q):P38_0 x0 x6 x7 eU gq w Q:=pJ H38 Tryz.func38 h
theorem L38_1_ok(h:L38_1 x0 x6 x7 eU oD x13 w Q):P38_1 x0 x6 x7 eU oD x13 w Q:=pJ H38 Tryz.func38 h
theorem L38_2_ok(h:L38_2  w Q):P38_2  w Q:=pJ H38 Tryz.func38 h
theorem L38_3_ok(h:L38_3 x6 x7 oD x13 x45 x94 w Q):P38_3 x6 x7 oD x13 x45 x94 w Q:=pJ H38 Tryz.func38 h
theorem L38_4_ok(h:L38_4 x13 x108 w Q):P38_4 x13 x108 w Q:=pJ H38 Tryz.func38 h
theorem F39_ok(h:F39 a0 a1 a2 w Q):aa prog 39 [a0,a1,a2] w Q:=cG H39 Tryz.func39 h
theorem F40_ok(h:F40 a0 a1 w Q):aa prog 40 [a0,a1] w Q:=cG H40 Tryz.func40 h
theorem L40_0_ok(h:L40_0 x0 x3 eU gq w Q):P40_0 x0 x3 eU gq w Q:=pL H40 Tryz.func40 h
theorem F41_ok(h:F41 a0 w Q):aa prog 41 [a0] w Q:=cG H41 Tryz.func41 h
theorem F42_ok(h:F42 a0 a1 a2 a3 w Q):aa prog 42 [a0,a1,a2,a3] w Q:=cG H42 Tryz.func42 h
theorem L42_0_ok(h:L42_0 x0 x6 x7 x8 x9 w Q):P42_0 x0 x6 x7 x8 x9 w Q:=pJ H42 Tryz.func42 h
theorem F43_ok(h:F43 a0 a1 a2 w Q):aa prog 43 [a0,a1,a2] w Q:=cG H43 Tryz.func43 h
theorem L43_0_ok(h:L43_0 x0 x1 x5 x7 w Q):P43_0 x0 x1 x5 x7 w Q:=pJ H43 Tryz.func43 h
theorem L43_1_ok(h:L43_1  w Q):P43_1  w Q:=pJ H43 Tryz.func43 h
theorem F44_ok(h:F44 a0 a1 a2 a3 w Q):aa prog 44 [a0,a1,a2,a3] w Q:=cG H44 Tryz.func44 h
theorem L44_0_ok(h:L44_0 x0 x7 x9 eU gq oD w Q):P44_0 x0 x7 x9 eU gq oD w Q:=pJ H44 Tryz.func44 h
theorem L44_1_ok(h:L44_1 x9 gq w Q):P44_1 x9 gq w Q:=pJ H44 Tryz.func44 h
theorem F45_ok(h:F45 a0 a1 w Q):aa prog 45 [a0,a1] w Q:=cG H45 Tryz.func45 h
theorem F46_ok(h:F46 a0 a1 w Q):aa prog 46 [a0,a1] w Q:=cG H46 Tryz.func46 h
theorem F47_ok(h:F47 a0 a1 w Q):aa prog 47 [a0,a1] w Q:=cG H47 Tryz.func47 h
theorem F48_ok(h:F48 a0 a1 w Q):aa prog 48 [a0,a1] w Q:=cG H48 Tryz.func48 h
theorem F49_ok(h:F49 a0 a1 w Q):aa prog 49 [a0,a1] w Q:=cG H49 Tryz.func49 h
theorem L49_0_ok(h:L49_0 x1 x6 x7 x8 w Q):P49_0 x1 x6 x7 x8 w Q:=pL H49 Tryz.func49 h
theorem F50_ok(h:F50 a0 w Q):aa prog 50 [a0] w Q:=cG H50 Tryz.func50 h
theorem L50_0_ok(h:L50_0 x0 x3 w Q):P50_0 x0 x3 w Q:=pL H50 Tryz.func50 h
theorem L50_1_ok(h:L50_1 x0 x3 x4 w Q):P50_1 x0 x3 x4 w Q:=pL H50 Tryz.func50 h
theorem F51_ok(h:F51 a0 w Q):aa prog 51 [a0] w Q:=cG H51 Tryz.func51 h
theorem L51_0_ok(h:L51_0 x0 x3 x4 w Q):P51_0 x0 x3 x4 w Q:=pL H51 Tryz.func51 h
theorem L51_1_ok(h:L51_1 x0 x3 x4 w Q):P51_1 x0 x3 x4 w Q:=pJ H51 Tryz.func51 h
theorem L51_2_ok(h:L51_2 x0 x3 x4 w Q):P51_2 x0 x3 x4 w Q:=pJ H51 Tryz.func51 h
theorem F52_ok(h:F52 a0 a1 w Q):aa prog 52 [a0,a1] w Q:=cG H52 Tryz.func52 h
theorem L52_0_ok(h:L52_0 x0 x1 x4 x5 w Q):P52_0 x0 x1 x4 x5 w Q:=pL H52 Tryz.func52 h
theorem F54_ok(h:F54 a0 w Q):aa prog 54 [a0] w Q:=cG H54 Tryz.func54 h
theorem F60_ok(h:F60 a0 a1 w Q):aa prog 60 [a0,a1] w Q:=cG H60 Tryz.func60 h
theorem F61_ok(h:F61 a0 a1 a2 w Q):aa prog 61 [a0,a1,a2] w Q:=cG H61 Tryz.func61 h
theorem F62_ok(h:F62 a0 w Q):aa prog 62 [a0] w Q:=cG H62 Tryz.func62 h
theorem F63_ok(h:F63 a0 a1 w Q):aa prog 63 [a0,a1] w Q:=cG H63 Tryz.func63 h
theorem L63_0_ok(h:L63_0 x5 x25 x26 x27 w Q):P63_0 x5 x25 x26 x27 w Q:=pL H63 Tryz.func63 h
theorem F67_ok(h:F67 a0 w Q):aa prog 67 [a0] w Q:=cG H67 Tryz.func67 h
theorem F68_ok(h:F68 a0 w Q):aa prog 68 [a0] w Q:=cG H68 Tryz.func68 h
theorem L68_0_ok(h:L68_0 x1 x3 x4 x5 x6 w Q):P68_0 x1 x3 x4 x5 x6 w Q:=pJ H68 Tryz.func68 h
theorem L68_1_ok(h:L68_1 x1 x3 x4 x5 x6 w Q):P68_1 x1 x3 x4 x5 x6 w Q:=pJ H68 Tryz.func68 h
theorem F69_ok(h:F69 a0 a1 a2 w Q):aa prog 69 [a0,a1,a2] w Q:=cG H69 Tryz.func69 h
theorem F70_ok(h:F70 a0 a1 w Q):aa prog 70 [a0,a1] w Q:=cG H70 Tryz.func70 h
theorem F71_ok(h:F71 a0 a1 w Q):aa prog 71 [a0,a1] w Q:=cG H71 Tryz.func71 h
theorem F72_ok(h:F72 a0 a1 w Q):aa prog 72 [a0,a1] w Q:=cG H72 Tryz.func72 h
theorem L72_0_ok(h:L72_0 x0 x1 x7 x8 w Q):P72_0 x0 x1 x7 x8 w Q:=pL H72 Tryz.func72 h
theorem F73_ok(h:F73 a0 w Q):aa prog 73 [a0] w Q:=cG H73 Tryz.func73 h
theorem L73_0_ok(h:L73_0 x3 x9 eU gq w Q):P73_0 x3 x9 eU gq w Q:=pL H73 Tryz.func73 h
theorem L73_1_ok(h:L73_1 x3 x9 eU gq w Q):P73_1 x3 x9 eU gq w Q:=pJ H73 Tryz.func73 h
theorem F74_ok(h:F74 a0 a1 w Q):aa prog 74 [a0,a1] w Q:=cG H74 Tryz.func74 h
theorem F75_ok(h:F75 a0 a1 w Q):aa prog 75 [a0,a1] w Q:=cG H75 Tryz.func75 h
theorem F76_ok(h:F76 a0 a1 a2 w Q):aa prog 76 [a0,a1,a2] w Q:=cG H76 Tryz.func76 h
theorem F77_ok(h:F77 a0 w Q):aa prog 77 [a0] w Q:=cG H77 Tryz.func77 h
theorem F78_ok(h:F78 a0 a1 w Q):aa prog 78 [a0,a1] w Q:=cG H78 Tryz.func78 h
theorem L78_0_ok(h:L78_0 x0 x1 eU gq oD w Q):P78_0 x0 x1 eU gq oD w Q:=pL H78 Tryz.func78 h
theorem F79_ok(h:F79 a0 a1 w Q):aa prog 79 [a0,a1] w Q:=cG H79 Tryz.func79 h
theorem F80_ok(h:F80 a0 a1 a2 w Q):aa prog 80 [a0,a1,a2] w Q:=cG H80 Tryz.func80 h
theorem L80_0_ok(h:L80_0 x0 x1 x2 x6 x7 x8 w Q):P80_0 x0 x1 x2 x6 x7 x8 w Q:=pL H80 Tryz.func80 h
theorem L80_1_ok(h:L80_1 x0 x1 x2 x6 w Q):P80_1 x0 x1 x2 x6 w Q:=pL H80 Tryz.func80 h
theorem L80_2_ok(h:L80_2 x0 x1 x2 x6 x7 x8 w Q):P80_2 x0 x1 x2 x6 x7 x8 w Q:=pL H80 Tryz.func80 h
theorem L80_3_ok(h:L80_3 x0 x1 x2 x6 w Q):P80_3 x0 x1 x2 x6 w Q:=pJ H80 Tryz.func80 h
theorem F81_ok(h:F81 a0 w Q):aa prog 81 [a0] w Q:=cG H81 Tryz.func81 h
theorem F82_ok(h:F82 a0 a1 w Q):aa prog 82 [a0,a1] w Q:=cG H82 Tryz.func82 h
theorem F83_ok(h:F83 a0 a1 a2 a3 a4 w Q):aa prog 83 [a0,a1,a2,a3,a4] w Q:=cG H83 Tryz.func83 h
theorem L83_0_ok(h:L83_0  w Q):P83_0  w Q:=pJ H83 Tryz.func83 h
theorem F84_ok(h:F84 a0 w Q):aa prog 84 [a0] w Q:=cG H84 Tryz.func84 h
theorem F85_ok(h:F85 a0 a1 w Q):aa prog 85 [a0,a1] w Q:=cG H85 Tryz.func85 h
theorem L85_0_ok(h:L85_0 x5 x6 w Q):P85_0 x5 x6 w Q:=pJ H85 Tryz.func85 h
theorem L85_1_ok(h:L85_1 x5 x6 x7 w Q):P85_1 x5 x6 x7 w Q:=pL H85 Tryz.func85 h
theorem L85_2_ok(h:L85_2 x5 x6 x7 x8 w Q):P85_2 x5 x6 x7 x8 w Q:=pL H85 Tryz.func85 h
theorem F86_ok(h:F86 a0 a1 w Q):aa prog 86 [a0,a1] w Q:=cG H86 Tryz.func86 h
theorem F87_ok(h:F87 a0 a1 w Q):aa prog 87 [a0,a1] w Q:=cG H87 Tryz.func87 h
theorem L87_0_ok(h:L87_0 x0 x3 x5 w Q):P87_0 x0 x3 x5 w Q:=pL H87 Tryz.func87 h
theorem F88_ok(h:F88 a0 w Q):aa prog 88 [a0] w Q:=cG H88 Tryz.func88 h
theorem L88_0_ok(h:L88_0 x3 x4 w Q):P88_0 x3 x4 w Q:=pJ H88 Tryz.func88 h
theorem L88_1_ok(h:L88_1 x3 x8 w Q):P88_1 x3 x8 w Q:=pJ H88 Tryz.func88 h
theorem F89_ok(h:F89 a0 a1 a2 w Q):aa prog 89 [a0,a1,a2] w Q:=cG H89 Tryz.func89 h
theorem F106_ok(h:F106 a0 w Q):aa prog 106 [a0] w Q:=cG H106 Tryz.func106 h
theorem L106_0_ok(h:L106_0 x1 x3 w Q):P106_0 x1 x3 w Q:=pJ H106 Tryz.func106 h
theorem F107_ok(h:F107 a0 a1 a2 a3 w Q):aa prog 107 [a0,a1,a2,a3] w Q:=cG H107 Tryz.func107 h
theorem L107_0_ok(h:L107_0 x0 x1 x6 x7 x8 eU w Q):P107_0 x0 x1 x6 x7 x8 eU w Q:=pJ H107 Tryz.func107 h
theorem L107_1_ok(h:L107_1 x8 gq w Q):P107_1 x8 gq w Q:=pJ H107 Tryz.func107 h
theorem F109_ok(h:F109 a0 a1 w Q):aa prog 109 [a0,a1] w Q:=cG H109 Tryz.func109 h
theorem F119_ok(h:F119 a0 w Q):aa prog 119 [a0] w Q:=cG H119 Tryz.func119 h
theorem F120_ok(h:F120 a0 a1 w Q):aa prog 120 [a0,a1] w Q:=cG H120 Tryz.func120 h
theorem F121_ok(h:F121 a0 a1 w Q):aa prog 121 [a0,a1] w Q:=cG H121 Tryz.func121 h
theorem F122_ok(h:F122 a0 a1 w Q):aa prog 122 [a0,a1] w Q:=cG H122 Tryz.func122 h
theorem L122_0_ok(h:L122_0 x0 x3 x7 x8 w Q):P122_0 x0 x3 x7 x8 w Q:=pL H122 Tryz.func122 h
theorem F123_ok(h:F123 a0 a1 a2 w Q):aa prog 123 [a0,a1,a2] w Q:=cG H123 Tryz.func123 h
theorem F124_ok(h:F124 a0 a1 w Q):aa prog 124 [a0,a1] w Q:=cG H124 Tryz.func124 h
theorem F125_ok(h:F125 a0 a1 w Q):aa prog 125 [a0,a1] w Q:=cG H125 Tryz.func125 h
theorem F126_ok(h:F126 a0 a1 a2 a3 w Q):aa prog 126 [a0,a1,a2,a3] w Q:=cG H126 Tryz.func126 h
theorem L126_0_ok(h:L126_0 x0 x1 x2 x3 x8 w Q):P126_0 x0 x1 x2 x3 x8 w Q:=pL H126 Tryz.func126 h
theorem L126_1_ok(h:L126_1 x0 x1 x2 x3 x8 x9 w Q):P126_1 x0 x1 x2 x3 x8 x9 w Q:=pL H126 Tryz.func126 h
theorem F127_ok(h:F127 a0 a1 a2 a3 a4 w Q):aa prog 127 [a0,a1,a2,a3,a4] w Q:=cG H127 Tryz.func127 h
theorem L127_0_ok(h:L127_0 x0 x1 x4 eU gq w Q):P127_0 x0 x1 x4 eU gq w Q:=pL H127 Tryz.func127 h
theorem L127_1_ok(h:L127_1 x0 x2 x4 x14 x15 w Q):P127_1 x0 x2 x4 x14 x15 w Q:=pL H127 Tryz.func127 h
theorem L127_2_ok(h:L127_2 x0 x1 x2 x3 x4 x18 x19 x20 x21 w Q):P127_2 x0 x1 x2 x3 x4 x18 x19 x20 x21 w Q:=pJ H127 Tryz.func127 h
theorem L127_3_ok(h:L127_3 x0 eU x13 w Q):P127_3 x0 eU x13 w Q:=pL H127 Tryz.func127 h
theorem L127_4_ok(h:L127_4 x0 x14 x17 w Q):P127_4 x0 x14 x17 w Q:=pL H127 Tryz.func127 h
theorem L127_5_ok(h:L127_5 x0 x1 x2 x3 x4 x18 x19 x20 x21 x22 w Q):P127_5 x0 x1 x2 x3 x4 x18 x19 x20 x21 x22 w Q:=pL H127 Tryz.func127 h
theorem L127_6_ok(h:L127_6 x0 x1 x3 x4 x18 x20 x24 w Q):P127_6 x0 x1 x3 x4 x18 x20 x24 w Q:=pJ H127 Tryz.func127 h
theorem L127_7_ok(h:L127_7 x0 x3 x4 x18 x24 w Q):P127_7 x0 x3 x4 x18 x24 w Q:=pJ H127 Tryz.func127 h
theorem F128_ok(h:F128 a0 a1 a2 a3 w Q):aa prog 128 [a0,a1,a2,a3] w Q:=cG H128 Tryz.func128 h
theorem L128_0_ok(h:L128_0 x0 x1 x6 x7 x8 w Q):P128_0 x0 x1 x6 x7 x8 w Q:=pJ H128 Tryz.func128 h
theorem L128_1_ok(h:L128_1 x0 x6 x7 x8 x117 w Q):P128_1 x0 x6 x7 x8 x117 w Q:=pJ H128 Tryz.func128 h
theorem L128_2_ok(h:L128_2 x0 x6 x8 x9 eU w Q):P128_2 x0 x6 x8 x9 eU w Q:=pJ H128 Tryz.func128 h
theorem F129_ok(h:F129 a0 a1 a2 w Q):aa prog 129 [a0,a1,a2] w Q:=cG H129 Tryz.func129 h
theorem F130_ok(h:F130 a0 a1 a2 a3 w Q):aa prog 130 [a0,a1,a2,a3] w Q:=cG H130 Tryz.func130 h
theorem L130_0_ok(h:L130_0 x0 x7 x9 eU gq oD w Q):P130_0 x0 x7 x9 eU gq oD w Q:=pJ H130 Tryz.func130 h
theorem L130_1_ok(h:L130_1 x0 x9 gq w Q):P130_1 x0 x9 gq w Q:=pJ H130 Tryz.func130 h
theorem L130_2_ok(h:L130_2 x0 x9 gq oD w Q):P130_2 x0 x9 gq oD w Q:=pJ H130 Tryz.func130 h
theorem L130_3_ok(h:L130_3  w Q):P130_3  w Q:=pJ H130 Tryz.func130 h
theorem L130_4_ok(h:L130_4 x0 x9 gq oD w Q):P130_4 x0 x9 gq oD w Q:=pJ H130 Tryz.func130 h
theorem F131_ok(h:F131 a0 w Q):aa prog 131 [a0] w Q:=cG H131 Tryz.func131 h
theorem F156_ok(h:F156 a0 w Q):aa prog 156 [a0] w Q:=cG H156 Tryz.func156 h
theorem F157_ok(h:F157 a0 a1 a2 w Q):aa prog 157 [a0,a1,a2] w Q:=cG H157 Tryz.func157 h
theorem F158_ok(h:F158 a0 w Q):aa prog 158 [a0] w Q:=cG H158 Tryz.func158 h
theorem F159_ok(h:F159 a0 a1 a2 w Q):aa prog 159 [a0,a1,a2] w Q:=cG H159 Tryz.func159 h
theorem F160_ok(h:F160 a0 a1 a2 w Q):aa prog 160 [a0,a1,a2] w Q:=cG H160 Tryz.func160 h
theorem L160_0_ok(h:L160_0 x0 x1 x2 x7 w Q):P160_0 x0 x1 x2 x7 w Q:=pL H160 Tryz.func160 h
theorem F161_ok(h:F161 a0 a1 a2 a3 w Q):aa prog 161 [a0,a1,a2,a3] w Q:=cG H161 Tryz.func161 h
theorem L161_0_ok(h:L161_0 x0 x1 x2 x3 x9 w Q):P161_0 x0 x1 x2 x3 x9 w Q:=pL H161 Tryz.func161 h
theorem F162_ok(h:F162 a0 a1 a2 a3 a4 w Q):aa prog 162 [a0,a1,a2,a3,a4] w Q:=cG H162 Tryz.func162 h
theorem L162_0_ok(h:L162_0 x8 eU gq w Q):P162_0 x8 eU gq w Q:=pJ H162 Tryz.func162 h
theorem L162_1_ok(h:L162_1 x8 eU gq x57 x58 w Q):P162_1 x8 eU gq x57 x58 w Q:=pJ H162 Tryz.func162 h
theorem L162_2_ok(h:L162_2 eU w Q):P162_2 eU w Q:=pJ H162 Tryz.func162 h
theorem F163_ok(h:F163 a0 a1 w Q):aa prog 163 [a0,a1] w Q:=cG H163 Tryz.func163 h
theorem L163_0_ok(h:L163_0 x0 x3 x7 x8 w Q):P163_0 x0 x3 x7 x8 w Q:=pL H163 Tryz.func163 h
theorem F164_ok(h:F164 a0 a1 a2 a3 a4 w Q):aa prog 164 [a0,a1,a2,a3,a4] w Q:=cG H164 Tryz.func164 h
theorem L164_0_ok(h:L164_0 x0 x2 x4 eU gq w Q):P164_0 x0 x2 x4 eU gq w Q:=pL H164 Tryz.func164 h
theorem F165_ok(h:F165 a0 a1 w Q):aa prog 165 [a0,a1] w Q:=cG H165 Tryz.func165 h
theorem L165_0_ok(h:L165_0 x1 x2 x5 w Q):P165_0 x1 x2 x5 w Q:=pL H165 Tryz.func165 h
theorem F166_ok(h:F166 a0 w Q):aa prog 166 [a0] w Q:=cG H166 Tryz.func166 h
theorem L166_0_ok(h:L166_0 x0 x3 x4 w Q):P166_0 x0 x3 x4 w Q:=pL H166 Tryz.func166 h
theorem L166_1_ok(h:L166_1 x0 x3 x4 w Q):P166_1 x0 x3 x4 w Q:=pJ H166 Tryz.func166 h
theorem F167_ok(h:F167 a0 w Q):aa prog 167 [a0] w Q:=cG H167 Tryz.func167 h
theorem F168_ok(h:F168 a0 a1 a2 w Q):aa prog 168 [a0,a1,a2] w Q:=cG H168 Tryz.func168 h
theorem F169_ok(h:F169 a0 a1 w Q):aa prog 169 [a0,a1] w Q:=cG H169 Tryz.func169 h
theorem L169_0_ok(h:L169_0 x0 x1 x5 x6 w Q):P169_0 x0 x1 x5 x6 w Q:=pL H169 Tryz.func169 h
theorem L169_1_ok(h:L169_1 x1 x5 w Q):P169_1 x1 x5 w Q:=pL H169 Tryz.func169 h
theorem F170_ok(h:F170 a0 a1 w Q):aa prog 170 [a0,a1] w Q:=cG H170 Tryz.func170 h
theorem L170_0_ok(h:L170_0 x0 x1 x5 w Q):P170_0 x0 x1 x5 w Q:=pL H170 Tryz.func170 h
theorem F171_ok(h:F171 a0 a1 w Q):aa prog 171 [a0,a1] w Q:=cG H171 Tryz.func171 h
theorem F206_ok(h:F206 a0 a1 w Q):aa prog 206 [a0,a1] w Q:=cG H206 Tryz.func206 h
theorem L206_0_ok(h:L206_0 x0 x3 x6 x7 x8 w Q):P206_0 x0 x3 x6 x7 x8 w Q:=pL H206 Tryz.func206 h
theorem F207_ok(h:F207 a0 a1 a2 a3 a4 w Q):aa prog 207 [a0,a1,a2,a3,a4] w Q:=cG H207 Tryz.func207 h
theorem L207_0_ok(h:L207_0 x0 x1 x2 x3 eU w Q):P207_0 x0 x1 x2 x3 eU w Q:=pL H207 Tryz.func207 h
theorem F208_ok(h:F208 a0 a1 a2 w Q):aa prog 208 [a0,a1,a2] w Q:=cG H208 Tryz.func208 h
theorem F209_ok(h:F209 a0 a1 w Q):aa prog 209 [a0,a1] w Q:=cG H209 Tryz.func209 h
theorem F210_ok(h:F210 a0 a1 w Q):aa prog 210 [a0,a1] w Q:=cG H210 Tryz.func210 h
end
open Go.RowKit
def gu(k:Int):Int:=if k=2\/k=10\/k=12 then 1 else if 6<=k/\k<=9 then 2 else if k=5 then 3 else 0
def nB(k:Int):Bool:=decide (k=1\/k=2\/(6<=k/\k<=9))
def vB(k:Int):Bool:=decide (7<=k/\k<=9)
def wB(k:Int):Bool:=decide (k=9)
theorem tJ(k:Int):k=1\/k=2\/k=3\/k=4\/k=5\/k=6\/k=7\/k=8\/k=9\/k=10\/k=11\/k=12\/(k<1\/12<k):=dB
theorem aW{k c:Int}(h:k≠c):(k==c)=false:=by simpa using h
theorem c_Of(k:Int)(w:World):aa prog 88 [bN k] w λv a=>v=bN (gu k)/\a=w:=by
 rcases tJ k with rfl|rfl|rfl|rfl|rfl|rfl|rfl|rfl|rfl|rfl|rfl|rfl|h
 all_goals
  apply F88_ok;try simp[F88]
  try rw[aW (show k≠2 by omega),aW (show k≠10 by omega),aW (show k≠12 by omega)]
  try simp only[bf]
  try apply L88_0_ok
  try simp[L88_0]
  try rw[aW (show k≠6 by omega),aW (show k≠7 by omega),aW (show k≠8 by omega),aW (show k≠9 by omega)]
  try simp only[bf]
  try apply L88_1_ok
  try simp[L88_1]
  try rw[aW (show k≠5 by omega)]
  try simp only[bf]
  try (simp[gu];done)
  try (rw[gu,bV dB,bV dB,bV dB])
theorem c_HasN(k:Int)(w:World):aa prog 156 [bN k] w λv a=>v= .bool (nB k)/\a=w:=by
 apply F156_ok;by_cases b:k=1<;>by_cases c:k=2<;>by_cases d:6<=k<;>by_cases e:k<=9<;>simp[F156,b,c,d,e,aW,nB]<;>omega
theorem c_HasV(k:Int)(w:World):aa prog 158 [bN k] w λv a=>v= .bool (vB k)/\a=w:=by
 apply F158_ok;by_cases b:7<=k<;>by_cases c:k<=9<;>simp[F158,b,c,vB]
def nameK(k:Int):ByteArray:=
 if k=1 then{data:= #[99,114,101,97,116,101]}else if k=2 then{data:= #[97,108,108,111,99]}else if k=3 then{data:= #[112,105,110]}else if k=4 then{data:= #[117,110,112,105,110]}
 else if k=5 then{data:= #[104,111,108,100]}else if k=6 then{data:= #[108,111,97,100]}else if k=7 then{data:= #[115,116,111,114,101]}else if k=8 then{data:= #[97,100,100]}
 else if k=9 then{data:= #[99,97,115]}else if k=10 then{data:= #[102,114,101,101]}else if k=11 then{data:= #[99,111,108,108,101,99,116]}else if k=12 then{data:= #[115,116,97,116,115]}else{data:= #[]}
def mW(k:Int):List Value:= [.string (nameK k),bN (gu k),.bool (nB k),.bool (vB k),.bool (wB k)]
theorem formC_out{k:Int}(h:k<1\/12<k):mW k= [.string {data:= #[]},bN 0,.bool false,.bool false,.bool false]:=by
 have a:nameK k={data:= #[]}:=by
  unfold nameK;rw[bV dB,bV dB,bV dB,bV dB,bV dB,bV dB,bV dB,bV dB,bV dB,bV dB,bV dB,bV dB]
 have b:gu k=0:=by rw[gu,bV dB,bV dB,bV dB]
 have c:nB k=false:=by simp[nB];omega
 have d:vB k=false:=by simp[vB];omega
 have e:wB k=false:=by simp[wB];omega
 rw[mW,a,b,c,d,e]
theorem c_formOf(k:Int)(w:World):aa prog 119 [bN k] w λv b=>v= .agg (mW k).toArray/\ad [] w b:=by
 have hb:∀b:World,b=w->ad [] w b:=λb h=>h▸ad.refl _ _;have a:∀c d e:Array Value,ad [] w (put ((w.alloc (.cells c 193)).alloc (.cells d 193)) w.heap.size e 193):=λc d e=>(((ad.refl [] w).alloc _).alloc _).put (.inr (cy _)) _ _;rcases tJ k with rfl|rfl|rfl|rfl|rfl|rfl|rfl|rfl|rfl|rfl|rfl|rfl|h
 case inr.inr.inr.inr.inr.inr.inr.inr.inr.inr.inr.inr=>
  apply F119_ok;rw[formC_out h];rcases h with h|h
  ·have f:k<1:=h;simp[F119,f,ia_252,ld_193,st_193,a]
  ·have g:¬k<1:=dB;have i:(13:Int)<=k:=dB;simp[F119,g,i,ia_252,ld_193,st_193,a]
 all_goals
  apply F119_ok;simp[F119,ia_252,ld_193,st_193,mW,nameK,gu,nB,vB,wB,a]
theorem c_opOf(k:Int)(w:World):aa prog 67 [bN k] w λv a=>v=bN (gu k)/\ad [] w a:=by
 apply F67_ok;refine(c_formOf k w).mono ?_;rintro v w1 ⟨rfl,b⟩;simp[mW,b]
abbrev eu:=Int×Int×Int×Int×Int×Int
def cI(o:eu):List Value:= [bN o.1,bN o.2.1,bN o.2.2.1,bN o.2.2.2.1,bR o.2.2.2.2.1,bR o.2.2.2.2.2]
theorem qp(o:eu):(cI o).length=6:=rfl
theorem kG(a b:Value):ai prog (Instr.extract (.tuple #[a,b]) 0)=some a:=by rw[pr_extract];rfl
theorem kH(a b:Value):ai prog (Instr.extract (.tuple #[a,b]) 1)=some b:=by rw[pr_extract];rfl
theorem c_within(n m:Int)(w:World):aa prog 120 [bN n,bN m] w λv a=>v= .bool (decide (0<=n/\n<=m))/\a=w:=by
 apply F120_ok;by_cases h:0<=n
 ·have e:decide (0<=n/\n<=m)=decide (n<=m):=by simp[h]
  simp only[F120,zS,h];exact⟨by simp,trivial⟩
 ·simp only[F120,zS,h,false_and,and_self]
theorem c_in18(n a m:Int)(w:World):aa prog 157 [bN n,bN a,bN m] w λv b=>v= .bool (decide (a<=n/\n<=m))/\b=w:=by
 apply F157_ok;by_cases h:a<=n
 ·simp only[F157,zS,h,true_and,and_self]
 ·simp only[F157,zS,h,false_and,and_self]
def frM(k:Int):Int:=if gu k=0 then 0 else 63
def atM(k:Int):Int:=if gu k=0 then 0 else 999
def nM(k:Int):Int:=if k=1 then 3 else if nB k then 65535 else 0
def jR(o:eu):Bool:=decide ((1<=o.1/\o.1<=12)/\(0<=o.2.1/\o.2.1<=frM o.1)/\(0<=o.2.2.1/\o.2.2.1<=atM o.1)/\(0<=o.2.2.2.1/\o.2.2.2.1<=nM o.1)/\(vB o.1=true\/o.2.2.2.2.1=0)/\(wB o.1=true\/o.2.2.2.2.2=0))
theorem aJ(o:eu):(cI o).toArray[0+0]? =some (bN o.1):=rfl
theorem op_1(o:eu):(cI o).toArray[0+1]? =some (bN o.2.1):=rfl
theorem op_2(o:eu):(cI o).toArray[0+2]? =some (bN o.2.2.1):=rfl
theorem lV(o:eu):(cI o).toArray[0+3]? =some (bN o.2.2.2.1):=rfl
theorem pA(o:eu):(cI o).toArray[0+4]? =some (bR o.2.2.2.2.1):=rfl
theorem op_5(o:eu):(cI o).toArray[0+5]? =some (bR o.2.2.2.2.2):=rfl
theorem form_0(k:Int):(mW k).toArray[0+0]? =some (.string (nameK k)):=rfl
theorem form_1(k:Int):(mW k).toArray[0+1]? =some (bN (gu k)):=rfl
theorem form_2(k:Int):(mW k).toArray[0+2]? =some (.bool (nB k)):=rfl
theorem form_3(k:Int):(mW k).toArray[0+3]? =some (.bool (vB k)):=rfl
theorem form_4(k:Int):(mW k).toArray[0+4]? =some (.bool (wB k)):=rfl
theorem name_ne(k:Int):(!((nameK k).toList==(({data:= #[]}:ByteArray)).toList))=decide (1<=k/\k<=12):=by
 have e:(({data:= #[]}:ByteArray)).toList= []:=ByteArray.toList_mk [];rw[e];rcases tJ k with rfl|rfl|rfl|rfl|rfl|rfl|rfl|rfl|rfl|rfl|rfl|rfl|h
 case inr.inr.inr.inr.inr.inr.inr.inr.inr.inr.inr.inr=>
  have:=formC_out h;have b:nameK k={data:= #[]}:=by
   have a:=congrArg (λl:List Value=>l[0]?) this;simp[mW]at a;exact a
  rw[b,e];have:¬(1<=k/\k<=12):=dB;simp[this]
 all_goals decide +kernel
theorem oE(o:eu){b:Bool}(h:((1<=o.1/\o.1<=12)/\(0<=o.2.1/\o.2.1<=frM o.1)/\(0<=o.2.2.1/\o.2.2.1<=atM o.1)/\(0<=o.2.2.2.1/\o.2.2.2.1<=nM o.1)/\(vB o.1=true\/o.2.2.2.2.1=0)/\(wB o.1=true\/o.2.2.2.2.2=0))<->b=true):jR o=b:=by
 unfold jR;cases b
 ·exact bZ λa=>by have:=h.1 a;cases this
 ·exact cr (h.2 rfl)
theorem l_opMay1{w w0:World}(a:ad [] w0 w){o:eu}{m n:Nat}(d:hp w m=some (.cells (cI o).toArray 37))(e:hp w n=some (.cells (mW o.1).toArray 193)):
  P68_1 (bS m) (bS n) (bN (frM o.1)) (bN (atM o.1)) (bN (nM o.1)) w λv r=>v= .bool (jR o)/\ad [] w0 r:=by
 apply L68_1_ok;by_cases k1:1<=o.1/\o.1<=12
 rotate_left
 ·simp only[L68_1,zS,fa_193_0,ld_9,e,form_0,be_neqstr,name_ne,k1];exact⟨by rw[oE o (b:=false) ⟨λh=>absurd h.1 k1,λh=>by cases h⟩],a⟩
 simp only[L68_1,zS,fa_193_0,ld_9,e,form_0,be_neqstr,name_ne,cr k1,iA,ag,d,op_1];refine(c_within _ _ _).step ?_;by_cases k2:0<=o.2.1/\o.2.1<=frM o.1
 rotate_left
 ·simp only[bZ k2,zS];exact⟨by rw[oE o (b:=false) ⟨λh=>absurd h.2.1 k2,λh=>by cases h⟩],a⟩
 simp only[cr k2,zS,iB,ag,d,op_2];refine(c_within _ _ _).step ?_;by_cases j:0<=o.2.2.1/\o.2.2.1<=atM o.1
 rotate_left
 ·simp only[bZ j,zS];exact⟨by rw[oE o (b:=false) ⟨λh=>absurd h.2.2.1 j,λh=>by cases h⟩],a⟩
 simp only[cr j,zS,bc,ag,d,lV];refine(c_within _ _ _).step ?_;by_cases k:0<=o.2.2.2.1/\o.2.2.2.1<=nM o.1
 rotate_left
 ·simp only[bZ k,zS];exact⟨by rw[oE o (b:=false) ⟨λh=>absurd h.2.2.2.1 k,λh=>by cases h⟩],a⟩
 simp only[cr k,zS,fa_193_3,az,e,form_3];have last:∀b:Bool,(vB o.1=true\/o.2.2.2.2.1=0)->((wB o.1=true\/o.2.2.2.2.2=0)<->b=true)->jR o=b:=λb l p=>oE o ⟨λh=>p.1 h.2.2.2.2.2,λh=>⟨k1,k2,j,k,l,p.2 h⟩⟩;have f:¬(vB o.1=true\/o.2.2.2.2.1=0)->jR o=false:=λl=>oE o ⟨λh=>absurd h.2.2.2.2.1 l,λh=>by cases h⟩;cases q:vB o.1 with
 |true=>
  rw[q]at last;cases c:wB o.1 with
  |true=>
   rw[c]at last;simp only[zS,fa_193_4,az,e,form_4,c];exact⟨by rw[last true (.inl rfl) (by simp)],a⟩
  |false=>
   rw[c]at last;simp only[zS,fa_193_4,az,e,form_4,c,mh,br,d,op_5];exact⟨by rw[last (o.2.2.2.2.2==0) (.inl rfl) (by simp)],a⟩
 |false=>
  rw[q]at last f;by_cases g:o.2.2.2.2.1=0
  rotate_left
  ·simp only[zS,fr,br,d,pA,aW g];exact⟨by rw[f (by simp[g])],a⟩
  have i:(o.2.2.2.2.1==0)=true:=by rw[g];rfl
  cases c:wB o.1 with
  |true=>
   rw[c]at last;simp only[zS,fr,br,d,pA,i,fa_193_4,az,e,form_4,c];exact⟨by rw[last true (.inr g) (by simp)],a⟩
  |false=>
   rw[c]at last;simp only[zS,fr,br,pA,i,fa_193_4,az,e,form_4,c,mh,br,d,op_5];exact⟨by rw[last (o.2.2.2.2.2==0) (.inr g) (by simp)],a⟩
theorem c_opMay(o:eu)(w:World):aa prog 68 [.agg (cI o).toArray] w λv n=>v= .bool (jR o)/\ad [] w n:=by
 apply F68_ok;have b:hp (w.alloc (.cells (cI o).toArray 37)) w.heap.size=some (.cells (cI o).toArray 37):=by rw[af,bU rfl]
 have p:ad [] w (w.alloc (.cells (cI o).toArray 37)):=(ad.refl _ _).alloc _;have t:w.heap.size<(w.alloc (.cells (cI o).toArray 37)).heap.size:=by simp
 simp only[F68,ak,aq,zS,am,ag,b,aJ];generalize w.alloc (.cells (cI o).toArray 37)=w1 at*;generalize C:w.heap.size=u at*;refine(c_formOf o.1 w1).mono ?_;rintro v w2 ⟨rfl,i⟩;simp only[al_193];rw[st_193 (by rfl) (by rfl) (by rw[af,bU rfl];rfl) (by rw[af,bU rfl];rfl),af,bU rfl];simp only[au];generalize q:w2.alloc _=j;have l:ad [] w2 j:=by rw[<- q];exact(ad.refl _ _).alloc _
 have r:j.heap.size=w2.heap.size+1:=by rw[<- q];simp
 have c:ad [] w2 (put j w2.heap.size (mW o.1).toArray 193):=l.put (.inr (cy _)) _ _;have g:hp (put j w2.heap.size (mW o.1).toArray 193) w2.heap.size=some (.cells (mW o.1).toArray 193):=by rw[bm,bU rfl,bU dB]
 have b:=(i.trans c).at b (by simp);have d:=(p.trans i).trans c;clear q l r c;generalize put j w2.heap.size (mW o.1).toArray 193=x at*;generalize w2.heap.size=y at*;simp only[zS,fa_193_1,ag,g,form_1];have zero:∀f a:Int,f=frM o.1->a=atM o.1->P68_0 (bS u) (bS y) (bN f) (bN a) (bN 0) x λv n=>v= .bool (jR o)/\ad [] w n:=by
  intro f a z A;subst z;subst A;apply L68_0_ok;by_cases k1:o.1=1
  ·have s:(o.1==1)=true:=by rw[k1];rfl
   have e:(3:Int)=nM o.1:=by simp[nM,k1]
   simp only[L68_0,zS,am,ag,b,aJ,s];rw[e];exact l_opMay1 d b g
  ·cases m:nB o.1 with
   |true=>
    have e:(65535:Int)=nM o.1:=by simp[nM,k1,m]
    simp only[L68_0,zS,am,ag,b,aJ,aW k1,fa_193_2,az,g,form_2,m];rw[e];exact l_opMay1 d b g
   |false=>
    have e:(0:Int)=nM o.1:=by simp[nM,k1,m]
    simp only[L68_0,zS,am,ag,b,aJ,aW k1,fa_193_2,az,g,form_2,m];have:=l_opMay1 (w0:=w) d b g;rw[<- e]at this;exact this
 by_cases k:gu o.1=0
 ·have B:(gu o.1 !=0)=false:=by rw[k];rfl
  simp only[B,zS];exact zero 0 0 (by simp[frM,k]) (by simp[atM,k])
 ·simp only[bne_iff_ne.2 k,zS];exact zero 63 999 (by simp[frM,k]) (by simp[atM,k])
theorem l_refMay{w:World}{o:eu}{g:Nat}(a:hp w g=some (.cells (cI o).toArray 37)):
  P106_0 (bS g) (bN (nM o.1)) w λv i=>v= .bool (jR o)/\i=w:=by
 apply L106_0_ok;simp only[L106_0,zS,am,ag,a,aJ];refine(c_in18 _ _ _ _).step ?_;have no:¬((1<=o.1/\o.1<=12)/\(0<=o.2.1/\o.2.1<=frM o.1)/\(0<=o.2.2.1/\o.2.2.1<=atM o.1)/\(0<=o.2.2.2.1/\o.2.2.2.1<=nM o.1)/\(vB o.1=true\/o.2.2.2.2.1=0)/\(wB o.1=true\/o.2.2.2.2.2=0))->jR o=false:=λh=>oE o ⟨λj=>absurd j h,λh=>by cases h⟩;by_cases k1:1<=o.1/\o.1<=12
 rotate_left
 ·simp only[bZ k1,zS];exact⟨by rw[no λh=>k1 h.1],trivial⟩
 simp only[cr k1,zS,bc,ag,a,lV];refine(c_in18 _ _ _ _).step ?_;by_cases q:0<=o.2.2.2.1/\o.2.2.2.1<=nM o.1
 rotate_left
 ·simp only[bZ q,zS];exact⟨by rw[no λh=>q h.2.2.2.1],trivial⟩
 simp only[cr q,zS,ag,a,aJ];refine(c_HasV _ _).step ?_;have rest:(vB o.1=true\/o.2.2.2.2.1=0)->(wB o.1=true\/o.2.2.2.2.2=0)->
   (mV (ai prog (Instr.fieldAt 37 (bS g) 0)) λt=>
    mV (gi prog 3 t w) λu=>
    aa prog 88 [u] w λx w1=>
    mV (be prog .eql 3 (.tmp 46) (.const (bN 0)) x (bN 0)) λy=>
    cnd y
    (mV (ai prog (Instr.fieldAt 37 (bS g) 1)) λz=>
     mV (gi prog 3 z w1) λA=>
     mV (be prog .eql 3 (.tmp 49) (.const (bN 0)) A (bN 0)) λc=>
     mV (gd c true (ai prog (Instr.fieldAt 37 (bS g) 2))) λB=>
     mV (gd c true (gi prog 3 B w1)) λC=>
     mV (gd c true (be prog .eql 3 (.tmp 53) (.const (bN 0)) C (bN 0))) λD=>
     mV (qV c (some D) (some (.bool false))) λE=>E= .bool (jR o)/\w1=w)
    (mV (ai prog (Instr.fieldAt 37 (bS g) 1)) λF=>
     mV (gi prog 3 F w1) λG=>
     aa prog 157 [G,bN 0,bN 63] w1 λd i=>
     mV (gd d true (ai prog (Instr.fieldAt 37 (bS g) 2))) λH=>
     mV (gd d true (gi prog 3 H i)) λI=>
     gE d true (aa prog 157 [I,bN 0,bN 999] i) (λJ i=>
     mV (qV d (some J) (some (.bool false))) λK=>K= .bool (jR o)/\i=w) i)):=by
  intro R S;simp only[zS,am,ag,a,aJ];refine(c_Of _ _).step ?_;have fin:∀b:Bool,(((0<=o.2.1/\o.2.1<=frM o.1)/\(0<=o.2.2.1/\o.2.2.1<=atM o.1))<->b=true)->jR o=b:=λb h=>oE o ⟨λj=>h.1 ⟨j.2.1,j.2.2.1⟩,λj=>⟨k1,(h.2 j).1,(h.2 j).2,q,R,S⟩⟩;by_cases k:gu o.1=0
  ·have Q:(gu o.1==0)=true:=by rw[k];rfl
   have L:frM o.1=0:=by simp[frM,k]
   have M:atM o.1=0:=by simp[atM,k]
   rw[L,M]at fin;by_cases m:o.2.1=0
   ·have O:(o.2.1==0)=true:=by rw[m];rfl
    simp only[Q,zS,iA,iB,ag,a,op_1,op_2,O];exact⟨by rw[fin (o.2.2.1==0) (by simp;omega)],trivial⟩
   ·simp only[Q,zS,iA,iB,ag,a,op_1,aW m];exact⟨by rw[fin false (by simp;omega)],trivial⟩
  ·have L:frM o.1=63:=by simp[frM,k]
   have M:atM o.1=999:=by simp[atM,k]
   rw[L,M]at fin;simp only[aW k,zS,iA,iB,ag,a,op_1];refine(c_in18 _ _ _ _).step ?_;by_cases m:0<=o.2.1/\o.2.1<=63
   ·simp only[cr m,zS,ag,a,op_2];refine(c_in18 _ _ _ _).step ?_;simp only[];exact⟨by rw[fin (decide (0<=o.2.2.1/\o.2.2.1<=999)) (by simp;omega)],trivial⟩
   ·simp only[bZ m,zS];exact⟨by rw[fin false (by simp;omega)],trivial⟩
 simp only[zS,am,ag,a,aJ]at rest;have r:wB o.1=decide (o.1=9):=rfl;have T:(vB o.1=true\/o.2.2.2.2.1=0)->(o.1=9\/o.2.2.2.2.2=0->wB o.1=true\/o.2.2.2.2.2=0):=λ_ h=>by rw[r];simpa using h
 by_cases e:o.1=9
 ·have P:(o.1 !=9)=false:=by rw[e];rfl
  have n:vB o.1=true:=by rw[e];decide
  rw[n];have:=rest (.inl n) (.inl (by rw[r];simpa using e));simp only[zS,ag,a,aJ,P];exact this
 ·cases n:vB o.1 with
  |true=>
   by_cases f:o.2.2.2.2.2=0
   ·have l:(o.2.2.2.2.2 !=0)=false:=by rw[f];rfl
    have:=rest (.inl n) (.inr f);simp only[zS,mh,ag,br,a,aJ,op_5,bne_iff_ne.2 e,l];exact this
   ·simp only[zS,mh,ag,br,a,aJ,op_5,bne_iff_ne.2 e,bne_iff_ne.2 f];exact⟨by rw[no λh=>by have:=h.2.2.2.2.2;rw[r]at this;simp[e,f]at this],trivial⟩
  |false=>
   by_cases s:o.2.2.2.2.1=0
   ·have p:(o.2.2.2.2.1 !=0)=false:=by rw[s];rfl
    by_cases f:o.2.2.2.2.2=0
    ·have l:(o.2.2.2.2.2 !=0)=false:=by rw[f];rfl
     have:=rest (.inr s) (.inr f);simp only[zS,fr,mh,ag,br,a,aJ,pA,op_5,bne_iff_ne.2 e,l,p];exact this
    ·simp only[zS,fr,mh,ag,br,a,aJ,pA,op_5,bne_iff_ne.2 e,bne_iff_ne.2 f,p];exact⟨by rw[no λh=>by have:=h.2.2.2.2.2;rw[r]at this;simp[e,f]at this],trivial⟩
   ·simp only[zS,fr,br,a,aJ,pA,bne_iff_ne.2 s];exact⟨by rw[no λh=>by have:=h.2.2.2.2.1;rw[n]at this;simp[s]at this],trivial⟩
theorem c_refMay(o:eu)(w:World):aa prog 106 [.agg (cI o).toArray] w λv a=>v= .bool (jR o)/\ad [] w a:=by
 apply F106_ok;have b:hp (w.alloc (.cells (cI o).toArray 37)) w.heap.size=some (.cells (cI o).toArray 37):=by rw[af,bU rfl]
 have c:ad [] w (w.alloc (.cells (cI o).toArray 37)):=(ad.refl _ _).alloc _;have fin:P106_0 (bS w.heap.size) (bN (nM o.1)) (w.alloc (.cells (cI o).toArray 37)) λv a=>v= .bool (jR o)/\ad [] w a:=by
  have:=l_refMay b;exact Part.mono this λv a ⟨h,e⟩=>⟨h,by rw[e];exact c⟩
 by_cases k1:o.1=1
 ·have d:(o.1==1)=true:=by rw[k1];rfl
  have e:nM o.1=3:=by simp[nM,k1]
  simp only[F106,ak,aq,zS,am,ag,b,aJ,d];rw[e]at fin;exact fin
 ·simp only[F106,ak,aq,zS,am,ag,b,aJ,aW k1];refine(c_HasN _ _).step ?_;cases f:nB o.1 with
  |true=>
   have e:nM o.1=65535:=by simp[nM,k1,f]
   rw[e]at fin;simp only[zS];exact fin
  |false=>
   have e:nM o.1=0:=by simp[nM,k1,f]
   rw[e]at fin;simp only[zS];exact fin
theorem tmod_cases2(a m:Int)(e:0<m):(0<=a.tmod m/\a.tmod m=a%m)\/(a.tmod m<0/\a.tmod m+m=a%m):=by
 have g:=Int.emod_lt_of_pos a e;have i:=Int.emod_nonneg a (b:=m) dB;rcases Int.lt_or_le a 0 with h|h
 ·have c:=Int.tmod_eq_emod (a:=a) (b:=m);by_cases d:0<=a\/m ∣ a
  ·rw[bU d]at c;left;omega
  ·rw[bV d]at c;have f:(m.natAbs:Int)=m:=dB;rw[f]at c;right;omega
 ·left;rw[Int.tmod_eq_emod_of_nonneg h];omega
theorem nH(a m:Int)(w:World)(d:0<m)(f:m<=4611686018427387904):aa prog 11 [bN a,bN m] w λv g=>v=bN (a%m)/\g=w:=by
 apply F11_ok;have i:=Int.emod_lt_of_pos a d;have j:=Int.emod_nonneg a (b:=m) dB;simp only[F11,km (show m≠0 by omega),zS];rcases tmod_cases2 a m d with⟨e,c⟩|⟨e,c⟩
 ·simp only[show¬a.tmod m<0 by omega,zS];apply L11_0_ok;simp only[L11_0,c,and_self]
 ·simp only[e,zS,aj];apply L11_0_ok;simp only[L11_0,c,ap (n:=a%m) dB dB,and_self]
end Go.Proofs.YtnpflajdbchghaaGreat
namespace Go.Proofs.YtnpflajdbchghaaGreat.Ev
open Tryz(f127 f38 prog underlying3)
open Go Go.RowKit
abbrev Fp:=Nat->Prop
def FDis(F G:Fp):Prop:=∀k,F k->G k->False
def cL:Fp:=λ_=>False
structure bl(F:Fp)(w w':World):Prop where
 os:w'.os=w.os
 tape:w'.tape=w.tape
 output:w'.output=w.output
 size:w.heap.size<=w'.heap.size
 block:∀k,k<w.heap.size->¬F k->hp w' k=hp w k
structure aO(F F':Fp)(w w':World):Prop where
 aF:bl F w w'
 sub:∀k,F' k->F k\/w.heap.size<=k
theorem bl.refl(F:Fp)(w:World):bl F w w:=⟨rfl,rfl,rfl,cy _,λ_ _ _=>rfl⟩
theorem bl.mono{F G:Fp}{w a:World}(h:bl F w a)(b:∀k,F k->G k):bl G w a:=⟨h.os,h.tape,h.output,h.size,λk c d=>h.block k c λe=>d (b k e)⟩
theorem bl.of{S:List Nat}{w a:World}(h:ad S w a):bl (· ∈S) w a:=⟨h.os,h.tape,h.output,h.size,λk b c=>h.block k b c⟩
theorem bl.bL{w a:World}(h:ad [] w a)(F:Fp):bl F w a:=⟨h.os,h.tape,h.output,h.size,λk b _=>h.block k b (by simp)⟩
theorem bl.chg0{F:Fp}{w a:World}(h:bl F w a)(b:∀k,F k->w.heap.size<=k):ad [] w a:=⟨h.os,h.tape,h.output,h.size,λk c _=>h.block k c λd=>by have:=b k d;omega⟩
theorem aO.refl(F:Fp)(w:World):aO F F w w:=⟨bl.refl _ _,λk a=> .inl a⟩
theorem aO.trans{F G H:Fp}{a b c:World}(h:aO F G a b)(k:aO G H b c):aO F H a c:=
 ⟨⟨k.aF.os.trans h.aF.os,k.aF.tape.trans h.aF.tape,k.aF.output.trans h.aF.output,cU h.aF.size k.aF.size,λi d e=>
  (k.aF.block i (de d h.aF.size) λf=>by rcases h.sub i f with h1|h1;exact e h1;omega).trans (h.aF.block i d e)⟩,
  λi d=>by
  rcases k.sub i d with h1|h1
  ·exact h.sub i h1
  ·exact .inr (cU h.aF.size h1)⟩
theorem aO.bL{F:Fp}{a b:World}(k:ad [] a b):aO F F a b:=⟨bl.bL k F,λi c=> .inl c⟩
theorem bl.at{F:Fp}{w a:World}(h:bl F w a){b:Nat}{o:Obj}(hb:hp w b=some o)(c:¬F b):hp a b=some o:=by rw[h.block b (aD hb) c];exact hb
theorem bl.row{F:Fp}{w b:World}{base:Nat}{e:TypeId}{z:Nat}{v:Value}{n:Nat}{xs:List Value}(h:w.ownsRow base e z v n xs)(d:bl F w b)(f:∀k,v.ownBlock=some k->¬F k):b.ownsRow base e z v n xs:=by
 refine⟨h.1,h.2.imp id fun⟨g,cap,a,c,i,j,l⟩=>⟨g,cap,a,c,i,?_,l⟩⟩;exact d.at j (f g (by rw[c];rfl))
abbrev Th:=World->Fp->Value->Prop
structure fR(P:Th):Prop where
 frame:∀{w w':World} {F G:Fp} {v:Value},P w F v->bl G w w'->FDis F G->P w' F v
 lt:∀{w:World} {F:Fp} {v:Value},P w F v->∀k,F k->k<w.heap.size
 one:∀{w:World} {F:Fp} {v:Value},P w F v->v.cells= #[v]/\v.oneCell'=true
def kY(u:Value):Th:=λ_ F v=>v=u/\∀k,¬F k
theorem pB{u:Value}(h:u.cells= #[u]/\u.oneCell'=true):fR (kY u):=
 ⟨λh _ _=>h,λh k a=>absurd a (h.2 k),λb=>by rw[b.1];exact h⟩
structure fX(w:World)(Ps:List Th)(xs:List Value)(Fs:Nat->Fp):Prop where
 len:Ps.length=xs.length
 each:∀(k:Nat) (P:Th) (v:Value),Ps[k]? =some P->xs[k]? =some v->P w (Fs k) v
 dis:∀j k,j<Ps.length->k<Ps.length->j≠k->FDis (Fs j) (Fs k)
def under(n:Nat)(a:Nat->Fp):Fp:=λb=>∃k,k<n/\a k b
def fset(a:Nat->Fp)(k:Nat)(F:Fp):Nat->Fp:=λj=>if j=k then F else a j
theorem fX.frame{w e:World}{a:List Th}{xs:List Value}{c:Nat->Fp}{G:Fp}(h:fX w a xs c)(f:∀P∈a,fR P)(g:bl G w e)(i:FDis (under a.length c) G):fX e a xs c:=
 ⟨h.len,λk P v d j=>(f P (cD d)).frame (h.each k P v d j) g λb l m=>i b ⟨k,(bY.1 d).1,l⟩ m,h.dis⟩
theorem fX.lt{w:World}{a:List Th}{xs:List Value}{c:Nat->Fp}(h:fX w a xs c)(f:∀P∈a,fR P):∀b,under a.length c b->b<w.heap.size:=λb ⟨k,d,hb⟩=>by
 obtain⟨P,e⟩:∃P,a[k]? =some P:=⟨_,bX d⟩
 obtain⟨v,g⟩:∃v,xs[k]? =some v:=⟨_,bX (by rw[<- h.len];exact d)⟩
 exact(f P (cD e)).lt (h.each k P v e g) b hb
theorem fX.set{w s:World}{n:List Th}{xs:List Value}{o:Nat->Fp}{k:Nat}{p:Fp}{z:Th}{v':Value}(h:fX w n xs o)(A:∀P∈n,fR P)(q:k<n.length)(u:aO (o k) p w s)(B:z s p v'):
  fX s (n.set k z) (xs.set k v') (fset o k p):=by
 have d:∀j,j<n.length->j≠k->FDis (o j) p:=λj g t b m r=>by
  rcases u.sub b r with h3|h3
  ·exact h.dis j k g q t b m h3
  ·have:=h.lt A b ⟨j,g,m⟩;omega
 refine⟨by simp[h.len],λj P v l e=>?_,λi j x g y=>?_⟩
 ·rw[cR]at l e;by_cases f:k=j
  ·subst f;rw[bU rfl,bU q]at l;rw[bU rfl,bU (by rw[<- h.len];exact q)]at e;cases l;cases e;simpa [fset]using B
  ·rw[bV f]at l e;have g:=(bY.1 l).1;simp only[fset,bV (Ne.symm f)];exact(A P (cD l)).frame (h.each j P v l e) u.aF (h.dis j k g q (Ne.symm f))
 ·simp only[cE]at x g;unfold fset;by_cases m:i=k
  ·rw[bU m,bV dB];exact λb a c=>d j g dB b c a
  ·rw[bV m];by_cases r:j=k
   ·rw[bU r];exact d i x m
   ·rw[bV r];exact h.dis i j x g y
theorem sJ{n k:Nat}{a:Nat->Fp}{c:Fp}(b:Nat)(h:under n (fset a k c) b):c b\/under n a b:=by
 obtain⟨j,d,hb⟩:=h;unfold fset at hb;split at hb
 ·exact .inl hb
 ·exact .inr ⟨j,d,hb⟩
theorem fX.app{w:World}{d Qs:List Th}{xs p:List Value}{n Gs:Nat->Fp}(h:fX w d xs n)(k:fX w Qs p Gs)(q:FDis (under d.length n) (under Qs.length Gs)):
  fX w (d++Qs) (xs++p) λj=>if j<d.length then n j else Gs (j-d.length):=by
 refine⟨by simp[h.len,k.len],λj P v l m=>?_,λi j r f o=>?_⟩
 ·by_cases f:j<d.length
  ·rw[List.getElem?_append_left f]at l;rw[List.getElem?_append_left (by rw[<- h.len];exact f)]at m;simp only[bU f];exact h.each j P v l m
  ·rw[List.getElem?_append_right dB]at l;rw[List.getElem?_append_right (by rw[<- h.len];omega),<-h.len]at m;simp only[bV f];exact k.each _ P v l m
 ·simp only[cq]at r f;by_cases g:i<d.length
  ·by_cases e:j<d.length
   ·simp only[bU g,bU e];exact h.dis i j g e o
   ·simp only[bU g,bV e];exact λb a c=>q b ⟨i,g,a⟩ ⟨_,dB,c⟩
  ·by_cases e:j<d.length
   ·simp only[bV g,bU e];exact λb a c=>q b ⟨j,e,c⟩ ⟨_,dB,a⟩
   ·simp only[bV g,bV e];exact k.dis _ _ dB dB dB
theorem under_app{n m:Nat}{c Gs:Nat->Fp}(b:Nat):under (n+m) (λj=>if j<n then c j else Gs (j-n)) b<->under n c b\/under m Gs b:=by
 constructor
 ·rintro⟨j,a,hb⟩;by_cases h:j<n
  ·rw[bU h]at hb;exact .inl ⟨j,h,hb⟩
  ·rw[bV h]at hb;exact .inr ⟨j-n,dB,hb⟩
 ·rintro(⟨j,a,hb⟩|⟨j,a,hb⟩)
  ·exact⟨j,dB,by simp only[bU a];exact hb⟩
  ·exact⟨n+j,dB,by simp only[bV (show¬n+j<n by omega),Nat.add_sub_cancel_left];exact hb⟩
def aZ(e:TypeId)(z n:Nat)(a:List Th):Th:=λw F x=>∃(xs:List Value) (c:Nat->Fp),w.ownsRow 0 e z x n xs/\fX w a xs c/\(∀ b,under a.length c b->x.ownBlock≠some b)/\∀b,F b<->x.ownBlock=some b\/under a.length c b
theorem fY{e:TypeId}{z n:Nat}{m:List Th}(o:∀P∈m,fR P):fR (aZ e z n m):=by
 refine⟨fun⟨xs,i,d,j,p,f⟩ q r=>⟨xs,i,q.row d λk l s=>r k ((f k).2 (.inl l)) s,j.frame o q λb a c=>r b ((f b).2 (.inr a)) c,p,f⟩,fun⟨xs,i,d,j,p,f⟩ k l=>?_,fun⟨xs,i,d,_⟩=>?_⟩
 ·rcases(f k).1 l with h|h
  ·exact(d.lt k h).2
  ·exact j.lt o k h
 ·rcases d.2 with⟨rfl,_⟩|⟨g,cap,t,rfl,_⟩<;>exact⟨rfl,rfl⟩
theorem aZ.nil{e:TypeId}{z:Nat}{w:World}:aZ e z 0 [] w cL (.slice none 0 0):=
 ⟨[],λ_=>cL,World.ownsRow_nil _ _ _ _,⟨rfl,λk P v h=>by simp at h,λj k h=>by simp at h⟩,λb ⟨k,a,_⟩=>by simp at a,λb=>⟨λh=>h.elim,λh=>by rcases h with h|⟨k,a,_⟩;cases h;simp at a⟩⟩
theorem bl.put(w:World)(g:Nat)(c:Array Value)(e:TypeId):bl (λb=>b=g) w (Ev.put w g c e):=(bl.of (S:= [g]) ((ad.refl _ _).put (.inl (by simp)) c e)).mono λk a=>by simpa using a
theorem aO.put{F a:Fp}{w w1:World}(u:aO F a w w1){g:Nat}(d:a g)(c:Array Value)(e:TypeId):aO F a w (Ev.put w1 g c e):=
 u.trans ⟨(bl.put w1 g c e).mono λk b=>by rw[b];exact d,λk b=> .inl b⟩
theorem kZ{α:Type}{l:List α}{k:Nat}{v:α}(h:l[k]? =some v):l.set k v=l:=by
 apply List.ext_getElem?;intro j;rw[cR];split
 ·rename_i e;subst e;rw[bU (bY.1 h).1,h]
 ·rfl
theorem aZ.turn{e:TypeId}{z n:Nat}{a:List Th}{w w1:World}{F d:Fp}{x v:Value}{xs:List Value}{c:Nat->Fp}{k:Nat}{g:Th}(m:w.ownsRow 0 e z x n xs)(o:fX w a xs c)(j:∀b,under a.length c b->x.ownBlock≠some b)(i:∀b,F b<->x.ownBlock=some b\/under a.length c b)
  (p:∀P∈a,fR P) (f:k<a.length) (u:aO (c k) d w w1) (q:g w1 d v):
  w1.ownsRow 0 e z x n xs/\fX w1 (a.set k g) (xs.set k v) (fset c k d)/\(∀ b,under (a.set k g).length (fset c k d) b->x.ownBlock≠some b)/\aO F (λb=>x.ownBlock=some b\/under (a.set k g).length (fset c k d) b) w w1:=by
 refine⟨u.aF.row m λb hb r=>j b ⟨k,f,r⟩ hb,o.set p f u q,λb hb l=>?_,u.aF.mono λb hb=>(i b).2 (.inr ⟨k,f,hb⟩),λb hb=>?_⟩
 ·rw[cE]at hb;rcases sJ b hb with h|h
  ·rcases u.sub b h with h5|h5
   ·exact j b ⟨k,f,h5⟩ l
   ·have:=(m.lt b l).2;omega
  ·exact j b h l
 ·rcases hb with hb|hb
  ·exact .inl ((i b).2 (.inl hb))
  ·rw[cE]at hb;rcases sJ b hb with h|h
   ·rcases u.sub b h with h5|h5
    ·exact .inl ((i b).2 (.inr ⟨k,f,h5⟩))
    ·exact .inr h5
   ·exact .inl ((i b).2 (.inr h))
theorem aZ.cell{e:TypeId}{z n:Nat}{q:List Th}{w:World}{F:Fp}{x:Value}(h:aZ e z n q w F x)(D:∀P∈q,fR P){k:Nat}{P:Th}(M:q[k]? =some P):
  ∃(g c:Nat) (v:Value) (r:Fp),x= .slice (some ⟨g,0,none⟩) n c/\F g/\¬r g/\(∀ b,r b->F b)/\an (hp w g) k=some v/\P w r v/\
   (∀ w1 j l,aO r j w w1->l w1 j v->∃s,aZ e z n (q.set k l) w1 s x/\aO F s w w1)/\
   (∀ w1 j l v',aO r j w w1->fR l->l w1 j v'->pY (hp w1 g) (k+1)=true/\∃s,aZ e z n (q.set k l) (put w1 g ((dL (hp w1 g)).setIfInBounds k v') (dM (hp w1 g))) s x/\aO F s w (put w1 g ((dL (hp w1 g)).setIfInBounds k v') (dM (hp w1 g)))):=by
 obtain⟨xs,O,A,B,E,C⟩:=h;have t:=(bY.1 M).1;have y:k<xs.length:=by rw[<- B.len];exact t
 obtain⟨v,G⟩:∃v,xs[k]? =some v:=⟨_,bX y⟩
 have R:=A.1;obtain⟨g,cap,S,H⟩:∃g cap,x= .slice (some ⟨g,0,none⟩) n cap/\an (hp w g) k=some v:=by
  rcases A.2 with⟨rfl,T⟩|⟨g,cap,I,rfl,U,J,V,W,X,m⟩
  ·subst T;omega
  ·refine⟨g,cap,rfl,?_⟩;have K:hp w g=some (.cells I e (0,0)):=J;rw[K,aN];have:=G;rw[<- m,List.getElem?_take,bU dB]at this;simpa using this
 subst S;have f:(Value.slice (some ⟨g,0,none⟩) n cap).ownBlock=some g:=rfl;refine⟨g,cap,v,O k,rfl,(C g).2 (.inl f),λY=>E g ⟨k,t,Y⟩ f,λb hb=>(C b).2 (.inr ⟨k,t,hb⟩),H,B.each k P v M G,λw1 j l u p=>?_,λw1 j l v' u L p=>?_⟩
 ·obtain⟨a,b,c,d⟩:=aZ.turn A B E C D t u p;rw[kZ G]at b;exact⟨_,⟨xs,_,a,b,c,λ_=>Iff.rfl⟩,d⟩
 ·obtain⟨a,b,c,d⟩:=aZ.turn A B E C D t u p;obtain⟨p1,p2⟩:=oy (vs:= [v']) a f (o:=k) (by simp;omega);refine⟨p2,_,⟨xs.set k v',fset O k j,?_,b.frame (λQ Z=>?_) (bl.put w1 g _ _) (λi hi hj=>c i hi (by rw[hj];exact f)),c,λ_=>Iff.rfl⟩,d.put (.inl f) _ _⟩
  ·rw[<- set_eq xs k v' y];exact p1
  ·rcases List.mem_or_eq_of_mem_set Z with hq|hq
   ·exact D Q hq
   ·rw[hq];exact L
def eR(e:TypeId)(g:Nat)(a:List Th)(w:World)(F:Fp):Prop:=∃(xs:List Value) (c:Nat->Fp),hp w g=some (.cells xs.toArray e)/\fX w a xs c/\¬under a.length c g/\∀b,F b<->b=g\/under a.length c b
theorem eR.frame{e:TypeId}{g:Nat}{d:List Th}{w i:World}{F G:Fp}(h:eR e g d w F)(l:∀P∈d,fR P)(j:bl G w i)(k:FDis F G):eR e g d i F:=by
 obtain⟨xs,m,n,o,p,f⟩:=h;exact⟨xs,m,j.at n λq=>k g ((f g).2 (.inl rfl)) q,o.frame l j λb a c=>k b ((f b).2 (.inr a)) c,p,f⟩
theorem eR.lt{e:TypeId}{g:Nat}{a:List Th}{w:World}{F:Fp}(h:eR e g a w F)(b:∀P∈a,fR P):∀k,F k->k<w.heap.size:=λk c=>by
 obtain⟨xs,j,d,f,l,i⟩:=h;rcases(i k).1 c with h|h
 ·subst h;exact aD d
 ·exact f.lt b k h
theorem eR.cell{e:TypeId}{g:Nat}{m:List Th}{w:World}{F:Fp}(h:eR e g m w F)(D:∀P∈m,fR P){k:Nat}{P:Th}(E:m[k]? =some P):
  ∃(v:Value) (r:Fp),F g/\¬r g/\(∀ b,r b->F b)/\an (hp w g) k=some v/\P w r v/\
   (∀ w1 f j,aO r f w w1->j w1 f v->∃s,eR e g (m.set k j) w1 s/\aO F s w w1)/\
   (∀ w1 f j v',aO r f w w1->fR j->j w1 f v'->pY (hp w1 g) (k+1)=true/\∃s,eR e g (m.set k j) (put w1 g ((dL (hp w1 g)).setIfInBounds k v') (dM (hp w1 g))) s/\aO F s w (put w1 g ((dL (hp w1 g)).setIfInBounds k v') (dM (hp w1 g)))):=by
 obtain⟨xs,p,x,y,t,q⟩:=h;have n:=(bY.1 E).1;have z:k<xs.length:=by rw[<- y.len];exact n
 obtain⟨v,A⟩:∃v,xs[k]? =some v:=⟨_,bX z⟩
 have o:∀{w1:World} {f:Fp} {j:Th} {v':Value},aO (p k) f w w1->j w1 f v'->hp w1 g=some (.cells xs.toArray e)/\fX w1 (m.set k j) (xs.set k v') (fset p k f)/\¬under (m.set k j).length (fset p k f) g/\aO F (λb=>b=g\/under (m.set k j).length (fset p k f) b) w w1:=by
  intro w1 f j v' u l;refine⟨u.aF.at x λB=>t ⟨k,n,B⟩,y.set D n u l,λhb=>?_,u.aF.mono λb hb=>(q b).2 (.inr ⟨k,n,hb⟩),λb hb=>?_⟩
  ·rw[cE]at hb;rcases sJ g hb with h|h
   ·rcases u.sub g h with h5|h5
    ·exact t ⟨k,n,h5⟩
    ·have:=aD x;omega
   ·exact t h
  ·rcases hb with hb|hb
   ·exact .inl ((q b).2 (.inl hb))
   ·rw[cE]at hb;rcases sJ b hb with h|h
    ·rcases u.sub b h with h5|h5
     ·exact .inl ((q b).2 (.inr ⟨k,n,h5⟩))
     ·exact .inr h5
    ·exact .inl ((q b).2 (.inr h))
 refine⟨v,p k,(q g).2 (.inl rfl),λB=>t ⟨k,n,B⟩,λb hb=>(q b).2 (.inr ⟨k,n,hb⟩),by rw[x,aN];simpa using A,y.each k P v E A,λw1 f j u l=>?_,λw1 f j v' u C l=>?_⟩
 ·obtain⟨a,b,c,d⟩:=o (v':=v) u l;rw[kZ A]at b;exact⟨_,⟨xs,_,a,b,c,λ_=>Iff.rfl⟩,d⟩
 ·obtain⟨a,b,c,d⟩:=o u l;refine⟨by rw[a];simp;omega,_,⟨xs.set k v',fset p k f,?_,b.frame (λQ G=>?_) (bl.put w1 g _ _) (λi H I=>c (by rw[<- I];exact H)),c,λ_=>Iff.rfl⟩,d.put (.inl rfl) _ _⟩
  ·rw[a,aB,au,ar (aD a)];simp
  ·rcases List.mem_or_eq_of_mem_set G with hq|hq
   ·exact D Q hq
   ·rw[hq];exact C
theorem eR.new{e:TypeId}{c:List Th}{w:World}{xs:List Value}{d:Nat->Fp}(a:fX w c xs d)(f:∀P∈c,fR P):eR e w.heap.size c (w.alloc (.cells xs.toArray e)) (λb=>b=w.heap.size\/under c.length d b):=by
 refine⟨xs,d,by rw[af,bU rfl],a.frame f (bl.bL ((ad.refl _ _).alloc _) cL) (λ_ _ h=>h),λh=>?_,λ_=>Iff.rfl⟩;have:=a.lt f _ h;omega
theorem aZ.grow{e:TypeId}{z n m:Nat}{c Qs:List Th}{w d:World}{F G:Fp}{x x':Value}{r:List Value}{Gs:Nat->Fp}(h:aZ e z n c w F x)(v:∀P∈c,fR P)(y:∀P∈Qs,fR P)(A:fX w Qs r Gs)(q:∀b,G b<->under Qs.length Gs b)(s:FDis F G)
  (H:∀xs,w.ownsRow 0 e z x n xs->d.ownsRow 0 e z x' (n+m) (xs++r)) (a:w.grownBy d x.ownBlock) (f:hI w x x'):
  ∃B,aZ e z (n+m) (c++Qs) d B x'/\aO (λb=>F b\/G b) B w d/\bl F w d:=by
 obtain⟨xs,C,I,D,E,g⟩:=h;have i:bl (λb=>x.ownBlock=some b) w d:=⟨a.os,a.tape,a.output,a.size,λk J K=>a.block k J λe=>K e.symm⟩
 have l:bl F w d:=i.mono λb hb=>(g b).2 (.inl hb);have a2:=D.frame v i λb hb t=>E b hb t;have L:=A.frame y i λb hb t=>s b ((g b).2 (.inl t)) ((q b).2 hb);have u:FDis (under c.length C) (under Qs.length Gs):=λb hb i=>s b ((g b).2 (.inr hb)) ((q b).2 i);have o:∀b,under (c++Qs).length (λj=>if j<c.length then C j else Gs (j-c.length)) b->x'.ownBlock≠some b:=λb hb p=>by
  rw[cq]at hb;rcases(under_app b).1 hb with h|h
  ·rcases f b p with h5|h5
   ·exact E b h h5
   ·have:=D.lt v b h;omega
  ·rcases f b p with h5|h5
   ·exact s b ((g b).2 (.inl h5)) ((q b).2 h)
   ·have:=A.lt y b h;omega
 refine⟨_,⟨xs++r,_,H xs I,a2.app L u,o,λ_=>Iff.rfl⟩,⟨l.mono λb hb=> .inl hb,λb hb=>?_⟩,l⟩;rcases hb with hb|hb
 ·rcases f b hb with h5|h5
  ·exact .inl (.inl ((g b).2 (.inl h5)))
  ·exact .inr h5
 ·rw[cq]at hb;rcases(under_app b).1 hb with h|h
  ·exact .inl (.inl ((g b).2 (.inr h)))
  ·exact .inl (.inr ((q b).2 h))
theorem hU{α β:Type}{f:α->List β}{z:Nat}(h:∀x,(f x).length=z):∀L:List α,(L.flatMap f).length=L.length*z
 | []=>by simp
 |x::xs=>by rw[dj,cq,h x,hU h xs,du,Nat.add_mul];omega
theorem bK{α β:Type}{f:α->List β}{z:Nat}(h:∀x,(f x).length=z):∀(L:List α) (i:Nat) (x:α),L[i]? =some x->∀k,k<z->(L.flatMap f)[i*z+k]? =(f x)[k]?
 | [],i,x,a,k,b=>by simp at a
 |y::c,0,x,a,k,b=>by
  simp at a;subst a;rw[dj,Nat.zero_mul,cM,List.getElem?_append_left (by rw[h];exact b)]
 |y::c,i+1,x,a,k,b=>by
  rw[dj,show(i+1)*z+k=(f y).length+(i*z+k)by rw[h,Nat.add_mul];omega,List.getElem?_append_right dB,Nat.add_sub_cancel_left];exact bK h c i x (by simpa using a) k b
theorem flatM_set{α β:Type}{f:α->List β}{z:Nat}(h:∀x,(f x).length=z){k:Nat}{p:β}(b:k<z){x x':α}(c:f x'=(f x).set k p):∀(L:List α) (i:Nat),L[i]? =some x->(L.flatMap f).set (i*z+k) p=(L.set i x').flatMap f
 | [],i,a=>by simp at a
 |y::d,0,a=>by
  simp at a;subst a;rw[dj,Nat.zero_mul,cM,List.set_append_left _ _ (by rw[h];exact b),List.set_cons_zero,dj,c]
 |y::d,i+1,a=>by
  rw[dj,show(i+1)*z+k=(f y).length+(i*z+k)by rw[h,Nat.add_mul];omega,List.set_append_right _ _ dB,Nat.add_sub_cancel_left,flatM_set h b c d i (by simpa using a),List.set_cons_succ,dj]
theorem aZ.rd{e:TypeId}{z n:Nat}{d:List Th}{w:World}{F:Fp}{x:Value}(h:aZ e z n d w F x):
  ∃A c xs a,x= .slice A n c/\fp w A xs/\xs.length=n*z/\fX w d xs a/\∀b,under d.length a b->F b:=by
 obtain⟨xs,a,f,g,l,i⟩:=h;obtain⟨A,c,j,k,_⟩:=aT f;exact⟨A,c,xs,a,j,k,f.1,g,λb hb=>(i b).2 (.inr hb)⟩
theorem fX.flat{w:World}{us xs:List Value}{b:Nat->Fp}(h:fX w (us.map kY) xs b):xs=us:=by
 apply List.ext_getElem?;intro k;rcases dh k us.length with hk|hk
 ·have a:k<xs.length:=by have:=h.len;simp at this;omega
  have:=h.each k (kY us[k]) xs[k] (by simp[hk]) (bX a);rw[bX a,bX hk,this.1]
 ·have:=h.len;simp at this;rw[List.getElem?_eq_none dB,List.getElem?_eq_none dB]
theorem fX.ofFlat{w:World}(us:List Value):fX w (us.map kY) us λ_=>cL:=
 ⟨by simp,λk P v a c=>by
  rw[cN,c]at a;cases a;exact⟨rfl,λ_ h=>h⟩,λ_ _ _ _ _ b h _=>h⟩
theorem good_flat{us:List Value}(h:∀u∈us,u.cells= #[u]/\u.oneCell'=true):∀P∈us.map kY,fR P:=λP a=>by
 obtain⟨u,b,rfl⟩:=List.mem_map.1 a;exact pB (h u b)
theorem gN{e:TypeId}{z n:Nat}{us:List Value}{w:World}{F:Fp}{x:Value}(h:aZ e z n (us.map kY) w F x):w.ownsRow 0 e z x n us/\∀b,F b->x.ownBlock=some b:=by
 obtain⟨xs,m,d,a,o,i⟩:=h;rw[a.flat]at d;refine⟨d,λb hb=>?_⟩;rcases(i b).1 hb with j|⟨k,f,c⟩
 ·exact j
 ·obtain⟨P,g⟩:∃P,(us.map kY)[k]? =some P:=⟨_,bX f⟩
  obtain⟨v,l⟩:∃v,xs[k]? =some v:=⟨_,bX (by rw[<- a.len];exact f)⟩
  have:=a.each k P v g l;obtain⟨u,_,rfl⟩:=List.mem_map.1 (cD g);exact absurd c (this.2 b)
theorem pC{e:TypeId}{z n:Nat}{us:List Value}{w:World}{x:Value}{base:Nat}(h:w.ownsRow base e z x n us):aZ e z n (us.map kY) w (λb=>x.ownBlock=some b) x:=
 ⟨us,λ_=>cL,ownsRow_mono h (cQ _),fX.ofFlat us,λb ⟨_,_,hb⟩=>hb.elim,λb=>⟨λh=> .inl h,λh=>by rcases h with h|⟨_,_,h⟩;exact h;exact h.elim⟩⟩
end Go.Proofs.YtnpflajdbchghaaGreat.Ev
namespace Go.Proofs.YtnpflajdbchghaaGreat
open Tryz(f127 f38 prog underlying3)
open Go Ev Go.RowKit
abbrev eN:=Int×Int×Int×Int×Int
abbrev iH:=Int×Int
def ba(h:eN):List Value:= [bN h.1,bN h.2.1,bN h.2.2.1,bN h.2.2.2.1,bN h.2.2.2.2]
def gD(n:iH):List Value:= [bN n.1,bN n.2]
structure fL where
 nm:iH
 cls:Int
 off:Int
 chunks:List Int
 words:List (List Int)
 objs:List eN
structure qL where
 depth:Int
 holds:List iH
abbrev cx:=Int×Int×Int×Int×Int×Int
def dN(c:cx):List Value:= [bN c.1,bN c.2.1,bN c.2.2.1,bN c.2.2.2.1,bN c.2.2.2.2.1,bN c.2.2.2.2.2]
structure dI where
 c:cx
 loose:Bool
 slots:List iH
 rgs:List fL
 hands:List qL
def fZ(l:List Int):List Value:=l.map (Value.int .u64)
def k0(L:List iH):Th:=aZ 142 2 L.length ((L.flatMap gD).map kY)
def nI(L:List iH):Th:=aZ 96 2 L.length ((L.flatMap gD).map kY)
def fA(L:List Int):Th:=aZ 3 1 L.length ((ints L).map kY)
def mZ(L:List Int):Th:=aZ 33 1 L.length ((fZ L).map kY)
def gS(L:List (List Int)):Th:=aZ 139 1 L.length (L.map mZ)
def oF(L:List eN):Th:=aZ 32 5 L.length ((L.flatMap ba).map kY)
def iT(x:Int):Th:=kY (bN x)
def rgT(r:fL):List Th:= [iT r.nm.1,iT r.nm.2,iT r.cls,iT r.off,fA r.chunks,gS r.words,oF r.objs]
def hdT(h:qL):List Th:= [iT h.depth,nI h.holds]
def mN(L:List fL):Th:=aZ 99 7 L.length (L.flatMap rgT)
def lW(L:List qL):Th:=aZ 136 2 L.length (L.flatMap hdT)
def mdT(m:dI):List Th:=(dN m.c).map kY++ [kY (.bool m.loose),k0 m.slots,mN m.rgs,lW m.hands]
def kt(w:World)(g:Nat)(m:dI)(F:Fp):Prop:=eR 90 g (mdT m) w F
theorem fe(k:IntKind)(x:Int):fR (kY (.int k x)):=pB ⟨rfl,rfl⟩
theorem gF{us:List Value}(h:∀u∈us,∃k x,u= .int k x):∀P∈us.map kY,fR P:=good_flat λu a=>by
 obtain⟨k,x,rfl⟩:=h u a;exact⟨rfl,rfl⟩
theorem nmC_int(L:List iH):∀u∈L.flatMap gD,∃k x,u= .int k x:=λu b=>by
 obtain⟨n,_,a⟩:=List.mem_flatMap.1 b;simp only[gD,cV,dx,or_false]at a;rcases a with rfl|rfl<;>exact⟨_,_,rfl⟩
theorem hnC_int(L:List eN):∀u∈L.flatMap ba,∃k x,u= .int k x:=λu b=>by
 obtain⟨n,_,a⟩:=List.mem_flatMap.1 b;simp only[ba,cV,dx,or_false]at a;rcases a with rfl|rfl|rfl|rfl|rfl<;>exact⟨_,_,rfl⟩
theorem ints_int(L:List Int):∀u∈ints L,∃k x,u= .int k x:=λu a=>by
 obtain⟨n,_,rfl⟩:=List.mem_map.1 a;exact⟨_,_,rfl⟩
theorem u64s_int(L:List Int):∀u∈fZ L,∃k x,u= .int k x:=λu a=>by
 obtain⟨n,_,rfl⟩:=List.mem_map.1 a;exact⟨_,_,rfl⟩
theorem tK(L:List iH):fR (k0 L):=fY (gF (nmC_int L))
theorem nJ(L:List iH):fR (nI L):=fY (gF (nmC_int L))
theorem ga(L:List Int):fR (fA L):=fY (gF (ints_int L))
theorem lX(L:List Int):fR (mZ L):=fY (gF (u64s_int L))
theorem gV(L:List (List Int)):fR (gS L):=fY λP a=>by
 obtain⟨l,_,rfl⟩:=List.mem_map.1 a;exact lX l
theorem kC(L:List eN):fR (oF L):=fY (gF (hnC_int L))
theorem good_rg(r:fL):∀P∈rgT r,fR P:=λP a=>by
 simp only[rgT,cV,dx,or_false]at a;rcases a with rfl|rfl|rfl|rfl|rfl|rfl|rfl
 ·exact fe _ _
 ·exact fe _ _
 ·exact fe _ _
 ·exact fe _ _
 ·exact ga _
 ·exact gV _
 ·exact kC _
theorem good_hd(h:qL):∀P∈hdT h,fR P:=λP a=>by
 simp only[hdT,cV,dx,or_false]at a;rcases a with rfl|rfl
 ·exact fe _ _
 ·exact nJ _
theorem je(L:List fL):∀P∈L.flatMap rgT,fR P:=λP a=>by
 obtain⟨r,_,b⟩:=List.mem_flatMap.1 a;exact good_rg r P b
theorem good_hdL(L:List qL):∀P∈L.flatMap hdT,fR P:=λP a=>by
 obtain⟨r,_,b⟩:=List.mem_flatMap.1 a;exact good_hd r P b
theorem good_rgs(L:List fL):fR (mN L):=fY (je L)
theorem tL(L:List qL):fR (lW L):=fY (good_hdL L)
theorem gO(m:dI):∀P∈mdT m,fR P:=λP b=>by
 rcases List.mem_append.1 b with h|h
 ·refine gF (λu a=>?_) P h;simp only[dN,cV,dx,or_false]at a;rcases a with rfl|rfl|rfl|rfl|rfl|rfl<;>exact⟨_,_,rfl⟩
 ·simp only[cV,dx,or_false]at h;rcases h with rfl|rfl|rfl|rfl
  ·exact pB ⟨rfl,rfl⟩
  ·exact tK _
  ·exact good_rgs _
  ·exact tL _
theorem qq(r:fL):(rgT r).length=7:=rfl
theorem sK(h:qL):(hdT h).length=2:=rfl
theorem m9(n:iH):(gD n).length=2:=rfl
theorem hnC_len(h:eN):(ba h).length=5:=rfl
theorem kt.ao{w a:World}{g:Nat}{m:dI}{F:Fp}(h:kt w g m F)(b:ad [] w a):kt a g m F:=eR.frame h (gO m) (bl.bL b cL) λ_ _ h=>h
structure MdR(w:World)(g:Nat)(m:dI)(s r h:Value):Prop where
 c:∀k,k<6->an (hp w g) (0+k)=(dN m.c)[k]?
 l:an (hp w g) (0+6)=some (.bool m.loose)
 sl:an (hp w g) (0+7)=some s
 rl:an (hp w g) (0+8)=some r
 hl:an (hp w g) (0+9)=some h
 sT:∃F,k0 m.slots w F s
 rT:∃F,mN m.rgs w F r
 hT:∃F,lW m.hands w F h
theorem kt.rd{w:World}{g:Nat}{m:dI}{F:Fp}(h:kt w g m F):∃s r h,MdR w g m s r h:=by
 obtain⟨d,_,_,_,_,e,f,_⟩:=eR.cell h (gO m) (k:=7) (P:=k0 m.slots) rfl;obtain⟨rv,_,_,_,_,i,j,_⟩:=eR.cell h (gO m) (k:=8) (P:=mN m.rgs) rfl;obtain⟨l,_,_,_,_,hh,n,_⟩:=eR.cell h (gO m) (k:=9) (P:=lW m.hands) rfl;obtain⟨lv,_,_,_,_,o,p,_⟩:=eR.cell h (gO m) (k:=6) (P:=kY (.bool m.loose)) rfl;refine⟨d,rv,l,λk a=>?_,o.trans (by rw[p.1]),e,i,hh,⟨_,f⟩,⟨_,j⟩,⟨_,n⟩⟩;obtain⟨u,b⟩:∃u,(dN m.c)[k]? =some u:=⟨_,bX (by simpa [dN]using a)⟩
 have q:(mdT m)[k]? =some (kY u):=by
  rw[mdT,List.getElem?_append_left (by simpa [dN]using a),cN,b];rfl
 obtain⟨x,_,_,_,_,t,v,_⟩:=eR.cell h (gO m) q;rw[cM,t,v.1,b]
theorem MdR.ao{w b:World}{g:Nat}{m:dI}{s r h:Value}(k:MdR w g m s r h)(a:ad [] w b):MdR b g m s r h:=by
 have e:∀i u,an (hp w g) i=some u->hp b g=hp w g:=λi u d=>a.block g (by
  rcases dh g w.heap.size with h|h
  ·exact h
  ·have:hp w g=none:=by simp[hp];omega
   rw[this]at d;cases d) (by simp)
 have e:=e _ _ k.sl;obtain⟨F,f⟩:=k.sT;obtain⟨G,j⟩:=k.rT;obtain⟨H,n⟩:=k.hT;exact⟨λi o=>by rw[e];exact k.c i o,by rw[e];exact k.l,by rw[e];exact k.sl,by rw[e];exact k.rl,by rw[e];exact k.hl,
  ⟨F,(tK _).frame f (bl.bL a cL) λ_ _ h=>h⟩,⟨G,(good_rgs _).frame j (bl.bL a cL) λ_ _ h=>h⟩,⟨H,(tL _).frame n (bl.bL a cL) λ_ _ h=>h⟩⟩
theorem pD{w:World}{L:List iH}{s:Value}(h:∃F,k0 L w F s):∃A c,s= .slice A L.length c/\fp w A (L.flatMap gD):=by
 obtain⟨F,h⟩:=h;obtain⟨a,_⟩:=gN h;obtain⟨A,c,e,r,_⟩:=aT a;exact⟨A,c,e,r⟩
theorem rgs_sh{w:World}{L:List fL}{s:Value}(h:∃F,mN L w F s):∃A c,s= .slice A L.length c:=by
 obtain⟨F,h⟩:=h;obtain⟨A,c,_,_,e,_⟩:=aZ.rd h;exact⟨A,c,e⟩
theorem hands_sh{w:World}{L:List qL}{s:Value}(h:∃F,lW L w F s):∃A c,s= .slice A L.length c:=by
 obtain⟨F,h⟩:=h;obtain⟨A,c,_,_,e,_⟩:=aZ.rd h;exact⟨A,c,e⟩
theorem c_mSlot{w:World}{g:Nat}{m:dI}{s r h:Value}(M:MdR w g m s r h)(n:Int):aa prog 74 [bS g,bN n] w λv b=>v= .bool (decide (0<=n/\n<m.slots.length))/\b=w:=by
 apply F74_ok;obtain⟨A,c,rfl,_⟩:=pD M.sT;by_cases a:0<=n
 ·simp only[F74,zS,a,mj,tf,M.sl,len_86];exact⟨by simp,trivial⟩
 ·simp only[F74,zS,a];exact⟨by simp,trivial⟩
def ec(L:List fL)(n:iH):Option Nat:=L.findIdx? (λr=>decide (r.nm=n))
theorem box_nm{w:World}(n:iH):hp (w.alloc (.cells (gD n).toArray 96)) w.heap.size=some (.cells (gD n).toArray 96):=by rw[af,bU rfl]
structure RgR(w:World)(b o:Nat)(r:fL)(cv wv ov:Value):Prop where
 c0:an (hp w b) (o+0)=some (bN r.nm.1)
 c1:an (hp w b) (o+1)=some (bN r.nm.2)
 c2:an (hp w b) (o+2)=some (bN r.cls)
 c3:an (hp w b) (o+3)=some (bN r.off)
 c4:an (hp w b) (o+4)=some cv
 c5:an (hp w b) (o+5)=some wv
 c6:an (hp w b) (o+6)=some ov
 cT:∃F,fA r.chunks w F cv
 wT:∃F,gS r.words w F wv
 oT:∃F,oF r.objs w F ov
theorem rg_at{w:World}{L:List fL}{F:Fp}{x:Value}(h:mN L w F x){i:Nat}{r:fL}(g:L[i]? =some r):∃b c,x= .slice (some ⟨b,0,none⟩) L.length c/\∃j wv ov,RgR w b (i*7) r j wv ov:=by
 have get:∀k,k<7->(L.flatMap rgT)[i*7+k]? =(rgT r)[k]? :=λk l=>bK qq L i r g k l;obtain⟨b,c,K,M,m,_,_,_,a,n,_⟩:=aZ.cell h (je L) (get 0 dB);obtain⟨O,P,Q,R,o,_,_,_,d,p,_⟩:=aZ.cell h (je L) (get 1 dB);obtain⟨S,T,v2,U,q,_,_,_,e,s,_⟩:=aZ.cell h (je L) (get 2 dB);obtain⟨V,W,X,F3,t,_,_,_,f,u,_⟩:=aZ.cell h (je L) (get 3 dB);obtain⟨Y,Z,v,F4,y,_,_,_,z,A,_⟩:=aZ.cell h (je L) (get 4 dB);obtain⟨b5,c5,B,F5,C,_,_,_,D,E,_⟩:=aZ.cell h (je L) (get 5 dB);obtain⟨b6,c6,G,F6,H,_,_,_,I,J,_⟩:=aZ.cell h (je L) (get 6 dB);subst m;cases o;cases q;cases t;cases y;cases C;cases H;rw[n.1]at a;rw[p.1]at d;rw[s.1]at e;rw[u.1]at f;exact⟨b,c,rfl,v,B,G,a,d,e,f,z,D,I,⟨F4,A⟩,⟨F5,E⟩,⟨F6,J⟩⟩
theorem tM{L:List fL}{n:iH}(h:∀(j:Nat) (r:fL),L[j]? =some r->r.nm≠n):ec L n=none:=by
 rw[ec,List.findIdx?_eq_none_iff];intro r a;obtain⟨j,b⟩:=List.getElem?_of_mem a;simpa using h j r b
theorem findR_some{L:List fL}{n:iH}{i:Nat}{r:fL}(b:L[i]? =some r)(c:r.nm=n)(h:∀(j:Nat) (r:fL),j<i->L[j]? =some r->r.nm≠n):ec L n=some i:=by
 have a:=(bY.1 b).1;rw[ec,List.findIdx?_eq_some_iff_getElem];refine⟨a,?_,λj d=>?_⟩
 ·rw[bX a]at b;cases b;simpa using c
 ·simpa using h j _ d (bX dB)
theorem ldL_two{x:Option Obj}{o:Nat}{a b:Value}(d:an x (o+0)=some a)(e:an x (o+1)=some b):ldL x o 2=some [a,b]:=mw 2 o [a,b] rfl λj u c=>by
 rcases j with _|_|j
 ·simp at c;subst c;exact d
 ·simp at c;subst c;exact e
 ·simp at c
theorem nm_beq(a b:iH):((a.1==b.1)&&((a.2==b.2)&&true))=decide (a=b):=by
 obtain⟨a1,a2⟩:=a;obtain⟨c,d⟩:=b;by_cases e:a1=c<;>by_cases f:a2=d<;>simp[e,f]
theorem sL{w:World}{g:Nat}{m:dI}{s r h:Value}(M:MdR w g m s r h)(n:iH)(X:m.rgs.length<=1000000):aa prog 40 [bS g,.agg (gD n).toArray] w λv D=>
  ad [] w D/\((ec m.rgs n=none/\v= .pointer none)\/∃i a b c,ec m.rgs n=some i/\m.rgs[i]? =some a/\r= .slice (some ⟨b,0,none⟩) m.rgs.length c/\v= .pointer (some ⟨b,i*7,none⟩)):=by
 apply F40_ok;have t:=box_nm (w:=w) n;have l:ad [] w (w.alloc (.cells (gD n).toArray 96)):=(ad.refl _ _).alloc _;simp only[F40,ak,aq];generalize w.alloc (.cells (gD n).toArray 96)=w0 at*;have E:=M.ao l;obtain⟨A,c,u⟩:=rgs_sh E.rT;generalize w.heap.size=G at*;have x:=E.rl;rw[u]at x;simp only[zS,fa_90_3,ld_87,x,len_87];have y:∀(d i:Nat) (w1:World),ad [] w0 w1->(∀ (j:Nat) (r:fL),j<i->m.rgs[j]? =some r->r.nm≠n)->i+d=m.rgs.length->
   P40_0 (bS g) (bS G) (bN m.rgs.length) (bN i) w1 λv D=>
  ad [] w D/\((ec m.rgs n=none/\v= .pointer none)\/∃i a b c,ec m.rgs n=some i/\m.rgs[i]? =some a/\r= .slice (some ⟨b,0,none⟩) m.rgs.length c/\v= .pointer (some ⟨b,i*7,none⟩)):=by
  intro d;induction d with
  |zero=>
   intro i w1 q B P;apply L40_0_ok;have:¬(i:Int)<m.rgs.length:=dB;simp only[L40_0,zS,this];exact⟨l.trans q,.inl ⟨tM λj r C=>B j r (by have:=(bY.1 C).1;omega) C,by first|rfl|trivial⟩⟩
  |succ d Q=>
   intro i w1 q B P;apply L40_0_ok;have H:(i:Int)<m.rgs.length:=dB;obtain⟨a,e⟩:∃a,m.rgs[i]? =some a:=⟨_,bX dB⟩
   have J:=E.ao q;obtain⟨F,S⟩:=J.rT;obtain⟨b,K,L,Y,wv,ov,R⟩:=rg_at S e;have k:=J.rl;rw[L]at k;have z:=q.at t (by simp);have O:=ia_87 (b:=b) (p:=0) (n:=m.rgs.length) (c:=K) (j:= .i64) (i:=(i:Int)) dB dB;rw[cj,cM]at O;have T:an (hp w1 G) 0=some (bN n.1):=by rw[z];rfl
   have U:an (hp w1 G) (0+1)=some (bN n.2):=by rw[z];rfl
   have I:be prog .eql 96 (.tmp 21) (.tmp 22) (.agg #[bN a.nm.1,bN a.nm.2]) (.agg #[bN n.1,bN n.2])=some (.bool (decide (a.nm=n))):=by
    rw[<- nm_beq];exact be_eql_96
   have V:=ldL_two (o:=i*7+0) R.c0 R.c1;have W:=ldL_two (o:=0) T U;simp only[L40_0,zS,H,fa_90_3,ld_87,k,O,fa_99_0,ld_96,V,W,Option.map_some,I];by_cases f:a.nm=n
   ·simp only[f,decide_true,zS];exact⟨l.trans q.drew,.inr ⟨i,a,b,K,findR_some e f B,e,L,rfl⟩⟩
   ·simp only[f,decide_false,zS,aj,ap (n:=(i:Int)+1) dB dB];have:=Q (i+1) w1.drew q.drew (λj r C u=>by
     rcases dh j i with h1|h1
     ·exact B j r h1 u
     ·have:j=i:=dB;subst this;rw[e]at u;cases u;exact f) dB
    rw[df i 1]at this;exact this
 exact y m.rgs.length 0 w0 (ad.refl _ _) (λj r C=>dB) dB
theorem slot_at{w:World}{A:Option Addr}{c:Nat}{L:List iH}(h:fp w A (L.flatMap gD)){i:Nat}{p:iH}(a:L[i]? =some p):
  ∃b o,ai prog (Instr.indexAt 86 (.slice A L.length c) (bN i))=some (.pointer (some ⟨b,o,none⟩))/\an (hp w b) (o+0)=some (bN p.1)/\an (hp w b) (o+1)=some (bN p.2):=by
 have f:=(bY.1 a).1;obtain⟨b,o,e,d,_⟩:=h.elem (P:=prog) (c:=c) (n:=L.length) (i:=(i:Int)) (j:= .i64) Tryz.underlying86 sz_142 dB (by rw[hU m9];exact cy _) dB dB;rw[cj]at d;exact⟨b,o,e,(d 0 dB).trans (bK m9 L i p a 0 dB),(d 1 dB).trans (bK m9 L i p a 1 dB)⟩
theorem kD(h:eN)(w:World):aa prog 41 [.agg (ba h).toArray] w λv b=>v= .agg (gD (h.1,h.2.1)).toArray/\ad [] w b:=by
 apply F41_ok;simp only[F41,ak,aq,al_96,ah];generalize a:(w.alloc (.cells (ba h).toArray 32)).alloc _=w1;have d:ad [] w w1:=by rw[<- a];exact((ad.refl _ _).alloc _).alloc _
 have a1:hp w1 w.heap.size=some (.cells (ba h).toArray 32):=by rw[<- a,af,ah,bV dB,af,bU rfl]
 have a2:hp w1 (w.heap.size+1)=some (.cells #[bN 0,bN 0] 96):=by rw[<- a,af,ah,bU rfl]
 clear a;have e:(ba h).toArray[0+0]? =some (bN h.1):=rfl;have f:(ba h).toArray[0+1]? =some (bN h.2.1):=rfl;simp only[zS,bu,gm,ag,a1,e,f,bd_96_0_1];rw[st_96 (by rfl) (by rfl) (by rw[a2];rfl) (by rw[a2];rfl),a2];simp only[au];have g:hp (put w1 (w.heap.size+1) #[bN h.1,bN h.2.1] 96) (w.heap.size+1)=some (.cells #[bN h.1,bN h.2.1] 96):=ar (aD a2) _ _;rw[aR (c:= #[bN h.1,bN h.2.1]) ag_96 sz_96 g,ac];exact⟨rfl,d.put (.inr dB) _ _⟩
def ft(m:dI)(n:iH):Bool:=decide (0<=n.1/\n.1<m.slots.length)&&decide (m.slots[n.1.toNat]? =some (1,n.2))
theorem c_mIsLive{w:World}{g:Nat}{m:dI}{s r h:Value}(M:MdR w g m s r h)(n:iH):aa prog 71 [bS g,.agg (gD n).toArray] w λv x=>v= .bool (ft m n)/\ad [] w x:=by
 apply F71_ok;have a:=box_nm (w:=w) n;have e:ad [] w (w.alloc (.cells (gD n).toArray 96)):=(ad.refl _ _).alloc _;simp only[F71,ak,aq];generalize w.alloc (.cells (gD n).toArray 96)=w0 at*;have k:=(M.ao e).ao (ad.refl _ _).drew;have l:hp w0.drew w.heap.size=some (.cells (gD n).toArray 96):=a;have f:=e.drew;have t:(gD n).toArray[0+0]? =some (bN n.1):=rfl;have y:(gD n).toArray[0+1]? =some (bN n.2):=rfl;simp only[zS,fa_96_0,ag,a,t];generalize w0.drew=w1 at*;refine(c_mSlot k n.1).step ?_;obtain⟨A,c,rfl,z⟩:=pD k.sT;by_cases j:0<=n.1/\n.1<m.slots.length
 ·obtain⟨p,i⟩:∃p,m.slots[n.1.toNat]? =some p:=⟨_,bX dB⟩
  obtain⟨b,o,u,B,C⟩:=slot_at (c:=c) z i;have d:((n.1.toNat:Nat):Int)=n.1:=dB;rw[d]at u;have D:=ldL_two B C;have q:be prog .eql 142 (.tmp 17) (.tmp 20) (.agg #[bN p.1,bN p.2]) (.agg #[bN 1,bN n.2])=some (.bool (decide (p=(1,n.2)))):=by
   rw[<- nm_beq];exact be_eql_142
  simp only[zS,j,and_self,mj,tf,k.sl,fa_96_1,ag,l,t,y,u,ld_142,D,Option.map_some,bd_142_0_1,q];refine⟨?_,f⟩;rw[ft,i,cr j,Bool.true_and];simp
 ·simp only[zS,j];exact⟨by simp[ft,j],f⟩
def gf(L:List iH):Nat:=(L.filter λp=>decide (p.1=0)).length
theorem spareN_snoc(L:List iH)(p:iH):gf (L++ [p])=gf L+if p.1=0 then 1 else 0:=by
 simp only[gf,List.filter_append,cq];by_cases h:p.1=0<;>simp[h]
theorem c_mSpare{w:World}{g:Nat}{m:dI}{s r h:Value}(M:MdR w g m s r h)(S:m.slots.length<=1000000):aa prog 73 [bS g] w λv e=>v=bN (gf m.slots)/\ad [] w e:=by
 apply F73_ok;obtain⟨A,c,F,G⟩:=pD M.sT;have f:=M.sl;rw[F]at f;simp only[F73,zS,mj,tf,f,len_86];have j:∀(d i:Nat) (w1:World),ad [] w w1->i+d=m.slots.length->
   P73_0 (bN (gf (m.slots.take i))) (.slice A m.slots.length c) (bN m.slots.length) (bN i) w1 λv e=>v=bN (gf m.slots)/\ad [] w e:=by
  intro d;induction d with
  |zero=>
   intro i w1 u H;apply L73_0_ok;have:¬(i:Int)<m.slots.length:=dB;simp only[L73_0,zS,this];rw[dA dB];exact⟨rfl,u⟩
  |succ d I=>
   intro i w1 u H;apply L73_0_ok;have x:(i:Int)<m.slots.length:=dB;have l:i<m.slots.length:=dB;obtain⟨b,o,J,K,L⟩:=slot_at (c:=c) (G.ao u.below) (bX l);have O:=ldL_two K L;have P:gf (m.slots.take i)<=i:=by
    have:=List.length_filter_le (λp:iH=>decide (p.1=0)) (m.slots.take i);simp only[gf];simp at this ⊢;omega
   have q:gf (m.slots.take (i+1))=gf (m.slots.take i)+if(m.slots[i]).1=0 then 1 else 0:=by
    rw[List.take_add_one,bX l];exact spareN_snoc _ _
   generalize m.slots[i]=p at*;simp only[L73_0,zS,x,J,ld_142,O,Option.map_some,al_142];rw[st_142 (by rfl) (by rfl) (by rw[af,bU rfl];rfl) (by rw[af,bU rfl];rfl),af,bU rfl];simp only[au];generalize C:w1.alloc _=t;have y:ad [] w1 t:=by rw[<- C];exact(ad.refl _ _).alloc _
   have Q:t.heap.size=w1.heap.size+1:=by rw[<- C];simp
   have z:ad [] w1 (put t w1.heap.size [Value.int .i64 p.1,Value.int .i64 p.2].toArray 142):=y.put (.inr (cy _)) _ _;have D:hp (put t w1.heap.size [Value.int .i64 p.1,Value.int .i64 p.2].toArray 142) w1.heap.size=some (.cells [Value.int .i64 p.1,Value.int .i64 p.2].toArray 142):=by rw[bm,bU rfl,bU dB]
   generalize put t w1.heap.size [Value.int .i64 p.1,Value.int .i64 p.2].toArray 142=w2 at*;have E:([Value.int .i64 p.1,Value.int .i64 p.2].toArray)[0+0]? =some (Value.int .i64 p.1):=rfl;have B:=u.trans z;have one:∀k:Nat,k=gf (m.slots.take (i+1))->P73_1 (bN k) (.slice A m.slots.length c) (bN m.slots.length) (bN i) w2 λv e=>v=bN (gf m.slots)/\ad [] w e:=by
    rintro k rfl;apply L73_1_ok;simp only[L73_1,zS,aj,ap (n:=(i:Int)+1) dB dB];have:=I (i+1) w2 B dB;rw[df i 1]at this;exact this
   by_cases a:p.1=0
   ·have R:(p.1==0)=true:=by rw[a];rfl
    simp only[zS,kT,ag,D,E,R,aj,ap (n:=(gf (m.slots.take i):Int)+1) dB dB];have:=one (gf (m.slots.take i)+1) (by rw[q,bU a]);rw[df _ 1]at this;exact this
   ·simp only[zS,kT,ag,D,E,aW a];exact one _ (by rw[q,bV a];rfl)
 exact j m.slots.length 0 w (ad.refl _ _) dB
def nc{α:Type} [DecidableEq α](L:List α)(x:α):Int:=match L.findIdx? (λy=>decide (y=x))with|some i=>(i:Int)|none=> -1
theorem pE{α:Type} [DecidableEq α]{L:List α}{x:α}(h:∀(j:Nat) (y:α),L[j]? =some y->y≠x):nc L x= -1:=by
 have:L.findIdx? (λy=>decide (y=x))=none:=by
  rw[List.findIdx?_eq_none_iff];intro r a;obtain⟨j,b⟩:=List.getElem?_of_mem a;simpa using h j r b
 rw[nc,this]
theorem sM{α:Type} [DecidableEq α]{L:List α}{x y:α}{i:Nat}(b:L[i]? =some y)(c:y=x)(h:∀(j:Nat) (y:α),j<i->L[j]? =some y->y≠x):nc L x=i:=by
 have a:=(bY.1 b).1;have:L.findIdx? (λy=>decide (y=x))=some i:=by
  rw[List.findIdx?_eq_some_iff_getElem];refine⟨a,?_,λj d=>?_⟩
  ·rw[bX a]at b;cases b;simpa using c
  ·simpa using h j _ d (bX dB)
 rw[nc,this]
theorem rM{α:Type} [DecidableEq α](L:List α)(x:α):decide (0<=nc L x)=decide (x∈L):=by
 by_cases h:x∈L
 ·rw[cr h];unfold nc;split
  ·simp
  ·rename_i a;rw[List.findIdx?_eq_none_iff]at a;have:=a x h;simp at this
 ·rw[bZ h,pE λj y hj e=>by subst e;exact h (cD hj)];simp
theorem hn_beq(a b:eN):((a.1==b.1)&&((a.2.1==b.2.1)&&((a.2.2.1==b.2.2.1)&&((a.2.2.2.1==b.2.2.2.1)&&((a.2.2.2.2==b.2.2.2.2)&&true)))))=decide (a=b):=by
 obtain⟨a1,a2,a3,a4,a5⟩:=a;obtain⟨c,d,e,f,g⟩:=b;by_cases i:a1=c<;>by_cases j:a2=d<;>by_cases k:a3=e<;>by_cases l:a4=f<;>by_cases m:a5=g<;>simp[i,j,k,l,m]
theorem c_nIndex{w:World}{A:Option Addr}{c:Nat}{L:List iH}(G:fp w A (L.flatMap gD))(O:L.length<=1000000)(x:iH):aa prog 122 [.slice A L.length c,.agg (gD x).toArray] w λv q=>v=bN (nc L x)/\ad [] w q:=by
 apply F122_ok;have g:hp (w.alloc (.cells (gD x).toArray 96)) w.heap.size=some (.cells (gD x).toArray 96):=by rw[af,bU rfl]
 have s:ad [] w (w.alloc (.cells (gD x).toArray 96)):=(ad.refl _ _).alloc _;simp only[F122,ak,aq,ac,len_134];generalize w.alloc (.cells (gD x).toArray 96)=w0 at*;generalize w.heap.size=u at*;have k:∀(d i:Nat) (w1:World),ad [] w w1->hp w1 u=some (.cells (gD x).toArray 96)->(∀ (j:Nat) (y:iH),j<i->L[j]? =some y->y≠x)->i+d=L.length->
   P122_0 (.slice A L.length c) (bS u) (bN L.length) (bN i) w1 λv q=>v=bN (nc L x)/\ad [] w q:=by
  intro d;induction d with
  |zero=>
   intro i w1 l hb m H;apply L122_0_ok;have:¬(i:Int)<L.length:=dB;simp only[L122_0,zS,this];rw[pE λj y hj=>m j y (by have:=(bY.1 hj).1;omega) hj];exact⟨rfl,l⟩
  |succ d I=>
   intro i w1 l hb m H;apply L122_0_ok;have B:(i:Int)<L.length:=dB;have f:i<L.length:=dB;obtain⟨y,p⟩:∃y,L[i]? =some y:=⟨_,bX f⟩
   obtain⟨b,o,J,_,F,_⟩:=(G.ao l.drew.below).elem (P:=prog) (c:=c) (n:=L.length) (i:=(i:Int)) (j:= .i64) Tryz.underlying134 sz_96 dB (by rw[gL m9];exact cy _) dB dB;have C:L[i]=y:=by rw[bX f]at p;exact Option.some.inj p
   rw[cj,jX m9 L i f,C]at F;have K:=aR (t:=96) (c:=(gD x).toArray) ag_96 (show(Tryz.prog.info? 96).map (·.size)=some (gD x).toArray.size from sz_96) (show hp w1.drew u=_ from hb);have M:gi prog 96 (.pointer (some ⟨b,o,none⟩)) w1.drew=some (.agg (gD y).toArray):=by rw[ld_96,F];rfl
   have D:be prog .eql 96 (.tmp 11) (.tmp 15) (.agg (gD x).toArray) (.agg (gD y).toArray)=some (.bool (decide (x=y))):=by
    rw[<- nm_beq];exact be_eql_96
   simp only[L122_0,zS,B,K,J,M,D];by_cases a:x=y
   ·simp only[a,decide_true,zS];rw[<- a,sM p a.symm m];exact⟨rfl,l.drew⟩
   ·simp only[a,decide_false,zS,aj,ap (n:=(i:Int)+1) dB dB];have:=I (i+1) w1.drew l.drew hb (λj z hj E=>by
     rcases dh j i with h1|h1
     ·exact m j z h1 E
     ·have:j=i:=dB;subst this;rw[p]at E;cases E;exact λe=>a e.symm) dB
    rw[df i 1]at this;exact this
 exact k L.length 0 w0 s g (λj r hj=>dB) dB
theorem c_hIndex{w:World}{A:Option Addr}{c:Nat}{L:List eN}(G:fp w A (L.flatMap ba))(O:L.length<=1000000)(x:eN):aa prog 163 [.slice A L.length c,.agg (ba x).toArray] w λv q=>v=bN (nc L x)/\ad [] w q:=by
 apply F163_ok;have g:hp (w.alloc (.cells (ba x).toArray 32)) w.heap.size=some (.cells (ba x).toArray 32):=by rw[af,bU rfl]
 have s:ad [] w (w.alloc (.cells (ba x).toArray 32)):=(ad.refl _ _).alloc _;simp only[F163,ak,aq,ac,len_76];generalize w.alloc (.cells (ba x).toArray 32)=w0 at*;generalize w.heap.size=u at*;have k:∀(d i:Nat) (w1:World),ad [] w w1->hp w1 u=some (.cells (ba x).toArray 32)->(∀ (j:Nat) (y:eN),j<i->L[j]? =some y->y≠x)->i+d=L.length->
   P163_0 (.slice A L.length c) (bS u) (bN L.length) (bN i) w1 λv q=>v=bN (nc L x)/\ad [] w q:=by
  intro d;induction d with
  |zero=>
   intro i w1 l hb m H;apply L163_0_ok;have:¬(i:Int)<L.length:=dB;simp only[L163_0,zS,this];rw[pE λj y hj=>m j y (by have:=(bY.1 hj).1;omega) hj];exact⟨rfl,l⟩
  |succ d I=>
   intro i w1 l hb m H;apply L163_0_ok;have B:(i:Int)<L.length:=dB;have f:i<L.length:=dB;obtain⟨y,p⟩:∃y,L[i]? =some y:=⟨_,bX f⟩
   obtain⟨b,o,J,_,F,_⟩:=(G.ao l.drew.below).elem (P:=prog) (c:=c) (n:=L.length) (i:=(i:Int)) (j:= .i64) Tryz.underlying76 lP dB (by rw[gL hnC_len];exact cy _) dB dB;have C:L[i]=y:=by rw[bX f]at p;exact Option.some.inj p
   rw[cj,jX hnC_len L i f,C]at F;have K:=aR (t:=32) (c:=(ba x).toArray) qJ (show(Tryz.prog.info? 32).map (·.size)=some (ba x).toArray.size from lP) (show hp w1.drew u=_ from hb);have M:gi prog 32 (.pointer (some ⟨b,o,none⟩)) w1.drew=some (.agg (ba y).toArray):=by rw[ld_32,F];rfl
   have D:be prog .eql 32 (.tmp 11) (.tmp 15) (.agg (ba x).toArray) (.agg (ba y).toArray)=some (.bool (decide (x=y))):=by
    rw[<- hn_beq];exact be_eql_32
   simp only[L163_0,zS,B,K,J,M,D];by_cases a:x=y
   ·simp only[a,decide_true,zS];rw[<- a,sM p a.symm m];exact⟨rfl,l.drew⟩
   ·simp only[a,decide_false,zS,aj,ap (n:=(i:Int)+1) dB dB];have:=I (i+1) w1.drew l.drew hb (λj z hj E=>by
     rcases dh j i with h1|h1
     ·exact m j z h1 E
     ·have:j=i:=dB;subst this;rw[p]at E;cases E;exact λe=>a e.symm) dB
    rw[df i 1]at this;exact this
 exact k L.length 0 w0 s g (λj r hj=>dB) dB
theorem c_nContains{w:World}{A:Option Addr}{c:Nat}{L:List iH}(d:fp w A (L.flatMap gD))(e:L.length<=1000000)(x:iH):aa prog 70 [.slice A L.length c,.agg (gD x).toArray] w λv f=>v= .bool (decide (x∈L))/\ad [] w f:=by
 apply F70_ok;have a:hp (w.alloc (.cells (gD x).toArray 96)) w.heap.size=some (.cells (gD x).toArray 96):=by rw[af,bU rfl]
 have b:ad [] w (w.alloc (.cells (gD x).toArray 96)):=(ad.refl _ _).alloc _;simp only[F70,ak,aq];generalize w.alloc (.cells (gD x).toArray 96)=w0 at*;simp only[aR (t:=96) (c:=(gD x).toArray) ag_96 (show(Tryz.prog.info? 96).map (·.size)=some (gD x).toArray.size from sz_96) a,ac];refine(c_nIndex (c:=c) (d.ao b.below) e x).mono ?_;rintro _ w1 ⟨rfl,g⟩;simp only[zS];exact⟨by rw[rM];congr,b.trans g⟩
theorem c_hContains{w:World}{A:Option Addr}{c:Nat}{L:List eN}(d:fp w A (L.flatMap ba))(e:L.length<=1000000)(x:eN):aa prog 121 [.slice A L.length c,.agg (ba x).toArray] w λv f=>v= .bool (decide (x∈L))/\ad [] w f:=by
 apply F121_ok;have a:hp (w.alloc (.cells (ba x).toArray 32)) w.heap.size=some (.cells (ba x).toArray 32):=by rw[af,bU rfl]
 have b:ad [] w (w.alloc (.cells (ba x).toArray 32)):=(ad.refl _ _).alloc _;simp only[F121,ak,aq];generalize w.alloc (.cells (ba x).toArray 32)=w0 at*;simp only[aR (t:=32) (c:=(ba x).toArray) qJ (show(Tryz.prog.info? 32).map (·.size)=some (ba x).toArray.size from lP) a,ac];refine(c_hIndex (c:=c) (d.ao b.below) e x).mono ?_;rintro _ w1 ⟨rfl,g⟩;simp only[zS];exact⟨by rw[rM];congr,b.trans g⟩
theorem objs_sh{w:World}{L:List eN}{s:Value}(h:∃F,oF L w F s):∃A c,s= .slice A L.length c/\fp w A (L.flatMap ba):=by
 obtain⟨F,h⟩:=h;obtain⟨a,_⟩:=gN h;obtain⟨A,c,e,r,_⟩:=aT a;exact⟨A,c,e,r⟩
theorem lf{w:World}{L:List Int}{s:Value}(h:∃F,fA L w F s):∃A c,s= .slice A L.length c/\sZ .i64 w A L:=by
 obtain⟨F,h⟩:=h;obtain⟨a,_⟩:=gN h;obtain⟨_,A,c,e,r,_⟩:=rd_of_own a;exact⟨A,c,e,r⟩
def eA(m:dI)(h:eN)(of:Int):Bool:=match ec m.rgs (h.1,h.2.1)with
 |none=>false
 |some i=>if h.2.2.2.2=0 then decide (h.2.2.1=0)&&(decide (h.2.2.2.1=0)&&decide (of≠2))else decide (of≠1)&&(match m.rgs[i]? with|some r=>decide (h∈r.objs)|none=>false)
theorem c_mKnown{w:World}{g:Nat}{m:dI}{s r hh:Value}(M:MdR w g m s r hh)(h:eN)(of:Int)(P:m.rgs.length<=1000000)(Q:∀l∈m.rgs,l.objs.length<=1000000):aa prog 69 [bS g,.agg (ba h).toArray,bN of] w λv n=>v= .bool (eA m h of)/\ad [] w n:=by
 apply F69_ok;have e:hp (w.alloc (.cells (ba h).toArray 32)) w.heap.size=some (.cells (ba h).toArray 32):=by rw[af,bU rfl]
 have o:ad [] w (w.alloc (.cells (ba h).toArray 32)):=(ad.refl _ _).alloc _;simp only[F69,ak,aq];generalize w.alloc (.cells (ba h).toArray 32)=w0 at*;generalize w.heap.size=J at*;have p:∀n,hp n J=some (.cells (ba h).toArray 32)->gi prog 32 (bS J) n=some (.agg (ba h).toArray):=λn S=>aR (t:=32) (c:=(ba h).toArray) qJ (show(Tryz.prog.info? 32).map (·.size)=some (ba h).toArray.size from lP) S;simp only[p _ e,ac];refine(kD h w0).mono ?_;rintro _ w1 ⟨rfl,C⟩;refine(sL ((M.ao o).ao C) (h.1,h.2.1) P).mono ?_;rintro v w2 ⟨K,T⟩;have a:=o.trans (C.trans K);have U:=M.ao a;have d:=(C.trans K).at e (by simp);rcases T with⟨y,rfl⟩|⟨i,l,b,c,y,f,V,rfl⟩
 ·simp only[zS,sx Tryz.underlying100];refine⟨?_,a⟩;simp[eA,y]
 ·obtain⟨F,W⟩:=U.rT;obtain⟨b',c',q,cv,wv,ov,R⟩:=rg_at W f;rw[V]at q;cases q;have D:(ba h).toArray[0+2]? =some (bN h.2.2.1):=rfl;have L:(ba h).toArray[0+3]? =some (bN h.2.2.2.1):=rfl;have u:(ba h).toArray[0+4]? =some (bN h.2.2.2.2):=rfl;by_cases x:h.2.2.2.2=0
  ·have E:(h.2.2.2.2==0)=true:=by rw[x];rfl
   have j:eA m h of=(decide (h.2.2.1=0)&&(decide (h.2.2.2.1=0)&&decide (of≠2))):=by rw[eA,y];simp only[x,if_true]
   by_cases z:h.2.2.1=0
   ·have k2:(h.2.2.1==0)=true:=by rw[z];rfl
    by_cases B:h.2.2.2.1=0
    ·have X:(h.2.2.2.1==0)=true:=by rw[B];rfl
     simp only[zS,sx Tryz.underlying100,iz,eX,hC,ag,d,u,D,L,E,k2,X];refine⟨?_,a⟩;rw[j];by_cases k:of=2<;>simp[z,B,k]
    ·simp only[zS,sx Tryz.underlying100,iz,eX,hC,ag,d,u,D,L,E,k2,aW B];refine⟨?_,a⟩;rw[j];simp[B]
   ·simp only[zS,sx Tryz.underlying100,iz,eX,hC,ag,d,u,D,E,aW z];refine⟨?_,a⟩;rw[j];simp[z]
  ·have j:eA m h of=(decide (of≠1)&&decide (h∈l.objs)):=by rw[eA,y];simp only[x,if_false,f]
   by_cases k:of=1
   ·have G:(of !=1)=false:=by rw[k];rfl
    simp only[zS,sx Tryz.underlying100,iz,ag,d,u,aW x,G];refine⟨?_,a.drew⟩;rw[j];simp[k]
   ·have G:(of !=1)=true:=bne_iff_ne.2 k;obtain⟨A,O,H,Y⟩:=objs_sh R.oT;have I:=R.c6;rw[H]at I;have Z:an (hp w2.drew b) (i*7+6)=some (.slice A l.objs.length O):=I;simp only[zS,sx Tryz.underlying100,iz,ag,d,u,aW x,G,fa_99_5,ld_76,I,p w2.drew d];refine(c_hContains (c:=O) (Y.ao (ad.refl [] _).drew.below) (Q l (cD f)) h).mono ?_;rintro _ w3 ⟨rfl,c3⟩;refine⟨?_,a.trans ((ad.refl _ _).drew.trans c3)⟩;rw[j];simp[k]
def iC(w n:Int):Bool:=decide (1<=w/\w<=1024/\1<=n/\n<=w)
theorem c_sRight(a n:Int)(w:World):aa prog 124 [bN a,bN n] w λv e=>v= .bool (iC a n)/\e=w:=by
 apply F124_ok;by_cases b:1<=a
 ·by_cases c:a<=1024
  ·by_cases d:1<=n
   ·simp only[F124,zS,b,c,d];exact⟨by simp[iC,b,c,d],trivial⟩
   ·simp only[F124,zS,b,c,d];exact⟨by simp[iC,d],trivial⟩
  ·simp only[F124,zS,b,c];exact⟨by simp[iC,c],trivial⟩
 ·simp only[F124,zS,b];exact⟨by simp[iC,b],trivial⟩
def mO(w n:Int):Bool:=iC w n&&decide (w<2*n)
theorem pF{a n:Int}(h:iC a n=true):1<=a/\a<=1024/\1<=n/\n<=a:=of_decide_eq_true h
theorem c_sAlone(a n:Int)(w:World):aa prog 125 [bN a,bN n] w λv c=>v= .bool (mO a n)/\c=w:=by
 apply F125_ok;simp only[F125];refine(c_sRight a n w).step ?_;cases b:iC a n with
 |true=>
  have:=pF b;simp only[zS,jB,ap (n:=2*n) dB dB];exact⟨by simp[mO,b],trivial⟩
 |false=>
  simp only[zS];exact⟨by simp[mO,b],trivial⟩
def lQ(w off n:Int):Bool:=iC w n&&(!mO w n&&(decide (0<=off)&&decide (off<=w-n)))
theorem c_sFits(a off n:Int)(w:World):aa prog 123 [bN a,bN off,bN n] w λv e=>v= .bool (lQ a off n)/\e=w:=by
 apply F123_ok;simp only[F123];refine(c_sRight a n w).step ?_;cases c:iC a n with
 |true=>
  have:=pF c;simp only[zS];refine(c_sAlone a n w).step ?_;cases d:mO a n with
  |true=>
   simp only[zS];exact⟨by simp[lQ,d],trivial⟩
  |false=>
   by_cases b:0<=off
   ·simp only[zS,aH,b,ap (n:=a-n) dB dB];exact⟨by simp[lQ,c,d,b],trivial⟩
   ·simp only[zS,b];exact⟨by simp[lQ,b],trivial⟩
 |false=>
  simp only[zS];exact⟨by simp[lQ,c],trivial⟩
def eC(w n:Int):Int:=if iC w n then(if mO w n then w else n)else 0
theorem c_sAfter(a n:Int)(w:World):aa prog 79 [bN a,bN n] w λv d=>v=bN (eC a n)/\d=w:=by
 apply F79_ok;simp only[F79];refine(c_sRight a n w).step ?_;cases b:iC a n with
 |true=>
  simp only[zS];refine(c_sAlone a n w).step ?_;cases c:mO a n with
  |true=>
   simp only[zS];exact⟨by simp[eC,b,c],trivial⟩
  |false=>
   simp only[zS];exact⟨by simp[eC,b,c],trivial⟩
 |false=>
  simp only[zS];exact⟨by simp[eC,b],trivial⟩
def gW(s n:Int):Int:=(n+s-1)/s*s
def stepOf(cls:Int):Int:=if cls<=0 then 1 else if cls=1 then 2 else if cls=2 then 4 else 8
def bF(cls n:Int):Int:=if n<1\/1024<n then 0 else gW (stepOf cls) n
theorem quo_nn{a b:Int}(h:0<=a):a.tdiv b=a/b:=Int.tdiv_eq_ediv_of_nonneg h
theorem shl_lit{P:Program}{t:TypeId}(k:Nat)(a:k<=3):bp P .shl t (bN 1) (bN k)=some (bN (2 ^ k)):=by
 rw[bp_shl dB];have:k=0\/k=1\/k=2\/k=3:=dB;rcases this with rfl|rfl|rfl|rfl<;>rfl
theorem c_sRound(cls n:Int)(w:World):aa prog 75 [bN cls,bN n] w λv p=>v=bN (bF cls n)/\p=w:=by
 apply F75_ok;by_cases c:n<1
 ·simp only[F75,zS,c];exact⟨by rw[bF,bU (.inl c)],trivial⟩
 by_cases d:1024<n
 ·simp only[F75,zS,c,d];exact⟨by rw[bF,bU (.inr d)],trivial⟩
 have f:∃k:Nat,k<=3/\stepOf cls=2 ^ k/\(if(3:Int)<(if(0:Int)>cls then 0 else cls)then(3:Int)else(if(0:Int)>cls then 0 else cls))=(k:Int):=by
  by_cases l:cls<=0
  ·refine⟨0,dB,by rw[stepOf,bU l];rfl,?_⟩;have:(if(0:Int)>cls then 0 else cls)=0:=by split<;>omega
   rw[this];rfl
  ·have e:(if(0:Int)>cls then 0 else cls)=cls:=by rw[bV dB]
   rw[e,stepOf,bV l];by_cases g:cls=1
   ·exact⟨1,dB,by rw[bU g];rfl,by rw[bV dB,g];rfl⟩
   ·rw[bV g];by_cases i:cls=2
    ·exact⟨2,dB,by rw[bU i];rfl,by rw[bV dB,i];rfl⟩
    ·refine⟨3,dB,by rw[bV i];rfl,?_⟩;split<;>omega
 obtain⟨k,q,r,f⟩:=f;have s:(1:Int)<=2 ^ k/\(2:Int) ^ k<=8:=by
  have:k=0\/k=1\/k=2\/k=3:=dB;rcases this with rfl|rfl|rfl|rfl<;>decide
 have u:bF cls n=gW (2 ^ k) n:=by rw[bF,bV dB,r]
 have hb:0<=gW (2 ^ k) n/\gW (2 ^ k) n<=2000:=by
  have x:=Int.ediv_mul_le (n+2 ^ k-1) (b:=2 ^ k) dB;have m:=Int.ediv_nonneg (a:=n+2 ^ k-1) (b:=2 ^ k) dB dB;have o:=Int.mul_nonneg m (show(0:Int)<=2 ^ k by omega);exact⟨o,by simp only[gW];omega⟩
 have y:0<=(n+2 ^ k-1)/2 ^ k/\(n+2 ^ k-1)/2 ^ k<=2000:=by
  have m:=Int.ediv_nonneg (a:=n+2 ^ k-1) (b:=2 ^ k) dB dB;have o:=Int.ediv_le_self (a:=n+2 ^ k-1) (2 ^ k) dB;omega
 have j:=shl_lit (P:=prog) (t:=3) k q;generalize (2:Int) ^ k=st at*;have z:= @gW st n;simp only[F75,zS,c,d,pr_max,pr_min,f,j,aj,aH,ap (n:=n+st) dB dB,ap (n:=n+st-1) dB dB,kN (show st≠0 by omega),quo_nn (show 0<=n+st-1 by omega),ap (n:=(n+st-1)/st) dB dB,jB];have:(n+st-1)/st*st=gW st n:=rfl;rw[this,ap dB dB,u];exact⟨rfl,trivial⟩
theorem RgR.ao{w c:World}{b o:Nat}{r:fL}{d wv ov:Value}(k:RgR w b o r d wv ov)(a:ad [] w c):RgR c b o r d wv ov:=by
 have e:hp c b=hp w b:=a.block b (by
  rcases dh b w.heap.size with h|h
  ·exact h
  ·have:hp w b=none:=by simp[hp];omega
   have f:=k.c0;rw[this]at f;cases f) (by simp)
 obtain⟨F,g⟩:=k.cT;obtain⟨G,i⟩:=k.wT;obtain⟨H,j⟩:=k.oT;exact⟨by rw[e];exact k.c0,by rw[e];exact k.c1,by rw[e];exact k.c2,by rw[e];exact k.c3,by rw[e];exact k.c4,by rw[e];exact k.c5,by rw[e];exact k.c6,
  ⟨F,(ga _).frame g (bl.bL a cL) λ_ _ h=>h⟩,⟨G,(gV _).frame i (bl.bL a cL) λ_ _ h=>h⟩,⟨H,(kC _).frame j (bl.bL a cL) λ_ _ h=>h⟩⟩
def iD(l:List Int):Int:=if l.length=0 then -1 else l.getD (l.length-1) 0
theorem c_mNewest{w:World}{b o:Nat}{r:fL}{k wv ov:Value}(R:RgR w b o r k wv ov)(u:r.chunks.length<=1000000):aa prog 77 [.pointer (some ⟨b,o,none⟩)] w λv l=>v=bN (iD r.chunks)/\ad [] w l:=by
 apply F77_ok;obtain⟨A,c,d,m⟩:=lf R.cT;have a:=R.c4;rw[d]at a;have p:an (hp w.drew b) (o+4)=some (.slice A r.chunks.length c):=a;by_cases f:r.chunks.length=0
 ·have e:((r.chunks.length:Int)==0)=true:=by rw[f];rfl
  simp only[F77,zS,ql,aK,a,aQ,e];exact⟨by rw[iD,bU f],ad.refl _ _⟩
 ·have e:((r.chunks.length:Int)==0)=false:=beq_eq_false_iff_ne.2 dB;have s:(r.chunks.length:Int)-1=((r.chunks.length-1:Nat):Int):=dB;obtain⟨q,t,g⟩:=(m.drew).at (P:=prog) (c:=c) (j:= .i64) Tryz.underlying22 underlying3 aE (i:=((r.chunks.length-1:Nat):Int)) dB dB;rw[cj]at g;simp only[F77,zS,ql,aK,a,aQ,e,aH,s,ap (n:=((r.chunks.length-1:Nat):Int)) dB dB,t,g];exact⟨by rw[iD,bV f],(ad.refl _ _).drew⟩
def dW(r:fL)(words need:Int):Bool:=decide (0<r.chunks.length)&&lQ words r.off need
theorem c_mFits{w:World}{b o:Nat}{r:fL}{g wv ov:Value}(R:RgR w b o r g wv ov)(words need:Int):aa prog 76 [.pointer (some ⟨b,o,none⟩),bN words,bN need] w λv i=>v= .bool (dW r words need)/\i=w:=by
 apply F76_ok;obtain⟨A,c,a,j⟩:=lf R.cT;have d:=R.c4;rw[a]at d;by_cases f:(0:Int)<r.chunks.length
 ·simp only[F76,zS,ql,fa_99_2,aK,ag,d,R.c3,aQ,f];refine(c_sFits words r.off need w).step ?_;have e:0<r.chunks.length:=dB;simp only[zS,dW,e,Bool.true_and];exact⟨trivial,trivial⟩
 ·have e:¬0<r.chunks.length:=dB;simp only[F76,zS,ql,aK,d,aQ,f];exact⟨by rw[dW,bZ e];rfl,trivial⟩
structure HdR(w:World)(b o:Nat)(d:qL)(nv:Value):Prop where
 c0:an (hp w b) (o+0)=some (bN d.depth)
 c1:an (hp w b) (o+1)=some nv
 nT:∃F,nI d.holds w F nv
theorem hd_at{w:World}{L:List qL}{F:Fp}{x:Value}(h:lW L w F x){i:Nat}{d:qL}(e:L[i]? =some d):∃b c,x= .slice (some ⟨b,0,none⟩) L.length c/\∃nv,HdR w b (i*2) d nv:=by
 have get:∀k,k<2->(L.flatMap hdT)[i*2+k]? =(hdT d)[k]? :=λk f=>bK sK L i d e k f;obtain⟨b,c,q,r,g,_,_,_,a,j,_⟩:=aZ.cell h (good_hdL L) (get 0 dB);obtain⟨s,t,l,m,n,_,_,_,o,p,_⟩:=aZ.cell h (good_hdL L) (get 1 dB);subst g;cases n;rw[j.1]at a;exact⟨b,c,rfl,l,a,o,⟨m,p⟩⟩
theorem names_sh{w:World}{L:List iH}{s:Value}(h:∃F,nI L w F s):∃A c,s= .slice A L.length c/\fp w A (L.flatMap gD):=by
 obtain⟨F,h⟩:=h;obtain⟨a,_⟩:=gN h;obtain⟨A,c,e,r,_⟩:=aT a;exact⟨A,c,e,r⟩
def lK(m:dI)(n:Int)(o:eu):Bool:=decide (0<=n)&&(decide (n<m.hands.length)&&jR o)
theorem c_mMay{w:World}{g:Nat}{m:dI}{s r h:Value}(M:MdR w g m s r h)(n:Int)(o:eu):aa prog 37 [bS g,bN n,.agg (cI o).toArray] w λv j=>v= .bool (lK m n o)/\ad [] w j:=by
 apply F37_ok;have b:hp (w.alloc (.cells (cI o).toArray 37)) w.heap.size=some (.cells (cI o).toArray 37):=by rw[af,bU rfl]
 have a:ad [] w (w.alloc (.cells (cI o).toArray 37)):=(ad.refl _ _).alloc _;simp only[F37,ak,aq];generalize w.alloc (.cells (cI o).toArray 37)=w0 at*;have i:=M.ao a;obtain⟨A,c,hh⟩:=hands_sh i.hT;have f:=i.hl;rw[hh]at f;by_cases d:0<=n
 ·by_cases e:n<(m.hands.length:Int)
  ·have k:=aR (t:=37) (c:=(cI o).toArray) td (show(Tryz.prog.info? 37).map (·.size)=some (cI o).toArray.size from nC) b;simp only[zS,d,fa_90_4,ld_88,f,len_88,e,k];refine(c_opMay o w0).mono ?_;rintro _ w1 ⟨rfl,l⟩;simp only[zS,lK,d,e,Bool.true_and];exact⟨trivial,a.trans l⟩
  ·simp only[zS,d,fa_90_4,ld_88,f,len_88,e];exact⟨by rw[lK,bZ e];simp,a⟩
 ·simp only[zS,d];exact⟨by rw[lK,bZ d];simp,a⟩
def dR(words:Int)(d:qL)(holds:Bool)(stale:Int)(o:eu)(len:Int):Int:=
 if o.1=2 then(if o.2.2.2.1<1\/words<o.2.2.2.1 then 5 else stale)
 else if o.1=3 then(if d.depth=15 then 8 else 0)
 else if o.1=4 then(if d.depth=0 then 4 else 0)
 else if o.1=5 then(if d.depth=0 then 4 else if holds then 0 else if d.holds.length=8 then 8 else stale)
 else if 6<=o.1/\o.1<=9 then(if holds=false then 4 else if len<=o.2.2.2.1 then 5 else 0)
 else if o.1=10\/o.1=12 then stale else 0
section
variable{W w:World}{g g6 g7 b k:Nat}{m:dI}{s r hh nv:Value}{o:eu}{h:eN}{d:qL}{holds:Bool}{stale:Int}
theorem l_ref2(a:ad [] W w):P38_2 w λv b=>v=bN 0/\ad [] W b:=by
 apply L38_2_ok;exact⟨rfl,a⟩
theorem l_ref3(i:ad [] W w)(l:hp w g6=some (.cells (cI o).toArray 37))(m:hp w g7=some (.cells (ba h).toArray 32))(words:Int)(j:o.1≠2/\o.1≠3/\o.1≠4/\o.1≠5){t:Bool}(n:t=decide (6<=o.1/\o.1<=9)):
  P38_3 (bS g6) (bS g7) (.bool holds) (bN stale) (bN o.1) (.bool t) w λv k=>v=bN (dR words d holds stale o h.2.2.2.2)/\ad [] W k:=by
 apply L38_3_ok;have p:(ba h).toArray[0+4]? =some (bN h.2.2.2.2):=rfl;have r:dR words d holds stale o h.2.2.2.2=if 6<=o.1/\o.1<=9 then(if holds=false then 4 else if h.2.2.2.2<=o.2.2.2.1 then 5 else 0)else if o.1=10\/o.1=12 then stale else 0:=by
  rw[dR,bV j.1,bV j.2.1,bV j.2.2.1,bV j.2.2.2]
 rw[r];by_cases a:6<=o.1/\o.1<=9
 ·have g:t=true:=by rw[n];exact cr a
  subst g;rw[bU a];cases holds with
  |false=>
   simp only[L38_3,zS];exact⟨by simp,i⟩
  |true=>
   by_cases q:h.2.2.2.2<=o.2.2.2.1
   ·simp only[L38_3,zS,bc,iz,ag,l,m,lV,p,q];exact⟨by simp,i⟩
   ·simp only[L38_3,zS,bc,iz,ag,l,m,lV,p,q];simpa using l_ref2 i
 ·have g:t=false:=by rw[n];exact bZ a
  subst g;rw[bV a];have four:∀c:Bool,P38_4 (bN stale) (.bool c) w λv k=>v=bN (if c=true then stale else 0)/\ad [] W k:=by
   intro c;apply L38_4_ok;cases c with
   |true=>simp only[L38_4,zS];exact⟨by simp,i⟩
   |false=>simp only[L38_4,zS];simpa using l_ref2 i
  by_cases b:o.1=10
  ·have f:=four true;simp only[L38_3,zS,b,Int.reduceBEq];simpa [b]using f
  ·by_cases e:o.1=12
   ·have f:=four true;simp only[L38_3,zS,e,Int.reduceBEq];simpa [e]using f
   ·have f:=four false;simp only[L38_3,zS,aW b,aW e];simpa [b,e]using f
theorem l_ref1(l:ad [] W w)(M:MdR w g m s r hh)(D:HdR w b k d nv)(i:hp w g6=some (.cells (cI o).toArray 37))(P:hp w g7=some (.cells (ba h).toArray 32)):
  P38_1 (bS g) (bS g6) (bS g7) (.pointer (some ⟨b,k,none⟩)) (.bool holds) (bN stale) w λv B=>v=bN (dR m.c.2.2.1 d holds stale o h.2.2.2.2)/\ad [] W B:=by
 apply L38_1_ok;have I:an (hp w g) (0+0+2)=some (bN m.c.2.2.1):=M.c 2 dB;by_cases k2:o.1=2
 ·have p:dR m.c.2.2.1 d holds stale o h.2.2.2.2=if o.2.2.2.1<1\/m.c.2.2.1<o.2.2.2.1 then 5 else stale:=by rw[dR,bU k2]
  rw[p];have C:(o.1==2)=true:=by rw[k2];rfl
  by_cases a:o.2.2.2.1<1
  ·simp only[L38_1,zS,am,bc,ag,i,aJ,lV,C,a];exact⟨by simp,l.drew⟩
  ·by_cases J:m.c.2.2.1<o.2.2.2.1
   ·simp only[L38_1,zS,am,bc,ag,i,aJ,lV,C,a,sE,eW,I,J];exact⟨by simp,l.drew⟩
   ·simp only[L38_1,zS,am,bc,ag,i,aJ,lV,C,a,sE,eW,I,J];exact⟨by simp,l.drew⟩
 by_cases j:o.1=3
 ·have p:dR m.c.2.2.1 d holds stale o h.2.2.2.2=if d.depth=15 then 8 else 0:=by rw[dR,bV k2,bU j]
  rw[p];have K:(o.1==3)=true:=by rw[j];rfl
  by_cases a:d.depth=15
  ·have e:(d.depth==15)=true:=by rw[a];rfl
   simp only[L38_1,zS,am,ag,i,aJ,aW k2,K,jK,D.c0,e];exact⟨by simp[a],l⟩
  ·simp only[L38_1,zS,am,ag,i,aJ,aW k2,K,jK,D.c0,aW a];simpa [a]using l_ref2 l
 by_cases n:o.1=4
 ·have p:dR m.c.2.2.1 d holds stale o h.2.2.2.2=if d.depth=0 then 4 else 0:=by rw[dR,bV k2,bV j,bU n]
  rw[p];have L:(o.1==4)=true:=by rw[n];rfl
  by_cases a:d.depth=0
  ·have e:(d.depth==0)=true:=by rw[a];rfl
   simp only[L38_1,zS,am,ag,i,aJ,aW k2,aW j,L,jK,D.c0,e];exact⟨by simp[a],l⟩
  ·simp only[L38_1,zS,am,ag,i,aJ,aW k2,aW j,L,jK,D.c0,aW a];simpa [a]using l_ref2 l
 by_cases u:o.1=5
 ·have p:dR m.c.2.2.1 d holds stale o h.2.2.2.2=if d.depth=0 then 4 else if holds then 0 else if d.holds.length=8 then 8 else stale:=by rw[dR,bV k2,bV j,bV n,bU u]
  rw[p];have y:(o.1==5)=true:=by rw[u];rfl
  by_cases a:d.depth=0
  ·have e:(d.depth==0)=true:=by rw[a];rfl
   simp only[L38_1,zS,am,ag,i,aJ,aW k2,aW j,aW n,y,jK,D.c0,e];exact⟨by simp[a],l⟩
  ·cases holds with
   |true=>
    simp only[L38_1,zS,am,ag,i,aJ,aW k2,aW j,aW n,y,jK,D.c0,aW a];simpa [a]using l_ref2 l
   |false=>
    obtain⟨A,c,E,_⟩:=names_sh D.nT;have F:=D.c1;rw[E]at F;by_cases G:d.holds.length=8
    ·have e:((d.holds.length:Int)==8)=true:=by rw[G];rfl
     simp only[L38_1,zS,am,ag,i,aJ,aW k2,aW j,aW n,y,jK,rr,ld_134,D.c0,F,aW a,len_134,e];exact⟨by simp[a,G],l⟩
    ·have e:((d.holds.length:Int)==8)=false:=beq_eq_false_iff_ne.2 dB;simp only[L38_1,zS,am,ag,i,aJ,aW k2,aW j,aW n,y,jK,rr,ld_134,D.c0,F,aW a,len_134,e];exact⟨by simp[a,G],l⟩
 have fin:∀t:Bool,t=decide (6<=o.1/\o.1<=9)->P38_3 (bS g6) (bS g7) (.bool holds) (bN stale) (bN o.1) (.bool t) w λv B=>v=bN (dR m.c.2.2.1 d holds stale o h.2.2.2.2)/\ad [] W B:=λt Q=>l_ref3 l i P _ ⟨k2,j,n,u⟩ Q;by_cases x:o.1=6
 ·have q:(o.1==6)=true:=by rw[x];rfl
  have f:=fin true (by rw[x];rfl);simp only[L38_1,zS,am,ag,i,aJ,aW k2,aW j,aW n,aW u,q];exact f
 by_cases z:o.1=7
 ·have q:(o.1==7)=true:=by rw[z];rfl
  have f:=fin true (by rw[z];rfl);simp only[L38_1,zS,am,ag,i,aJ,aW k2,aW j,aW n,aW u,aW x,q];exact f
 by_cases H:o.1=8
 ·have q:(o.1==8)=true:=by rw[H];rfl
  have f:=fin true (by rw[H];rfl);simp only[L38_1,zS,am,ag,i,aJ,aW k2,aW j,aW n,aW u,aW x,aW z,q];exact f
 have f:=fin (o.1==9) (by
  by_cases O:o.1=9
  ·rw[O];rfl
  ·rw[aW O];exact(bZ dB).symm)
 simp only[L38_1,zS,am,ag,i,aJ,aW k2,aW j,aW n,aW u,aW x,aW z,aW H];exact f
end
theorem HdR.ao{w a:World}{b o:Nat}{d:qL}{nv:Value}(k:HdR w b o d nv)(c:ad [] w a):HdR a b o d nv:=by
 have e:hp a b=hp w b:=c.block b (by
  rcases dh b w.heap.size with h|h
  ·exact h
  ·have:hp w b=none:=by simp[hp];omega
   have f:=k.c0;rw[this]at f;cases f) (by simp)
 obtain⟨F,g⟩:=k.nT;exact⟨by rw[e];exact k.c0,by rw[e];exact k.c1,⟨F,(nJ _).frame g (bl.bL c cL) λ_ _ h=>h⟩⟩
def eI(d:qL)(h:eN):Bool:=decide ((h.1,h.2.1)∈d.holds)
def eD(m:dI)(h:eN):Int:=if ft m (h.1,h.2.1)then 0 else 3
theorem l_ref0{W w:World}{g g6 g7 i b k:Nat}{m:dI}{s r hh nv:Value}{o:eu}{h:eN}{d:qL}(B:ad [] W w)(M:MdR w g m s r hh)(D:HdR w b k d nv)(C:hp w g6=some (.cells (cI o).toArray 37))(E:hp w g7=some (.cells (ba h).toArray 32))(n:hp w i=some (.cells (gD (h.1,h.2.1)).toArray 96))(F:d.holds.length<=1000000):
  P38_0 (bS g) (bS g6) (bS g7) (.pointer (some ⟨b,k,none⟩)) (bS i) w λv p=>v=bN (dR m.c.2.2.1 d (eI d h) (eD m h) o h.2.2.2.2)/\ad [] W p:=by
 apply L38_0_ok;obtain⟨A,c,u,G⟩:=names_sh D.nT;have x:=D.c1;rw[u]at x;have j:∀p,hp p i=some (.cells (gD (h.1,h.2.1)).toArray 96)->gi prog 96 (bS i) p=some (.agg (gD (h.1,h.2.1)).toArray):=λp H=>aR (t:=96) (c:=(gD (h.1,h.2.1)).toArray) ag_96 (show(Tryz.prog.info? 96).map (·.size)=some (gD (h.1,h.2.1)).toArray.size from sz_96) H;have y:ad [] w w.drew:=(ad.refl _ _).drew;simp only[L38_0,zS,rr,ld_134,x,j w.drew n];refine(c_nContains (c:=c) (G.ao y.below) F (h.1,h.2.1)).mono ?_;rintro _ w1 ⟨rfl,I⟩;have l:=y.trans I;have q:=l.at n (by simp);simp only[j w1 q,ac];refine(c_mIsLive (M.ao l) (h.1,h.2.1)).mono ?_;rintro _ w2 ⟨rfl,J⟩;have a:=l.trans J;have fin:=λstale=>l_ref1 (W:=W) (holds:=eI d h) (stale:=stale) (B.trans a) (M.ao a) (D.ao a) (a.at C (by simp)) (a.at E (by simp));cases z:ft m (h.1,h.2.1)with
 |true=>
  have f:=fin 0;have e:eD m h=0:=by rw[eD,z];rfl
  simp only[zS];rw[e];exact f
 |false=>
  have f:=fin 3;have e:eD m h=3:=by rw[eD,z];rfl
  simp only[zS];rw[e];exact f
def bI(m:dI)(d:qL)(o:eu)(h:eN):Int:=if gu o.1≠0/\eA m h (gu o.1)=false then 2 else dR m.c.2.2.1 d (eI d h) (eD m h) o h.2.2.2.2
structure Small(m:dI):Prop where
 r:m.rgs.length<=1000000
 o:∀rg∈m.rgs,rg.objs.length<=1000000
 h:∀d∈m.hands,d.holds.length<=1000000
theorem c_mRefuses{w:World}{g:Nat}{m:dI}{s r hh:Value}(M:MdR w g m s r hh)(sm:Small m){n:Int}(n0:0<=n){d:qL}(P:m.hands[n.toNat]? =some d)(o:eu)(h:eN):
  aa prog 38 [bS g,bN n,.agg (cI o).toArray,.agg (ba h).toArray] w λv e=>v=bN (bI m d o h)/\ad [] w e:=by
 apply F38_ok;simp -implicitDefEqProofs only[F38,ak,aq,ah];generalize E:(w.alloc (.cells (cI o).toArray 37)).alloc _=w0;have S:ad [] w w0:=by rw[<- E];exact((ad.refl _ _).alloc _).alloc _
 have a1:hp w0 w.heap.size=some (.cells (cI o).toArray 37):=by rw[<- E,af,ah,bV dB,af,bU rfl]
 have a2:hp w0 (w.heap.size+1)=some (.cells (ba h).toArray 32):=by rw[<- E,af,ah,bU rfl]
 clear E;generalize w.heap.size=g6 at*;simp -implicitDefEqProofs only[zS,am,ag,a1,aJ];refine(c_opOf o.1 w0).mono ?_;rintro _ w1 ⟨rfl,k1⟩;have y:∀e,hp e (g6+1)=some (.cells (ba h).toArray 32)->gi prog 32 (.pointer (some ⟨g6+1,0,none⟩)) e=some (.agg (ba h).toArray):=λe E=>aR (t:=32) (c:=(ba h).toArray) qJ (show(Tryz.prog.info? 32).map (·.size)=some (ba h).toArray.size from lP) E;have b1:=k1.at a1 (by simp);have G:=k1.at a2 (by simp);have B:=S.trans k1;have H:=M.ao B;have T:d∈m.hands:=cD P;have a7:=(bY.1 P).1;have I:¬(gu o.1≠0/\eA m h (gu o.1)=false)->∀e,ad [] w1 e->∀f:Nat,hp e f=some (.cells (gD (h.1,h.2.1)).toArray 96)->∀b nv,HdR e b (n.toNat*2) d nv->
   P38_0 (bS g) (bS g6) (.pointer (some ⟨g6+1,0,none⟩)) (.pointer (some ⟨b,n.toNat*2,none⟩)) (bS f) e λv e=>v=bN (bI m d o h)/\ad [] w e:=by
  intro k e x f F b nv D;rw[bI,bV k];exact l_ref0 (B.trans x) (H.ao x) D (x.at b1 (by simp)) (x.at G (by simp)) F (sm.h d T)
 obtain⟨F0,U⟩:=H.hT;obtain⟨b,c,Y,_⟩:=hd_at U P;have l:¬(gu o.1≠0/\eA m h (gu o.1)=false)->∀u,ad [] w1 u->∀f:Nat,w1.heap.size<=f->hp u f=some (.cells #[bN 0,bN 0] 96)->
   ck prog (Instr.storeAt 96 (bS f) (.agg (gD (h.1,h.2.1)).toArray)) u λe=>
   P38_0 (bS g) (bS g6) (.pointer (some ⟨g6+1,0,none⟩)) (.pointer (some ⟨b,n.toNat*2,none⟩)) (bS f) e λv e=>v=bN (bI m d o h)/\ad [] w e:=by
  intro k u x f V F;rw[st_96 (by rfl) (by rfl) (by rw[F];rfl) (by rw[F];rfl),F];simp -implicitDefEqProofs only[au];have J:ad [] w1 (put u f (gD (h.1,h.2.1)).toArray 96):=x.put (.inr V) _ _;obtain⟨F1,W⟩:=(H.ao J).hT;obtain⟨b',c',L,nv,D⟩:=hd_at W P;rw[Y]at L;cases L;exact I k _ J f (ar (aD F) _ _) _ nv D
 have C:=ia_88 (b:=b) (p:=0) (n:=m.hands.length) (c:=c) (j:= .i64) (i:=n) dB dB;rw[cM]at C;have q:∀e,ad [] w1 e->an (hp e g) (0+9)=some (.slice (some ⟨b,0,none⟩) m.hands.length c):=λe x=>by
  have:=(H.ao x).hl;rw[Y]at this;exact this
 have nm:∀(e:World) {K:Value->World->Prop},(∀ z,ad [] e z->K (.agg (gD (h.1,h.2.1)).toArray) z)->aa prog 41 [.agg (ba h).toArray] e K:=λe K Q=>(kD h e).mono λv z hv=>by obtain⟨rfl,x⟩:=hv;exact Q z x
 have vA:∀w2,ad [] w1 w2->ad [] w1 w2.drew:=λw2 h=>h.drew;by_cases R:gu o.1=0
 ·have k:¬(gu o.1≠0/\eA m h (gu o.1)=false):=λh=>h.1 R;have Z:((0:Int)!=0)=false:=rfl;have O:ad [] w1 w1.drew:=(ad.refl _ _).drew;rw[R];simp only[zS,fa_90_4,ld_88,q _ (ad.refl _ _),C,y w1.drew G,y w1 G,al_96];repeat' (with_reducible apply And.intro)
  all_goals first
   |(refine nm _ ?_
     intro u A;have a:=(O.alloc _).trans A;try simp only[zS,q _ a,C]
     exact l k u a _ (cy _) (A.at (by rw[af,bU rfl]) (by simp)))
   |(refine nm _ ?_
     intro u A;have a:=O.trans A;try simp only[zS,q _ a,C]
     exact l k _ (a.alloc _) _ a.size (by rw[af,bU rfl]))
 ·have Z:(gu o.1 !=0)=true:=bne_iff_ne.2 R;simp only[zS,Z,y w1 G];refine(c_mKnown H h (gu o.1) sm.r sm.o).mono ?_;rintro _ w2 ⟨rfl,k2⟩;cases Q:eA m h (gu o.1)with
  |false=>
   simp only[zS];exact⟨by rw[bI,bU ⟨R,Q⟩],B.trans k2⟩
  |true=>
   have k:¬(gu o.1≠0/\eA m h (gu o.1)=false):=λh=>by rw[Q]at h;cases h.2
   have O:=k2.drew;have X:=k2.at G (by simp);simp only[zS,fa_90_4,ld_88,q _ k2,C,y w2.drew X,al_96];repeat' (with_reducible apply And.intro)
   all_goals first
    |(refine nm _ ?_
      intro u A;have a:=(O.alloc _).trans A;try simp only[zS,q _ a,C]
      exact l k u a _ k2.size (A.at (by rw[af,bU rfl]) (by simp)))
    |(refine nm _ ?_
      intro u A;have a:=O.trans A;try simp only[zS,q _ a,C]
      exact l k _ (a.alloc _) _ a.size (by rw[af,bU rfl]))
end Go.Proofs.YtnpflajdbchghaaGreat
