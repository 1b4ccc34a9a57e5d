/- Parts of the proof of SearchFinds, one behind the other. Conditions: none. -/
import Derived.Test.YtnpflajdbchghaaGreatZSearchFinds11
set_option linter.unusedSimpArgs false
set_option linter.unusedVariables false
set_option maxHeartbeats 4000000
set_option maxRecDepth 10000
noncomputable section
namespace Go.Proofs.YtnpflajdbchghaaGreat
open Tryz(prog underlying22)
open Go Ev Go.RowKit
abbrev tk(x:Int):Prop:=0<=x/\x<=18446744073709551615
section
variable{w:World}{c:cP}
theorem tdv{a b:Int}(h:0<=a):a.tdiv b=a/b:=Int.tdiv_eq_ediv_of_nonneg h
theorem tmd{a b:Int}(h:0<=a):a.tmod b=a%b:=Int.tmod_eq_emod_of_nonneg h
def hdA(i t:Int):Array Value:= #[bS i,bS t]
def lZ(r:RtV):Array Value:= #[bS r.gen,bS r.mark,bS r.cls,bS r.off]
theorem ld_hd{b:Nat}{e:TypeId}{i t:Int}(h:hp w b=some (.cells (hdA i t) e)):fR prog 209 (bU b) w=some (.agg (hdA i t)):=aR (t:=209) (c:=hdA i t) ag_209 (show(Tryz.prog.info? 209).map (·.size)=some (hdA i t).size from sz_209) h
theorem sO{b:Nat}{e:TypeId}{r:RtV}(h:hp w b=some (.cells (lZ r) e)):fR prog 231 (bU b) w=some (.agg (lZ r)):=aR (t:=231) (c:=lZ r) ag_231 (show(Tryz.prog.info? 231).map (·.size)=some (lZ r).size from sz_231) h
theorem st_hd{b:Nat}{e:TypeId}{z:Array Value}{i t:Int}{L:World->Prop}(h:hp w b=some (.cells z e))(a:z.size=2):dE prog (Instr.storeAt 209 (bU b) (.agg (hdA i t))) w L=L (put w b (hdA i t) e):=by
 rw[st_209 rfl rfl (by rw[h,aT];exact cj dy) (by rw[h];exact a),h];rfl
theorem st_rt{b:Nat}{e:TypeId}{z:Array Value}{r:RtV}{L:World->Prop}(h:hp w b=some (.cells z e))(a:z.size=4):dE prog (Instr.storeAt 231 (bU b) (.agg (lZ r))) w L=L (put w b (lZ r) e):=by
 rw[st_231 rfl rfl (by rw[h,aT];exact cj dy) (by rw[h];exact a),h];rfl
theorem bd_hd{i t:Int}:ai prog (Instr.build 209 #[(0,bS i),(1,bS t)])=some (.agg (hdA i t)):=bd_209_0_1
theorem bd_rt{g m k o:Int}:ai prog (Instr.build 231 #[(0,bS g),(1,bS m),(2,bS k),(3,bS o)])=some (.agg (lZ ⟨g,m,k,o⟩)):=bd_231_0_1_2_3
theorem hd_bd{x:Int}(h:tk x): -1<=hdI x/\hdI x<4294967295/\0<=hdG x/\hdG x<=4294967295:=by unfold hdI hdG;omega
theorem c_GetHead{x:Int}(h:tk x):aa prog 227 [bT x] w λv w'=>v= .agg (hdA (hdI x) (hdG x))/\ad [] w w':=by
 apply F227_ok;obtain⟨a,b⟩:=h;simp(disch:=omega) only[F227,al_209,zS,kF,m3,tmd,tdv,cv_33_3,ap,oR,aZ,bd_hd];rw[st_hd (by rw[af,bX rfl]) rfl];have hb:hp (put (w.alloc (.cells #[Value.int IntKind.i64 0,Value.int IntKind.i64 0] 209)) w.heap.size (hdA (x%4294967296-1) (x/4294967296)) 209) w.heap.size=some (.cells (hdA (x%4294967296-1) (x/4294967296)) 209):=aq (by simp) _ _;simp only[ld_hd hb,ac];exact⟨by first|rfl|trivial,((ad.refl _ _).alloc _).put (.inr (cy _)) _ _⟩
theorem c_PutHead(i t:Int):aa prog 133 [.agg (hdA i t)] w λv w'=>∃b,v= .tuple #[bT (putHd i t),.bool b]/\ad [] w w':=by
 apply F133_ok;have a:ad [] w (w.alloc (.cells (hdA i t) 209)):=(ad.refl _ _).alloc _;have j:hp (w.alloc (.cells (hdA i t) 209)) w.heap.size=some (.cells (hdA i t) 209):=by rw[af,bX rfl]
 have c:ao (hp (w.alloc (.cells (hdA i t) 209)) w.heap.size) (0+0)=some (bS i):=by rw[j];rfl
 have e:ao (hp (w.alloc (.cells (hdA i t) 209)) w.heap.size) (0+1)=some (bS t):=by rw[j];rfl
 have no:¬(-1<=i/\i<4294967295/\0<=t/\t<=4294967295)->putHd i t=0:=λh=>by rw[putHd,bY h]
 simp only[F133,ak,au,fa_209_0,fa_209_1,ag,c,e,ac,aU];by_cases d:i< -1
 ·simp only[zS,d];rw[no dy];exact⟨_,rfl,a⟩
 by_cases f:4294967295<=i
 ·simp only[zS,ag,c,d,f];rw[no dy];exact⟨_,rfl,a⟩
 by_cases g:t<0
 ·simp only[zS,ag,c,e,d,f,g];rw[no dy];exact⟨_,rfl,a⟩
 by_cases k:4294967295<t
 ·simp only[zS,ag,c,e,d,f,g,k];rw[no dy];exact⟨_,rfl,a⟩
 simp(disch:=omega) only[zS,ag,c,e,d,f,g,k,lG,m0,aj,oR,ap];rw[putHd,bX dy];exact⟨_,rfl,a⟩
theorem c_Next(i t j:Int)(l:t<=4294967295):aa prog 228 [.agg (hdA i t),bS j] w λv w'=>v= .agg (hdA j (nextT t))/\ad [] w w':=by
 apply F228_ok;simp only[F228,ak,au,al_209];generalize b:(w.alloc (.cells (hdA i t) 209)).alloc _=w1;have g:ad [] w w1:=by rw[<- b];exact((ad.refl _ _).alloc _).alloc _
 have k:hp w1 w.heap.size=some (.cells (hdA i t) 209):=by rw[<- b,af,ah,bY dy,af,bX rfl]
 have c:hp w1 (w.heap.size+1)=some (.cells (hdA 0 0) 209):=by rw[<- b,af,ah,bX rfl];rfl
 clear b;have e:ao (hp w1 w.heap.size) (0+1)=some (bS t):=by rw[k];rfl
 have fin:∀u,hp (put w1 (w.heap.size+1) (hdA j u) 209) (w.heap.size+1)=some (.cells (hdA j u) 209):=λu=>aq (az c) _ _;have a:∀u,ad [] w (put w1 (w.heap.size+1) (hdA j u) 209):=λu=>g.put (.inr dy) _ _;simp only[fa_209_1,ag,e,ac,aU,ah];by_cases d:t<0
 ·simp only[zS,d,bd_hd,st_hd c rfl,ld_hd (fin _)];exact⟨by rw[nextT,bX (.inl d)],a _⟩
 by_cases f:4294967295<=t
 ·simp only[zS,ag,e,d,f,bd_hd,st_hd c rfl,ld_hd (fin _)];exact⟨by rw[nextT,bX (.inr f)],a _⟩
 simp(disch:=omega) only[zS,ag,e,d,f,aj,ap,bd_hd,st_hd c rfl,ld_hd (fin _)];exact⟨by rw[nextT,bY dy],a _⟩
theorem c_next{x:Int}(h:tk x)(j:Int):aa prog 214 [bT x,bS j] w λv w'=>v=bT (sK x j)/\ad [] w w':=by
 apply F214_ok;simp only[F214];refine(c_GetHead h).mono ?_;rintro _ w1 ⟨rfl,a⟩;refine(c_Next _ _ j (hd_bd h).2.2.2).mono ?_;rintro _ w2 ⟨rfl,c⟩;refine(c_PutHead j _).mono ?_;rintro _ e ⟨b,rfl,d⟩;simp only[jk,jm,ac];exact⟨by first|rfl|trivial,(a.trans c).trans d⟩
theorem jb{x:Int}(h:tk x):aa prog 178 [bT x] w λv w'=>v= .agg (lZ (bd x))/\ad [] w w':=by
 apply F178_ok;obtain⟨a,b⟩:=h;simp(disch:=omega) only[F178,ue,zS,kF,m3,tmd,tdv,cv_33_3,ap,oR,bd_rt];rw[st_rt (by rw[af,bX rfl]) rfl];have hb:hp (put (w.alloc (.cells #[Value.int IntKind.i64 0,Value.int IntKind.i64 0,Value.int IntKind.i64 0,Value.int IntKind.i64 0] 231)) w.heap.size (lZ (bd x)) 231) w.heap.size=some (.cells (lZ (bd x)) 231):=aq (by simp) _ _;rw[show(⟨x/4294967296,x/65536%65536,x/4096%16,x%4096⟩:RtV)=bd x from rfl];simp only[sO hb,ac];exact⟨by first|rfl|trivial,((ad.refl _ _).alloc _).put (.inr (cy _)) _ _⟩
theorem rt_bd{x:Int}(h:tk x):(0<=(bd x).gen/\(bd x).gen<=4294967295)/\(0<=(bd x).mark/\(bd x).mark<=65535)/\(0<=(bd x).cls/\(bd x).cls<=15)/\(0<=(bd x).off/\(bd x).off<=4095):=by
 unfold bd;simp only;omega
theorem tm(r:RtV):aa prog 181 [.agg (lZ r)] w λv w'=>∃b,v= .tuple #[bT (lN r),.bool b]/\ad [] w w':=by
 apply F181_ok;have e:ad [] w (w.alloc (.cells (lZ r) 231)):=(ad.refl _ _).alloc _;have f:hp (w.alloc (.cells (lZ r) 231)) w.heap.size=some (.cells (lZ r) 231):=by rw[af,bX rfl]
 simp only[F181,ak,au];generalize w.alloc (.cells (lZ r) 231)=w1 at*;have l:ao (hp w1 w.heap.size) (0+0)=some (bS r.gen):=by rw[f];rfl
 have m:ao (hp w1 w.heap.size) (0+1)=some (bS r.mark):=by rw[f];rfl
 have n:ao (hp w1 w.heap.size) (0+2)=some (bS r.cls):=by rw[f];rfl
 have o:ao (hp w1 w.heap.size) (0+3)=some (bS r.off):=by rw[f];rfl
 have no:¬((0<=r.gen/\r.gen<=4294967295)/\(0<=r.mark/\r.mark<=4097)/\(0<=r.cls/\r.cls<=3)/\(0<=r.off/\r.off<=1024))->lN r=0:=λh=>by rw[lN,bY h]
 simp only[fa_231_0,ag,l,ac];refine(oY _ _ _ w1).step ?_;by_cases a:0<=r.gen/\r.gen<=4294967295
 case neg=>
  simp only[zS,cr a];rw[no (λh=>a h.1)];exact⟨_,rfl,e⟩
 simp only[zS,cj a,mM,ag,m];refine(oY _ _ _ w1).step ?_;by_cases c:0<=r.mark/\r.mark<=4097
 case neg=>
  simp only[zS,cr c];rw[no (λh=>c h.2.1)];exact⟨_,rfl,e⟩
 simp only[zS,cj c,fa_231_2,ag,n];refine(oY _ _ _ w1).step ?_;by_cases d:0<=r.cls/\r.cls<=3
 case neg=>
  simp only[zS,cr d];rw[no (λh=>d h.2.2.1)];exact⟨_,rfl,e⟩
 simp only[zS,cj d,pK,ag,o];refine(oY _ _ _ w1).step ?_;by_cases g:0<=r.off/\r.off<=1024
 case neg=>
  simp only[zS,cr g];rw[no (λh=>g h.2.2.2)];exact⟨_,rfl,e⟩
 obtain⟨a,i⟩:=a;obtain⟨c,j⟩:=c;obtain⟨d,k⟩:=d;simp(disch:=omega) only[zS,cj g,l,m,n,o,lG,m0,aj,oR];rw[lN,bX ⟨⟨a,i⟩,⟨c,j⟩,⟨d,k⟩,g⟩];exact⟨_,rfl,e⟩
theorem c_Live(r:RtV)(gen:Int):aa prog 193 [.agg (lZ r),bS gen] w λv w'=>v= .bool (mv r gen)/\ad [] w w':=by
 apply F193_ok;have c:ad [] w (w.alloc (.cells (lZ r) 231)):=(ad.refl _ _).alloc _;have d:hp (w.alloc (.cells (lZ r) 231)) w.heap.size=some (.cells (lZ r) 231):=by rw[af,bX rfl]
 simp only[F193,ak,au];generalize w.alloc (.cells (lZ r) 231)=w1 at*;have e:ao (hp w1 w.heap.size) (0+0)=some (bS r.gen):=by rw[d];rfl
 have f:ao (hp w1 w.heap.size) (0+1)=some (bS r.mark):=by rw[d];rfl
 simp only[fa_231_0,mM,ag,f,ac,pf];by_cases a:1<=r.mark
 ·simp only[zS,cj a,ag,e];refine⟨?_,c⟩;by_cases b:r.gen=gen
  ·rw[mv,cj a,cj b,b];simp
  ·rw[mv,cj a,cr b,bn b];rfl
 ·simp only[zS,cr a];exact⟨by rw[mv,cr a];rfl,c⟩
theorem c_Chunk(r:RtV)(h:r.mark<=65535):aa prog 186 [.agg (lZ r)] w λv w'=>v=bS (et r)/\ad [] w w':=by
 apply F186_ok;have b:ad [] w (w.alloc (.cells (lZ r) 231)):=(ad.refl _ _).alloc _;have d:hp (w.alloc (.cells (lZ r) 231)) w.heap.size=some (.cells (lZ r) 231):=by rw[af,bX rfl]
 simp only[F186,ak,au];generalize w.alloc (.cells (lZ r) 231)=w1 at*;have c:ao (hp w1 w.heap.size) (0+1)=some (bS r.mark):=by rw[d];rfl
 by_cases a:r.mark<2
 ·simp only[mM,ag,c,zS,a];exact⟨by rw[et,bX a],b⟩
 ·simp(disch:=omega) only[mM,ag,c,zS,a,aZ,ap];exact⟨by rw[et,bY a],b⟩
theorem c_Cut5{x:Int}(h:tk x):aa prog 191 [bT x] w λv w'=>v=bS (fP x)/\w'=w:=by
 apply F191_ok;obtain⟨b,c⟩:=h;by_cases a:4611686018427387903<x
 ·simp only[F191,zS,a];exact⟨by rw[fP,bX a],trivial⟩
 ·simp(disch:=omega) only[F191,zS,a,cv_33_3,ap];exact⟨by rw[fP,bY a],trivial⟩
theorem c_PutPin(e:Int):aa prog 192 [bS e] w λv w'=>∃b,v= .tuple #[bT (pinW e),.bool b]/\w'=w:=by
 apply F192_ok;simp only[F192];refine(oY _ _ _ w).step ?_;by_cases h:0<=e/\e<=4611686018427387903
 ·simp(disch:=omega) only[zS,cj h,lG,m0,aj,oR];exact⟨_,by rw[pinW,bX h],trivial⟩
 ·simp only[zS,cr h];exact⟨_,by rw[pinW,bY h],trivial⟩
theorem c_GetPin{x:Int}(h:tk x):aa prog 224 [bT x] w λv w'=>v= .tuple #[bS (if x%2=0 then 0 else x/2),.bool (decide (x%2≠0))]/\w'=w:=by
 apply F224_ok;obtain⟨b,c⟩:=h;by_cases a:x%2=0
 ·simp(disch:=omega) only[F224,zS,kF,tmd,a];exact⟨by simp,trivial⟩
 ·simp(disch:=omega) only[F224,zS,kF,m3,tmd,tdv,bn a,cv_33_3,ap,oR];exact⟨by simp[a],trivial⟩
structure gM(c:cP):Prop where
 may:hY c=true
 n1:c.1=(cW c:Int)
 n2:c.2.1=(cC c:Int)
 n3:c.2.2.1=(cK c:Int)
 n4:c.2.2.2.1=(cS c:Int)
 b1:1<=cW c/\cW c<=64
 b2:1<=cC c/\cC c<=4096
 b3:8<=cK c/\cK c<=1024
 b4:1<=cS c/\cS c<=4096
 b5:0<=c.2.2.2.2.1/\c.2.2.2.2.1<=64
 b6:1<=c.2.2.2.2.2/\c.2.2.2.2.2<=8
theorem cfN(h:hY c=true):gM c:=by
 have a:=h;simp only[hY,de,decide_eq_true_eq]at h;obtain⟨e,f,g,i,j,b,d⟩:=h;refine⟨a,?_,?_,?_,?_,?_,?_,?_,?_,b,d⟩<;>simp only[cW,cC,cK,cS]<;>omega
theorem c_at1(N:gM c)(a:Int)(b i:Nat)(k:i<b)(l:0<=a/\a<=1000000000)(m:b<=100000):aa prog 132 [.agg (dK c).toArray,bS a,bS b,bS i] w λv w'=>v=bS (a+i)/\ad [] w w':=by
 apply F132_ok;have d:ad [] w (w.alloc (.cells (dK c).toArray 25)):=(ad.refl _ _).alloc _;have e:hp (w.alloc (.cells (dK c).toArray 25)) w.heap.size=some (.cells (dK c).toArray 25):=by rw[af,bX rfl]
 simp only[F132,ak,au,fW e,ac];generalize w.alloc (.cells (dK c).toArray 25)=w1 at*;refine(c_cfMay c w1).mono ?_;rintro _ w2 ⟨rfl,f⟩;have g:¬((i:Int)<0):=dy;have j:¬((b:Int)<=i):=dy;simp(disch:=omega) only[N.may,zS,g,j,aj,ap];exact⟨by first|rfl|trivial,d.trans f⟩
theorem cfl{b:Nat}(a:hp w b=some (.cells (dK c).toArray 25)):ao (hp w b) (0+0)=some (bS c.1)/\ao (hp w b) (0+1)=some (bS c.2.1)/\ao (hp w b) (0+2)=some (bS c.2.2.1)/\ao (hp w b) (0+3)=some (bS c.2.2.2.1):=by
 rw[a];exact⟨rfl,rfl,rfl,rfl⟩
theorem c_Pin1(N:gM c){i:Nat}(d:i<cW c):aa prog 94 [.agg (dK c).toArray,bS i] w λv w'=>v=bS (fS c i)/\ad [] w w':=by
 apply F94_ok;have e:ad [] w (w.alloc (.cells (dK c).toArray 25)):=(ad.refl _ _).alloc _;have a:hp (w.alloc (.cells (dK c).toArray 25)) w.heap.size=some (.cells (dK c).toArray 25):=by rw[af,bX rfl]
 have:=N.b1;obtain⟨b,g,l2,j⟩:=cfl a;rw[N.n1]at b;simp only[F94,ak,au,fW a,ac,eS,ag,b];refine(c_at1 N 3 (cW c) i d dy dy).mono ?_;rintro _ w2 ⟨rfl,f⟩;exact⟨by rw[fS];push_cast;rfl,e.trans f⟩
theorem lQ(N:gM c){i:Nat}(e:i<cS c):aa prog 180 [.agg (dK c).toArray,bS i] w λv w'=>v=bS (iS c i)/\ad [] w w':=by
 apply F180_ok;have f:ad [] w (w.alloc (.cells (dK c).toArray 25)):=(ad.refl _ _).alloc _;have a:hp (w.alloc (.cells (dK c).toArray 25)) w.heap.size=some (.cells (dK c).toArray 25):=by rw[af,bX rfl]
 have:=N.b1;have:=N.b4;obtain⟨b,j,l2,d⟩:=cfl a;rw[N.n1]at b;rw[N.n4]at d;simp(disch:=omega) only[F180,ak,au,fW a,ac,eS,iJ,ag,b,d,aj,ap];refine(c_at1 N (3+cW c) (cS c) i e dy dy).mono ?_;rintro _ w2 ⟨rfl,g⟩;exact⟨by rw[iS];push_cast;rfl,f.trans g⟩
theorem c_Slot1(N:gM c){i:Nat}(e:i<cS c):aa prog 93 [.agg (dK c).toArray,bS i] w λv w'=>v=bS (aSl c i)/\ad [] w w':=by
 apply F93_ok;have f:ad [] w (w.alloc (.cells (dK c).toArray 25)):=(ad.refl _ _).alloc _;have a:hp (w.alloc (.cells (dK c).toArray 25)) w.heap.size=some (.cells (dK c).toArray 25):=by rw[af,bX rfl]
 have:=N.b1;have:=N.b4;obtain⟨b,j,l2,d⟩:=cfl a;rw[N.n1]at b;rw[N.n4]at d;simp(disch:=omega) only[F93,ak,au,fW a,ac,eS,iJ,ag,b,d,aj,ap];refine(c_at1 N (3+cW c+cS c) (cS c) i e dy dy).mono ?_;rintro _ w2 ⟨rfl,g⟩;exact⟨by rw[aSl];push_cast;rfl,f.trans g⟩
theorem c_Link(N:gM c){i:Nat}(f:i<cC c):aa prog 92 [.agg (dK c).toArray,bS i] w λv w'=>v=bS (aLk c i)/\ad [] w w':=by
 apply F92_ok;have g:ad [] w (w.alloc (.cells (dK c).toArray 25)):=(ad.refl _ _).alloc _;have a:hp (w.alloc (.cells (dK c).toArray 25)) w.heap.size=some (.cells (dK c).toArray 25):=by rw[af,bX rfl]
 have:=N.b1;have:=N.b4;have:=N.b2;obtain⟨b,d,l2,e⟩:=cfl a;rw[N.n1]at b;rw[N.n2]at d;rw[N.n4]at e;simp(disch:=omega) only[F92,ak,au,fW a,ac,eS,jK,iJ,ag,b,d,e,aj,m0,ap];refine(c_at1 N (3+cW c+2*cS c) (cC c) i f dy dy).mono ?_;rintro _ w2 ⟨rfl,j⟩;exact⟨by rw[aLk];push_cast;rfl,g.trans j⟩
theorem mul_bd{a b m n:Nat}(c:a<=m)(hb:b<=n):a*b<=m*n:=Nat.mul_le_mul c hb
theorem c_Len1(N:gM c):aa prog 91 [.agg (dK c).toArray] w λv w'=>v=bS (kX c)/\ad [] w w':=by
 apply F91_ok;have i:ad [] w (w.alloc (.cells (dK c).toArray 25)):=(ad.refl _ _).alloc _;have b:hp (w.alloc (.cells (dK c).toArray 25)) w.heap.size=some (.cells (dK c).toArray 25):=by rw[af,bX rfl]
 simp only[F91,ak,au,fW b,ac];generalize w.alloc (.cells (dK c).toArray 25)=w1 at*;refine(c_cfMay c w1).mono ?_;rintro _ w2 ⟨rfl,d⟩;have:=N.b1;have:=N.b4;have:=N.b2;have:=N.b3;have j:cC c*cK c<=4096*1024:=mul_bd dy dy;have a:((cC c:Int)*(cK c:Int))=((cC c*cK c:Nat):Int):=by push_cast;rfl
 obtain⟨e,f,l2,g⟩:=cfl (d.at b (by simp));rw[N.n1]at e;rw[N.n2]at f;rw[N.n3]at l2;rw[N.n4]at g;simp(disch:=omega) only[N.may,zS,eS,jK,fj,iJ,ag,e,f,l2,g,aj,m0,a,ap];exact⟨by rw[kX];push_cast;rfl,i.trans d⟩
theorem c_Word(N:gM c){k i:Nat}(p:k<cC c)(q:i<cK c):aa prog 189 [.agg (dK c).toArray,bS k,bS i] w λv w'=>v=bS (aWd c k i)/\ad [] w w':=by
 apply F189_ok;have j:ad [] w (w.alloc (.cells (dK c).toArray 25)):=(ad.refl _ _).alloc _;have b:hp (w.alloc (.cells (dK c).toArray 25)) w.heap.size=some (.cells (dK c).toArray 25):=by rw[af,bX rfl]
 simp only[F189,ak,au,fW b,ac];generalize w.alloc (.cells (dK c).toArray 25)=w1 at*;refine(c_cfMay c w1).mono ?_;rintro _ w2 ⟨rfl,d⟩;have:=N.b1;have:=N.b4;have:=N.b2;have:=N.b3;have r:k*cK c<=4096*1024:=mul_bd dy dy;have a:((k:Int)*(cK c:Int))=((k*cK c:Nat):Int):=by push_cast;rfl
 obtain⟨e,f,l2,g⟩:=cfl (d.at b (by simp));rw[N.n1]at e;rw[N.n2]at f;rw[N.n3]at l2;rw[N.n4]at g;have l:¬((k:Int)<0):=dy;have m:¬((cC c:Int)<=k):=dy;have n:¬((i:Int)<0):=dy;have o:¬((cK c:Int)<=i):=dy;simp(disch:=omega) only[N.may,zS,l,m,n,o,eS,jK,fj,iJ,ag,e,f,l2,g,aj,m0,a,ap];exact⟨by rw[aWd];push_cast;rfl,j.trans d⟩
end
structure Hm where
 wb:Nat
 pb:Nat
 sb:Nat
 eb:Nat
 mb:Nat
def ptr(b:Nat):Value:=bU b
def oL(a:Nat)(s:iP):List Value:= [ptr a,bS s.head,bS s.ee,bS s.n]
def homeL(h:Hm)(c:cP):List Value:=dK c++ [ptr h.mb,ptr h.pb,ptr h.sb,ptr h.eb]
def epL(h:Hm)(c:cP):List Value:= [ptr h.mb,bS 2,bS (fS c 0),bS (cW c)]
def memN(m:bI)(n:Int):Nod:= .st 0 204 [.gr 33 1 m.length (fE m),.v (bS n)]
structure dM(T:dN)(h:Hm)(c:cP)(m:bI):Prop where
 wT:T h.wb=some (.st 0 153 ((homeL h c).map fQ.v))
 pT:T h.pb=some (.st 0 156 ((oL h.mb (bP c)).map fQ.v))
 sT:T h.sb=some (.st 0 156 ((oL h.mb (dL c)).map fQ.v))
 eT:T h.eb=some (.st 0 158 ((epL h c).map fQ.v))
 mT:∃n,T h.mb=some (memN m n)
def DM(T:dN)(h:Hm)(k:Nat):Prop:=k=h.mb\/T k=some (.own h.mb 0)
section
variable{w w':World}{T T':dN}{h:Hm}{c:cP}{m m':bI}{S:Nat->Prop}
theorem dM.turn(H:dM T h c m)(a:∀k d,T k=some d->k≠h.mb->T' k=some d)(e:∃n,T' h.mb=some (memN m' n)):dM T' h c m':=by
 obtain⟨n,b⟩:=H.mT;exact⟨a _ _ H.wT (aA H.wT b dz),a _ _ H.pT (aA H.pT b dz),a _ _ H.sT (aA H.sT b dz),a _ _ H.eT (aA H.eT b dz),e⟩
theorem dM.gx(H:dM T h c m)(g:Gx S w T w' T')(d:∀k a,T k=some a->S k->∃o e cs,a= .st o e cs/\o≠0):dM T' h c m:=by
 obtain⟨n,f⟩:=H.mT;have no:∀{k e cs},T k=some (.st 0 e cs)->T' k=some (.st 0 e cs):=fun{k e cs} b=>g.off k _ b λi=>by
  obtain⟨o,e',cs',j,l⟩:=d k _ b i;cases j;exact l rfl
 exact⟨no H.wT,no H.pT,no H.sT,no H.eT,n,no f⟩
theorem dM.mem(R:Rel w T)(H:dM T h c m)(r:0<m.length):∃g k n,T h.mb=some (memN m n)/\hp w h.mb=some (.cells #[.slice (some ⟨g,0,none⟩) m.length k,bS n] 204)/\g≠h.mb/\T g=some (.own h.mb 0)/\
  w.ownsRow 0 33 1 (.slice (some ⟨g,0,none⟩) m.length k) m.length (fE m)/\m7 w T h.mb 204 [.gr 33 1 m.length (fE m),.v (bS n)] [.slice (some ⟨g,0,none⟩) m.length k,bS n]/\
  ∀a:Nat,a<m.length->ai prog (Instr.indexAt 139 (.slice (some ⟨g,0,none⟩) m.length k) (bS a))=some (.pointer (some ⟨g,a,none⟩))/\ao (hp w g) a=some (bT (di m a)):=by
 obtain⟨n,d⟩:=H.mT;obtain⟨vs,N⟩:=R.node _ _ _ _ d;match vs,N.len,N with
 | [v0,v1],_,N=>
  have b:=N.each 0 _ v0 rfl rfl;have o:v1=bS n:=N.each 1 _ v1 rfl rfl;subst o;obtain⟨g,k,rfl,hb,_,_,_,_⟩:=mK (P:=prog) (t:=139) (j:= .i64) (i:=0) b.1 Tryz.underlying139 sz_33 dy dy;have f:=b.2 g rfl;refine⟨g,k,n,d,N.hb,lP d f,f,b.1,N,λa p=>?_⟩;obtain⟨s,u,e,_,l,q,_,_⟩:=mK (P:=prog) (t:=139) (j:= .i64) (i:=(a:Int)) b.1 Tryz.underlying139 sz_33 dy dy;cases e;rw[cq,dm]at l;refine⟨l,?_⟩;have:=q 0 dy;rw[cq,dm,Nat.add_zero]at this;rw[this,fE,cM,di,cu,bZ p];rfl
def mA(g n k:Nat)(x:Int):Array Value:= #[.slice (some ⟨g,0,none⟩) n k,bS x]
theorem mA_1{g n k:Nat}{x y:Int}:(mA g n k x).setIfInBounds (0+1) (bS y)=mA g n k y:=rfl
theorem dM.count(R:Rel w T)(H:dM T h c m){g k:Nat}{n:Int}(d:T h.mb=some (memN m n))(N:m7 w T h.mb 204 [.gr 33 1 m.length (fE m),.v (bS n)] [.slice (some ⟨g,0,none⟩) m.length k,bS n])(y:Int):
  Gx (λk=>k=h.mb) w T (put w h.mb (mA g m.length k y) 204) (iz T h.mb (memN m y))/\dM (iz T h.mb (memN m y)) h c m:=
 ⟨Gx.put (vs':= [.slice (some ⟨g,0,none⟩) m.length k,bS y]) R d rfl λj f v a b=>by
  have e:=(ce.1 a).1;have:j=0\/j=1:=by simp at e;omega
  rcases this with rfl|rfl
  ·cases a;cases b;exact N.each 0 _ _ rfl rfl
  ·cases a;cases b;rfl,H.turn (λk i a b=>by rw[aD b];exact a) ⟨y,ax⟩⟩
theorem okM{g n k:Nat}{x:Int}{e:TypeId}{b:Nat}(hb:hp w b=some (.cells (mA g n k x) e)):mX (hp w b) (0+1+1)=true:=by rw[hb,aT];exact cj (by show 0+1+1<=2;omega)
theorem je(R:Rel w T)(H:dM T h c m){a:Nat}(e:a<m.length):aa prog 179 [ptr h.mb,bS a] w λv w'=>v=bT (di m a)/\aW (λk=>k=h.mb) w w'/\∃T',Gx (λk=>k=h.mb) w T w' T'/\dM T' h c m:=by
 apply F179_ok;obtain⟨g,k,n,f,hb,i,_,s,N,b⟩:=H.mem R dy;obtain⟨j,l⟩:=b a e;have hb:hp w h.mb=some (.cells (mA g m.length k n) 204):=hb;have f1:ao (hp w h.mb) (0+1)=some (bS n):=by rw[hb];rfl
 simp only[F179,ptr,ae,ac,fa_204_1,ag,f1,aj];rw[hC rfl rfl (okM hb),hb,ay,ar,mA_1];obtain⟨o,p⟩:=H.count R f N (IntKind.i64.wrap (n+1));have q:=aW.put w h.mb (mA g m.length k (IntKind.i64.wrap (n+1))) 204;have r:ao (hp (put w h.mb (mA g m.length k (IntKind.i64.wrap (n+1))) 204) h.mb) (0+0)=some (.slice (some ⟨g,0,none⟩) m.length k):=by rw[aq (az hb)];rfl
 have d:ao (hp (put w h.mb (mA g m.length k (IntKind.i64.wrap (n+1))) 204) g) a=some (bT (di m a)):=by rw[aV i];exact l
 simp only[ke,jc,bx,r,j,d,ac];exact⟨by first|rfl|trivial,q,_,o,p⟩
theorem u64s_set(m:bI)(a:Nat)(b:a<m.length)(v:Int):(fE m).take a++ [bT v]++(fE m).drop (a+ [Value.int .u64 v].length)=fE (m.set a v):=by
 rw[show [Value.int .u64 v].length=1 from rfl,set_eq _ _ _ (by simpa [fE]using b),fE,fE,List.map_set]
theorem ne_loc'{b k:Nat}{c:Nod}(h:T b=some c)(a:T k=none):k≠b:=λe=>by rw[e,h]at a;cases a
theorem dM.setD(R:Rel w T)(H:dM T h c m){g k:Nat}{n:Int}(f:T h.mb=some (memN m n))(N:m7 w T h.mb 204 [.gr 33 1 m.length (fE m),.v (bS n)] [.slice (some ⟨g,0,none⟩) m.length k,bS n]){a:Nat}(j:a<m.length)(v:Int):
  mX (hp w g) (a+1)=true/\∃T',Gx (λk=>k=h.mb) w T (put w g ((dG (hp w g)).setIfInBounds a (bT v)) (dH (hp w g))) T'/\dM T' h c (m.set a v)/\∀q,q≠h.mb->T' q=T q:=by
 obtain⟨b,d,e⟩:=Gx.rowset (xs:= [bT v]) R f N (k:=0) (v:= .slice (some ⟨g,0,none⟩) m.length k) (e':=33) (z:=1) (n:=m.length) (us:=fE m) rfl rfl (p:=g) (i:=a) rfl (by simp;omega);rw[u64s_set m a j v]at e;refine⟨b,_,e,H.turn (λk o b d=>by rw[aD d];exact b) ⟨n,?_⟩,λq l=>aD l⟩;rw[ax,memN,cE];rfl
theorem dM.set(R:Rel w T)(H:dM T h c m){g k:Nat}{n:Int}(b:T h.mb=some (memN m n))(N:m7 w T h.mb 204 [.gr 33 1 m.length (fE m),.v (bS n)] [.slice (some ⟨g,0,none⟩) m.length k,bS n]){a:Nat}(d:a<m.length)(v:Int):
  mX (hp w g) (a+1)=true/\∃T',Gx (λk=>k=h.mb) w T (put w g ((dG (hp w g)).setIfInBounds a (bT v)) (dH (hp w g))) T'/\dM T' h c (m.set a v):=by
 obtain⟨e,T',f,i,_⟩:=H.setD R b N d v;exact⟨e,T',f,i⟩
theorem pa(R:Rel w T)(H:dM T h c m){a:Nat}(j:a<m.length)(v:Int):aa prog 182 [ptr h.mb,bS a,bT v] w λu w'=>aW (DM T h) w w'/\∃T',Gx (λk=>k=h.mb) w T w' T'/\dM T' h c (m.set a v):=by
 apply F182_ok;obtain⟨g,k,n,p,hb,z,hT,A,N,d⟩:=H.mem R dy;obtain⟨q,B⟩:=d a j;have hb:hp w h.mb=some (.cells (mA g m.length k n) 204):=hb;have f1:ao (hp w h.mb) (0+1)=some (bS n):=by rw[hb];rfl
 simp only[F182,ptr,ae,ac,fa_204_1,ag,f1,aj];rw[hC rfl rfl (okM hb),hb,ay,ar,mA_1];obtain⟨e,l⟩:=H.count R p N (IntKind.i64.wrap (n+1));have r:=aW.put w h.mb (mA g m.length k (IntKind.i64.wrap (n+1))) 204;have s:ao (hp (put w h.mb (mA g m.length k (IntKind.i64.wrap (n+1))) 204) h.mb) (0+0)=some (.slice (some ⟨g,0,none⟩) m.length k):=by rw[aq (az hb)];rfl
 obtain⟨C,k2,D,f,b,_,t,_,x,_⟩:=l.mem e.rel dy;rw[aq (az hb)]at b;cases b;obtain⟨ok,T',y,H3⟩:=l.set e.rel f x j v;simp only[ke,jc,s,q,ac];rw[og (o:=a) rfl rfl ok];refine⟨(r.mono λk i=> .inl i).sq ((aW.put _ _ _ _).mono λk i=> .inr (by rw[i];exact hT)),T',e.trans y,H3⟩
theorem c_CasD(R:Rel w T)(H:dM T h c m){a:Nat}(t:a<m.length)(old v:Int):aa prog 184 [ptr h.mb,bS a,bT old,bT v] w λu w'=>u= .bool (decide (di m a=old))/\aW (DM T h) w w'/\∃T',Gx (λk=>k=h.mb) w T w' T'/\dM T' h c (if di m a=old then m.set a v else m)/\∀k,T k=none->T' k=none:=by
 apply F184_ok;obtain⟨g,k,n,i,hb,A,hT,F,N,l⟩:=H.mem R dy;obtain⟨x,B⟩:=l a t;have hb:hp w h.mb=some (.cells (mA g m.length k n) 204):=hb;have f1:ao (hp w h.mb) (0+1)=some (bS n):=by rw[hb];rfl
 simp only[F184,ptr,ae,ac,fa_204_1,ag,f1,aj];rw[hC rfl rfl (okM hb),hb,ay,ar,mA_1];obtain⟨j,p⟩:=H.count R i N (IntKind.i64.wrap (n+1));have y:=aW.put w h.mb (mA g m.length k (IntKind.i64.wrap (n+1))) 204;have z:ao (hp (put w h.mb (mA g m.length k (IntKind.i64.wrap (n+1))) 204) h.mb) (0+0)=some (.slice (some ⟨g,0,none⟩) m.length k):=by rw[aq (az hb)];rfl
 have e:ao (hp (put w h.mb (mA g m.length k (IntKind.i64.wrap (n+1))) 204) g) a=some (bT (di m a)):=by rw[aV A];exact B
 obtain⟨G,k2,I,q,f,_,C,_,D,_⟩:=p.mem j.rel dy;rw[aq (az hb)]at f;cases f;by_cases d:di m a=old
 ·obtain⟨ok,T',E,H3,r⟩:=p.setD j.rel q D t v;have s:(di m a !=old)=false:=by rw[d];simp
  simp only[ke,jc,bx,z,x,e,zS,s];rw[og (o:=a) rfl rfl ok];exact⟨by rw[cj d],(y.mono λk b=> .inl b).sq ((aW.put _ _ _ _).mono λk b=> .inr (by rw[b];exact hT)),T',j.trans E,by rw[bX d];exact H3,λk b=>by rw[r k (ne_loc' i b),aD (ne_loc' i b)];exact b⟩
 ·have s:(di m a !=old)=true:=bne_iff_ne.2 d;simp only[ke,jc,bx,z,x,e,zS,s];exact⟨by rw[cr d],y.mono λk b=> .inl b,_,j,by rw[bY d];exact p,λk b=>by rw[aD (ne_loc' i b)];exact b⟩
theorem c_Cas(R:Rel w T)(H:dM T h c m){a:Nat}(b:a<m.length)(old v:Int):aa prog 184 [ptr h.mb,bS a,bT old,bT v] w λu w'=>u= .bool (decide (di m a=old))/\aW (DM T h) w w'/\∃T',Gx (λk=>k=h.mb) w T w' T'/\dM T' h c (if di m a=old then m.set a v else m):=
 (c_CasD R H b old v).mono λ_ _ ⟨e,d,T',g,f,_⟩=>⟨e,d,T',g,f⟩
theorem c_Add(R:Rel w T)(H:dM T h c m){a:Nat}(l:a<m.length)(v:Int):aa prog 204 [ptr h.mb,bS a,bT v] w λu w'=>u=bT (di m a)/\aW (DM T h) w w'/\∃T',Gx (λk=>k=h.mb) w T w' T'/\dM T' h c (m.set a (IntKind.u64.wrap (di m a+v))):=by
 apply F204_ok;obtain⟨g,k,n,q,hb,r,hT,C,N,d⟩:=H.mem R dy;obtain⟨s,t⟩:=d a l;have hb:hp w h.mb=some (.cells (mA g m.length k n) 204):=hb;have f1:ao (hp w h.mb) (0+1)=some (bS n):=by rw[hb];rfl
 simp only[F204,ptr,ae,ac,fa_204_1,ag,f1,aj];rw[hC rfl rfl (okM hb),hb,ay,ar,mA_1];obtain⟨e,p⟩:=H.count R q N (IntKind.i64.wrap (n+1));have x:=aW.put w h.mb (mA g m.length k (IntKind.i64.wrap (n+1))) 204;have y:ao (hp (put w h.mb (mA g m.length k (IntKind.i64.wrap (n+1))) 204) h.mb) (0+0)=some (.slice (some ⟨g,0,none⟩) m.length k):=by rw[aq (az hb)];rfl
 have f:ao (hp (put w h.mb (mA g m.length k (IntKind.i64.wrap (n+1))) 204) g) a=some (bT (di m a)):=by rw[aV r];exact t
 obtain⟨D,k2,E,i,b,_,z,_,A,_⟩:=p.mem e.rel dy;rw[aq (az hb)]at b;cases b;obtain⟨ok,T',B,H3⟩:=p.set e.rel i A l (IntKind.u64.wrap (di m a+v));simp only[ke,jc,bx,y,s,f,zS,aj];rw[og (o:=a) rfl rfl ok];exact⟨by first|rfl|trivial,(x.mono λk j=> .inl j).sq ((aW.put _ _ _ _).mono λk j=> .inr (by rw[j];exact hT)),T',e.trans B,H3⟩
theorem stk_f{b a:Nat}{s:iP}(R:Rel w T)(hT:T b=some (.st 0 156 ((oL a s).map fQ.v))):ao (hp w b) (0+0)=some (ptr a)/\ao (hp w b) (0+1)=some (bS s.head)/\ao (hp w b) (0+2)=some (bS s.ee)/\ao (hp w b) (0+3)=some (bS s.n):=by
 rw[R.kW hT];exact⟨rfl,rfl,rfl,rfl⟩
theorem c_Top{b g:Nat}{s:iP}(R:Rel w T)(hT:T b=some (.st 0 156 ((oL g s).map fQ.v))){x:Int}(i:tk x):aa prog 212 [ptr b,bT x] w λv w'=>v=bS (pZ s x)/\ad [] w w':=by
 apply F212_ok;simp only[F212];refine(c_GetHead i).mono ?_;rintro _ w1 ⟨rfl,d⟩;obtain⟨_,_,_,e⟩:=stk_f (R.aw d) hT;have f:ai prog (Instr.field 209 (.agg (hdA (hdI x) (hdG x))) 0)=some (bS (hdI x)):=pr_field1 (c:=hdA (hdI x) (hdG x)) (off:=0) (z:=1) dA rfl;by_cases a:(s.n:Int)<=hdI x
 ·simp only[f,ptr,ae,pF,ag,e,zS,a];exact⟨by rw[pZ,bX a],d⟩
 ·simp only[f,ptr,ae,pF,ag,e,zS,a];exact⟨by rw[pZ,bY a],d⟩
theorem c_Below{b d:Nat}{s:iP}(R:Rel w T)(hT:T b=some (.st 0 156 ((oL d s).map fQ.v)))(f:s.n<=1000000){x:Int}(e:tk x):aa prog 213 [ptr b,bT x] w λv w'=>v=bS (gJ s x)/\w'=w:=by
 apply F213_ok;obtain⟨_,_,_,c⟩:=stk_f R hT;obtain⟨g,i⟩:=e;by_cases a:(s.n:Int)<x
 ·simp(disch:=omega) only[F213,ptr,ae,pF,ag,c,zS,lG,oR,a];exact⟨by rw[gJ,bX a],trivial⟩
 ·simp(disch:=omega) only[F213,ptr,ae,pF,ag,c,zS,lG,cv_33_3,oR,ap,aZ,a];exact⟨by rw[gJ,bY a],trivial⟩
end
def mU(m:bI):Prop:=∀x∈m,tk x
theorem iF{m:bI}(h:mU m)(a:Nat):tk (di m a):=by
 rw[di,cu];cases b:m[a]? with
 |none=>simp only[Option.getD_none];omega
 |some x=>exact h x (cD b)
theorem mU_set{m:bI}(h:mU m)(a:Nat){v:Int}(hv:tk v):mU (m.set a v):=λx b=>by
 rcases List.mem_or_eq_of_mem_set b with h1|h1
 ·exact h x h1
 ·rw[h1];exact hv
structure StkOk(s:iP)(m:bI):Prop where
 hd:s.head<m.length
 lk:s.ee+s.n<=m.length
 n:s.n<=100000
 ml:m.length<=100000000
 u:mU m
def tC(s:iP)(l:List Int):Prop:=∀x∈l,0<=x/\x<s.n
theorem tC.at{s:iP}{l:List Int}(h:tC s l){i:Nat}(a:i<l.length):∃y,l[i]? =some y/\l.getD i 0=y/\0<=y/\y<s.n:=⟨l[i],bZ a,by rw[cu,bZ a];rfl,h _ (List.getElem_mem a)⟩
section
variable{w w':World}{T T':dN}{h:Hm}{c:cP}{m m':bI}{o b sb:Nat}{s:iP}
theorem Ev.Lo.int{A:Option Addr}{l:List Int}(L:Lo w T A (ints l)){i:Nat}{y:Int}(a:l[i]? =some y)(k:Nat):∃q f,ai prog (Instr.indexAt 22 (.slice A l.length k) (bS i))=some (.pointer (some ⟨q,f,none⟩))/\ao (hp w q) f=some (bS y)/\T q=none:=by
 have b:=(ce.1 a).1;obtain⟨q,f,d,g,p,hp,m⟩:=L.rd.elem1 (P:=prog) (c:=k) (n:=l.length) (i:=(i:Int)) (j:= .i64) underlying22 aE (by simp[ints]) dy dy;refine⟨q,f,d,?_,by rw[m];exact L.off p hp (by intro e;rw[ints,List.map_eq_nil_iff]at e;rw[e]at b;simp at b)⟩;rw[g,cq,ints,cM,a];rfl
theorem dn{e:TypeId}{cs:List fQ}(H:dM T h c m)(hT:T b=some (.st o e cs))(a:b≠h.mb):DM T h b=False:=by
 simp only[DM,eq_iff_iff,iff_false,not_or];exact⟨a,λd=>by rw[hT]at d;cases d⟩
theorem dl(H:dM T h c m)(hT:T b=none):DM T h b=False:=by
 simp only[DM,eq_iff_iff,iff_false,not_or];obtain⟨n,d⟩:=H.mT;exact⟨λa=>(by rw[a,d]at hT;cases hT),λa=>(by rw[hT]at a;cases a)⟩
theorem p9{D:Nat->Prop}{f:Nat}{p:Prop}:rdD D (.pointer (some ⟨b,f,none⟩)) p=(¬ D b/\p):=rfl
theorem bJ{D:Nat->Prop}(b:ad [] w w'):ExtD D w w':=λa v _ hv=>Below.rL b.below hv
theorem lR{D:Nat->Prop}(b:aW D w w'):ExtD D w w':=λa v c hv=>by
 have hb:w'.heap[a.block]? =w.heap[a.block]? :=b.block a.block (qt hv) c;unfold World.cell? at hv⊢;rw[hb];exact hv
theorem dM.cL{e:TypeId}{cs:List fQ}(H:dM T h c m)(g:Gx (λk=>k=b) w T w' T')(hT:T b=some (.st o e cs))(d:o≠0):dM T' h c m:=
 H.gx g λk i a f=>by rw[f,hT]at a;cases a;exact⟨_,_,_,rfl,d⟩
theorem dM.tD{e:TypeId}{cs:List fQ}(H:dM T h c m)(hT:T b=some (.st o e cs))(a:o≠0):b≠h.mb:=by
 obtain⟨n,d⟩:=H.mT;exact um hT d a
def puA(sb:Nat)(A:Option Addr)(k n:Nat)(at' old:Int)(done:Bool):Array Value:= #[ptr sb,.slice A n k,bS at',bT old,.bool done]
def puN(o sb:Nat)(A:Option Addr)(k:Nat)(p:PuV):Nod:= .st o 293 ((puA sb A k p.l.length p.at' p.old p.done).toList.map fQ.v)
def PuR(w:World)(T:dN)(o b sb:Nat)(p:PuV):Prop:=∃A k,T b=some (puN o sb A k p)/\Lo w T A (ints p.l)
theorem puA_2{A:Option Addr}{k n:Nat}{at' old x:Int}{done:Bool}:(puA sb A k n at' old done).setIfInBounds (0+2) (bS x)=puA sb A k n x old done:=rfl
theorem puA_3{A:Option Addr}{k n:Nat}{at' old x:Int}{done:Bool}:(puA sb A k n at' old done).setIfInBounds (0+3) (bT x)=puA sb A k n at' x done:=rfl
theorem puA_4{A:Option Addr}{k n:Nat}{at' old:Int}{done x:Bool}:(puA sb A k n at' old done).setIfInBounds (0+4) (.bool x)=puA sb A k n at' old x:=rfl
theorem PuR.gx{S:Nat->Prop}{p:PuV}(P:PuR w T o b sb p)(g:Gx S w T w' T')(a:¬S b):PuR w' T' o b sb p:=by
 obtain⟨A,k,hT,L⟩:=P;exact⟨A,k,g.off b _ hT a,L.gx g⟩
theorem PuR.aw{p:PuV}(P:PuR w T o b sb p)(a:ad [] w w'):PuR w' T o b sb p:=by
 obtain⟨A,k,hT,L⟩:=P;exact⟨A,k,hT,L.aw a⟩
theorem pu_f{A:Option Addr}{k:Nat}{p:PuV}(R:Rel w T)(hT:T b=some (puN o sb A k p)):hp w b=some (.cells (puA sb A k p.l.length p.at' p.old p.done) 293)/\
  ao (hp w b) (0+0)=some (ptr sb)/\ao (hp w b) (0+1)=some (.slice A p.l.length k)/\ao (hp w b) (0+2)=some (bS p.at')/\ao (hp w b) (0+3)=some (bT p.old)/\ao (hp w b) (0+4)=some (.bool p.done):=by
 have hb:hp w b=some (.cells (puA sb A k p.l.length p.at' p.old p.done) 293):=R.kW hT;rw[hb];exact⟨rfl,rfl,rfl,rfl,rfl,rfl⟩
theorem pu_put{A:Option Addr}{k:Nat}{p:PuV}(R:Rel w T)(hT:T b=some (puN o sb A k p))(p':PuV)(a:p'.l=p.l)(L:Lo w T A (ints p.l)):
  ∃T',Gx (λq=>q=b) w T (put w b (puA sb A k p.l.length p'.at' p'.old p'.done) 293) T'/\PuR (put w b (puA sb A k p.l.length p'.at' p'.old p'.done) 293) T' o b sb p':=by
 have g:=Gx.putv R hT (puA sb A k p.l.length p'.at' p'.old p'.done).toList;refine⟨_,g,A,k,?_,?_⟩
 ·rw[ax,puN,a]
 ·rw[a];exact L.gx g
theorem pu_ok{A:Option Addr}{k n j:Nat}{at' old:Int}{done:Bool}{e:TypeId}(hb:hp w b=some (.cells (puA sb A k n at' old done) e))(a:j<5):mX (hp w b) (0+j+1)=true:=by
 rw[hb,aT];exact cj (by show 0+j+1<=5;omega)
theorem c_Push{A:Option Addr}{k:Nat}{l:List Int}(R:Rel w T)(L:Lo w T A (ints l))(x:l.length<=100000)(o:Nat):aa prog 220 [ptr sb,.slice A l.length k] w λv w'=>∃b T',v=ptr b/\w.heap.size<=b/\ad [] w w'/\Gx (λ_=>False) w T w' T'/\PuR w' T' o b sb (puNew l):=by
 apply F220_ok;obtain⟨i,f,j,m,hb⟩:=mR;simp only[F220,aK,zS];refine qR (z:=bS 0) underlying22 f j m rfl dy (by simp[ints]) L.rd (λu n=>?_) dy dy λv w1 hv q a=>?_
 ·obtain⟨y,_,rfl⟩:=List.mem_map.1 n;exact⟨_,_,rfl⟩
 obtain⟨A',c,rfl,r⟩:=gC ⟨_,hv⟩;have d:ai prog (Instr.build 293 #[(0,ptr sb),(1,.slice A' l.length c),(4,.bool (((l.length:Nat):Int)==0))])=some (.agg (puA sb A' c l.length 0 0 (((l.length:Nat):Int)==0))):=bd_293_0_1_4;simp only[d,ak,au,ac];have s:=R.aw a;have g:=Gx.p8 (S:=λ_=>False) s o 293 (puA sb A' c l.length 0 0 (((l.length:Nat):Int)==0)).toList;have t:=a.size;refine⟨w1.heap.size,_,rfl,t,a.alloc _,(Gx.bV R a).trans g,A',c,?_,?_⟩
 ·rw[ax,puN,puNew];have:(((l.length:Nat):Int)==0)=decide (l.length=0):=by
   by_cases e:l.length=0
   ·rw[e];rfl
   ·rw[bn dy,cr e]
  rw[this];rfl
 ·exact(Lo.new R r λp hp=>q p.block (by rw[hp];rfl)).gx g
structure tE(s:iP)(p:PuV):Prop where
 l:tC s p.l
 n:p.l.length<=100000
 u:tk p.old
 nd:p.done=false->1<=p.l.length/\p.at'<=p.l.length+1
theorem c_PuStep(R:Rel w T)(H:dM T h c m)(ho:o≠0)(Y:T sb=some (.st 0 156 ((oL h.mb s).map fQ.v)))(K:StkOk s m){p:PuV}(P:PuR w T o b sb p)(O:tE s p):
  aa prog 199 [ptr b] w λv w'=>∃T',Gx (λk=>k=h.mb\/k=b) w T w' T'/\dM T' h c (eX s m p).1/\PuR w' T' o b sb (eX s m p).2:=by
 apply F199_ok (D:=DM T h);obtain⟨A,k,hT,L⟩:=P;have M:=H.tD hT ho;obtain⟨hb,f0,f1,f2,f3,Q⟩:=pu_f R hT;obtain⟨s0,s1,s2,s3⟩:=stk_f R Y;have hd:∀{w1:World} {j:Nat},hp w1.drew j=hp w1 j:=rfl;have hn:=O.n;have Kh:=K.hd;have Kl:=K.lk;have Kn:=K.n;have Km:=K.ml;have Z:sb≠h.mb:=by obtain⟨n,hn⟩:=H.mT;exact aA Y hn dz
 have fin:∀(w1:World) (T1:dN) (m1:bI) (p':PuV),Gx (λk=>k=h.mb) w T w1 T1->dM T1 h c m1->p'.l=p.l->T1 b=some (puN o sb A k p)/\hp w1 b=some (.cells (puA sb A k p.l.length p.at' p.old p.done) 293)/\
   ∃T',Gx (λk=>k=h.mb\/k=b) w T (put w1 b (puA sb A k p.l.length p'.at' p'.old p'.done) 293) T'/\dM T' h c m1/\PuR (put w1 b (puA sb A k p.l.length p'.at' p'.old p'.done) 293) T' o b sb p':=by
  intro w1 T1 m1 p' e I hl;have r:=e.off b _ hT M;obtain⟨T',x,C⟩:=pu_put e.rel r p' hl (L.gx e);exact⟨r,(pu_f e.rel r).1,T',(e.mono λ_ h=> .inl h).trans (x.mono λ_ h=> .inr h),I.cL x r ho,C⟩
 have Rd:=R.aw (ad.refl [] w).drew;have E:=Rd.aw (ad.refl [] w.drew).drew;cases g:p.done with
 |true=>
  rw[g]at Q;simp only[F199,ptr,ae,mP,aB,Q,zS];rw[eX,bX g];exact⟨T,Gx.refl R,H,A,k,hT,L⟩
 |false=>
 rw[g]at Q;obtain⟨n1,n2⟩:=O.nd g;have t:eX s m p=if p.at'+1<p.l.length then(m.set (s.ee+(p.l.getD p.at' 0).toNat) (p.l.getD (p.at'+1) 0+1),{p with at':=p.at'+1})
  else if p.at'+1=p.l.length then(m,{p with old:=di m s.head,at':=p.at'+1})
  else if p.at'=p.l.length then(m.set (s.ee+(p.l.getD (p.l.length-1) 0).toNat) (pZ s p.old+1),{p with at':=p.at'+1})
  else if di m s.head=p.old then(m.set s.head (sK p.old (p.l.getD 0 0)),{p with done:=true,at':=p.l.length-1})
  else(m,{p with done:=false,at':=p.l.length-1}):=by rw[eX,bY (by rw[g];simp)]
 have e1:((p.at':Int)+1)=((p.at'+1:Nat):Int):=dy;have e2:((p.l.length:Int)-1)=((p.l.length-1:Nat):Int):=dy;by_cases c1:p.at'+1<p.l.length
 ·rw[bX c1]at t;obtain⟨y,hy,F,y0,y1⟩:=O.l.at (i:=p.at') dy;obtain⟨z,hz,a1,z0,z1⟩:=O.l.at (i:=p.at'+1) c1;obtain⟨q,f,U,lq,_⟩:=L.int hy k;obtain⟨q',f',a2,a3,_⟩:=L.int hz k;have lt:(p.at':Int)<((p.l.length-1:Nat):Int):=dy;have ea:(s.ee:Int)+y=((s.ee+y.toNat:Nat):Int):=dy;simp(disch:=omega) only[F199,ptr,ae,mP,fa_293_0,fa_293_1,sf,lB,fa_156_2,aB,mj,bD,aH,ag,hd,f0,f1,f2,Q,s0,s2,aK,aZ,aj,e1,e2,ap,oR,lt,zS,U,lq,a2,a3,lG,ea];refine(pa E H (a:=s.ee+y.toNat) dy (z+1)).mono ?_;rintro _ w1 ⟨_,T1,e,I⟩;have e:=(Gx.bV (S:=λk=>k=h.mb) R (ad.refl [] w).drew.drew).trans e;obtain⟨r,d,T',x,G,C⟩:=fin w1 T1 _ {p with at':=p.at'+1} e I rfl;obtain⟨_,_,_,h2,_,_⟩:=pu_f e.rel r;simp(disch:=omega) only[h2,zS,aj,e1,ap];rw[hC (o:=0+2) rfl rfl (pu_ok d dy),d,ay,ar,puA_2];apply L199_0_ok;rw[t,F,a1];exact⟨T',x,G,C⟩
 rw[bY c1]at t;have V:¬(p.at':Int)<((p.l.length-1:Nat):Int):=dy;by_cases c2:p.at'+1=p.l.length
 ·rw[bX c2]at t;have J:((p.at':Int)==((p.l.length-1:Nat):Int))=true:=by rw[beq_iff_eq];omega
  simp(disch:=omega) only[F199,ptr,ae,mP,fa_293_0,fa_293_1,sf,lB,rQ,aB,mj,bD,aH,ag,hd,f0,f1,f2,Q,s0,s1,aK,aZ,e2,ap,V,J,zS];refine(je E H (a:=s.head) Kh).mono ?_;rintro _ w1 ⟨rfl,_,T1,e,I⟩;have e:=(Gx.bV (S:=λk=>k=h.mb) R (ad.refl [] w).drew.drew).trans e;obtain⟨r,d,T',x,G,C⟩:=fin w1 T1 _ {p with old:=di m s.head,at':=p.at'+1} e I rfl;simp only[fa_293_3,ac];rw[og (o:=0+3) rfl rfl (pu_ok d dy),d,ay,ar,puA_3];have B:hp (put w1 b (puA sb A k p.l.length p.at' (di m s.head) p.done) 293) b=some (.cells (puA sb A k p.l.length p.at' (di m s.head) p.done) 293):=aq (az d) _ _;have h2:ao (hp (put w1 b (puA sb A k p.l.length p.at' (di m s.head) p.done) 293) b) (0+2)=some (bS p.at'):=by rw[B];rfl
  simp(disch:=omega) only[h2,zS,aj,e1,ap];rw[hC (o:=0+2) rfl rfl (pu_ok B dy),B,ay,ar,puA_2,jI];apply L199_0_ok;rw[t];exact⟨T',x,G,C⟩
 rw[bY c2]at t;have J:((p.at':Int)==((p.l.length-1:Nat):Int))=false:=bn dy;by_cases c3:p.at'=p.l.length
 ·rw[bX c3]at t;have W:((p.at':Int)==(p.l.length:Int))=true:=by rw[beq_iff_eq];omega
  obtain⟨y,hy,F,y0,y1⟩:=O.l.at (i:=p.l.length-1) dy;obtain⟨q,f,U,lq,tq⟩:=L.int hy k;have ea:(s.ee:Int)+y=((s.ee+y.toNat:Nat):Int):=dy;have d1:=dn H hT M;have d2:=dn H Y Z;have d3:=dl H tq;simp(disch:=omega) only[F199,ptr,ae,mP,fa_293_0,fa_293_1,sf,fa_293_3,lB,fa_156_2,aB,mj,bD,aH,ag,bx,hd,f0,f1,f2,f3,Q,s0,s2,aK,aZ,aj,e2,ap,V,J,W,zS,U,lq,ea,p9,d1,d2,d3,not_false_eq_true,true_and];refine(c_Top E Y O.u).mono ?_;rintro _ w1 ⟨rfl,X⟩;refine⟨bJ X,?_⟩;have tb: -1<=pZ s p.old/\pZ s p.old<4294967295:=by
   have:=hd_bd O.u;unfold pZ;split<;>omega
  simp(disch:=omega) only[zS,aj,ap,oR,lG];refine(pa (E.aw X) H (a:=s.ee+y.toNat) dy (pZ s p.old+1)).mono ?_;rintro _ w2 ⟨cp,T1,e,I⟩;refine⟨lR cp,?_⟩;have e:=(Gx.bV (S:=λk=>k=h.mb) R ((ad.refl [] w).drew.drew.trans X)).trans e;obtain⟨r,d,T',x,G,C⟩:=fin w2 T1 _ {p with at':=p.at'+1} e I rfl;obtain⟨_,_,_,h2,_,_⟩:=pu_f e.rel r;simp(disch:=omega) only[h2,zS,aj,e1,ap];rw[hC (o:=0+2) rfl rfl (pu_ok d dy),d,ay,ar,puA_2];apply L199_0_ok;rw[t,F];exact⟨T',x,G,C⟩
 rw[bY c3]at t;have W:((p.at':Int)==(p.l.length:Int))=false:=bn dy;obtain⟨y,hy,F,y0,y1⟩:=O.l.at (i:=0) dy;obtain⟨q,f,U,lq,tq⟩:=L.int hy k;have U:ai prog (Instr.indexAt 22 (.slice A p.l.length k) (bS 0))=some (.pointer (some ⟨q,f,none⟩)):=U;have d1:=dn H hT M;have d2:=dn H Y Z;have d3:=dl H tq;simp(disch:=omega) only[F199,ptr,ae,mP,fa_293_0,fa_293_1,sf,fa_293_3,lB,rQ,aB,mj,bD,aH,ag,bx,hd,f0,f1,f2,f3,Q,s0,s1,aK,aZ,aj,e2,ap,V,J,W,zS,U,lq,p9,d1,d2,d3,not_false_eq_true,true_and];refine(c_next O.u y).mono ?_;rintro _ w1 ⟨rfl,X⟩;refine⟨bJ X,?_⟩;refine(c_Cas (E.aw X) H (a:=s.head) Kh p.old (sK p.old y)).mono ?_;rintro _ w2 ⟨rfl,cp,T1,e,I⟩;refine⟨lR cp,?_⟩;have e:=(Gx.bV (S:=λk=>k=h.mb) R ((ad.refl [] w).drew.drew.trans X)).trans e;obtain⟨r,d,T',x,G,C⟩:=fin w2 T1 _ {p with done:=decide (di m s.head=p.old),at':=p.l.length-1} e I rfl;try simp only[]
 rw[st_4 (o:=0+4) rfl rfl (pu_ok d dy),d,ay,ar,puA_4];have B:hp (put w2 b (puA sb A k p.l.length p.at' p.old (decide (di m s.head=p.old))) 293) b=some (.cells (puA sb A k p.l.length p.at' p.old (decide (di m s.head=p.old))) 293):=aq (az d) _ _;try simp(disch:=omega) only[ptr,ae,sf,zS,aZ,e2,ap]
 rw[hC (o:=0+2) rfl rfl (pu_ok B dy),B,ay,ar,puA_2,jI];apply L199_0_ok;rw[t,F];by_cases hm:di m s.head=p.old
 ·rw[bX hm]at G⊢;rw[cj hm]at x C⊢;exact⟨T',x,G,C⟩
 ·rw[bY hm]at G⊢;rw[cr hm]at x C⊢;exact⟨T',x,G,C⟩
end
section
variable{w w1 w':World}{T T':dN}{h:Hm}{c:cP}{m m':bI}{o b sb:Nat}{s:iP}
def poA(sb:Nat)(most at' deep old:Int)(lv:Value)(done:Bool):Array Value:= #[ptr sb,bS most,bS at',bS deep,bT old,lv,.bool done]
def poL(sb:Nat)(p:PoV)(lv:Value):List Value:=(poA sb p.most p.at' p.deep p.old lv p.done).toList
def poC(sb:Nat)(p:PoV):List fQ:= [.v (ptr sb),.v (bS p.most),.v (bS p.at'),.v (bS p.deep),.v (bT p.old),.gr 3 1 p.l.length (ints p.l),.v (.bool p.done)]
def poN(o sb:Nat)(p:PoV):Nod:= .st o 270 (poC sb p)
theorem poA_2{a b d e x:Int}{lv:Value}{dn:Bool}:(poA sb a b d e lv dn).setIfInBounds (0+2) (bS x)=poA sb a x d e lv dn:=rfl
theorem poA_3{a b d e x:Int}{lv:Value}{dn:Bool}:(poA sb a b d e lv dn).setIfInBounds (0+3) (bS x)=poA sb a b x e lv dn:=rfl
theorem poA_4{a b d e x:Int}{lv:Value}{dn:Bool}:(poA sb a b d e lv dn).setIfInBounds (0+4) (bT x)=poA sb a b d x lv dn:=rfl
theorem poA_5{a b d e:Int}{lv x:Value}{dn:Bool}:(poA sb a b d e lv dn).setIfInBounds (0+5) x=poA sb a b d e x dn:=rfl
theorem poA_6{a b d e:Int}{lv:Value}{dn x:Bool}:(poA sb a b d e lv dn).setIfInBounds (0+6) (.bool x)=poA sb a b d e lv x:=rfl
theorem po_ok{a c d e:Int}{lv:Value}{dn:Bool}{j:Nat}{t:TypeId}(hb:hp w b=some (.cells (poA sb a c d e lv dn) t))(f:j<7):mX (hp w b) (0+j+1)=true:=by
 rw[hb,aT];exact cj (by show 0+j+1<=7;omega)
structure PoF(w:World)(T:dN)(b sb:Nat)(p:PoV)(A:Option Addr)(k:Nat):Prop where
 n:m7 w T b 270 (poC sb p) (poL sb p (.slice A p.l.length k))
 own:w.ownsRow 0 3 1 (.slice A p.l.length k) p.l.length (ints p.l)
 ot:∀q,(Value.slice A p.l.length k).ownBlock=some q->T q=some (.own b 5)
 rd:ed w A (ints p.l)
 hb:hp w b=some (.cells (poA sb p.most p.at' p.deep p.old (.slice A p.l.length k) p.done) 270)
 f0:ao (hp w b) (0+0)=some (ptr sb)
 f1:ao (hp w b) (0+1)=some (bS p.most)
 f2:ao (hp w b) (0+2)=some (bS p.at')
 f3:ao (hp w b) (0+3)=some (bS p.deep)
 f4:ao (hp w b) (0+4)=some (bT p.old)
 f5:ao (hp w b) (0+5)=some (.slice A p.l.length k)
 f6:ao (hp w b) (0+6)=some (.bool p.done)
theorem po_f{p:PoV}(R:Rel w T)(hT:T b=some (poN o sb p)):∃A k,PoF w T b sb p A k:=by
 obtain⟨vs,N⟩:=R.node _ _ _ _ hT;match vs,N.len,N with
 | [v0,v1,v2,v3,v4,v5,v6],_,N=>
  have c:v0=_:=N.each 0 _ _ rfl rfl;have d:v1=_:=N.each 1 _ _ rfl rfl;have e:v2=_:=N.each 2 _ _ rfl rfl;have f:v3=_:=N.each 3 _ _ rfl rfl;have g:v4=_:=N.each 4 _ _ rfl rfl;have i:v6=_:=N.each 6 _ _ rfl rfl;have a:=N.each 5 _ _ rfl rfl;subst c d e f g i;obtain⟨A,k,rfl,j,_⟩:=aG a.1;refine⟨A,k,N,a.1,a.2,j,N.hb,?_,?_,?_,?_,?_,?_,?_⟩<;>rw[N.hb]<;>rfl
theorem PoF.aw{A:Option Addr}{k:Nat}{p:PoV}(F:PoF w T b sb p A k)(R:Rel w T)(a:ad [] w w'):PoF w' T b sb p A k:=
 ⟨⟨a.at F.n.hb (by simp),F.n.len,λj c v d e=>(F.n.each j c v d e).frame (aW.bV a _)⟩,eZ F.own a (λk _=>by simp),F.ot,F.rd.an a.below,a.at F.hb (by simp),lK a F.f0,lK a F.f1,lK a F.f2,lK a F.f3,lK a F.f4,lK a F.f5,lK a F.f6⟩
theorem PoF.put{A:Option Addr}{k:Nat}{p:PoV}(F:PoF w T b sb p A k)(R:Rel w T)(hT:T b=some (poN o sb p))(p':PoV)(c:p'.l=p.l):
  Gx (λq=>q=b) w T (Ev.put w b (poA sb p'.most p'.at' p'.deep p'.old (.slice A p.l.length k) p'.done) 270) (iz T b (poN o sb p')):=by
 refine Gx.put (vs':=poL sb p' (.slice A p.l.length k)) R hT rfl λj g v a d=>?_;have e:=(ce.1 a).1;have f:j=0\/j=1\/j=2\/j=3\/j=4\/j=5\/j=6:=by simp[poC]at e;omega
 rcases f with rfl|rfl|rfl|rfl|rfl|rfl|rfl<;>cases a<;>cases d
 ·rfl
 ·rfl
 ·rfl
 ·rfl
 ·rfl
 ·rw[c];exact⟨F.own,F.ot⟩
 ·rfl
theorem PoF.grow{A:Option Addr}{k:Nat}{p:PoV}(F:PoF w T b sb p A k)(R:Rel w T)(hT:T b=some (poN o sb p))(p':PoV){lv:Value}(c:aW (λq=>(Value.slice A p.l.length k).ownBlock=some q) w w1)(d:iB w (.slice A p.l.length k) lv)(e:w1.ownsRow 0 3 1 lv p'.l.length (ints p'.l)):
  hp w1 b=hp w b/\∃T',T' b=some (poN o sb p')/\Gx (λq=>q=b) w T (Ev.put w1 b (poA sb p'.most p'.at' p'.deep p'.old lv p'.done) 270) T':=by
 refine Gx.grow (vs':=poL sb p' lv) (cs':=poC sb p') R hT F.n (k:=5) rfl rfl c d e rfl rfl rfl λj r v f a g=>?_;have i:=(ce.1 a).1;have m:j=0\/j=1\/j=2\/j=3\/j=4\/j=6:=by simp[poC]at i;omega
 rcases m with rfl|rfl|rfl|rfl|rfl|rfl<;>cases a<;>cases g<;>rfl
theorem jF{v:Value}(a:w.grownBy w' v.ownBlock):aW (λq=>v.ownBlock=some q) w w':=⟨a.os,a.tape,a.output,a.size,λk b c=>a.block k b λe=>c e.symm⟩
theorem pr_mn{P:Program}{c:Array TypeId}{t:TypeId}{k:IntKind}{a b:Int}:ai P (Builtin.min_ c t #[.int k a,.int k b])=some (.int k (min a b)):=by
 rw[aX (v:= .int k (if b<a then b else a)) λw=>by simp[Builtin.min_,Builtin.min2]];congr 2;by_cases h:b<a
 ·rw[bX h,Int.min_eq_right dy]
 ·rw[bY h,Int.min_eq_left dy]
theorem pr_mx{P:Program}{c:Array TypeId}{t:TypeId}{k:IntKind}{a b:Int}:ai P (Builtin.max_ c t #[.int k a,.int k b])=some (.int k (max a b)):=by
 rw[aX (v:= .int k (if b>a then b else a)) λw=>by simp[Builtin.max_,Builtin.max2]];congr 2;by_cases h:b>a
 ·rw[bX h,Int.max_eq_right dy]
 ·rw[bY h,Int.max_eq_left dy]
theorem c_Pop(R:Rel w T)(most:Int)(o:Nat):aa prog 174 [ptr sb,bS most] w λv w'=>∃b T',v=ptr b/\w.heap.size<=b/\ad [] w w'/\Gx (λ_=>False) w T w' T'/\T' b=some (poN o sb (poNew most)):=by
 apply F174_ok;have a:∀x,ai prog (Instr.build 270 #[(0,ptr sb),(1,bS x)])=some (.agg (poA sb x 0 0 0 (.slice none 0 0) false)):=λx=>bd_270_0_1;simp only[F174,pr_mn,pr_mx,a,ak,au,ac];have g:=Gx.new (S:=λ_=>False) (vs:=poL sb (poNew most) (.slice none 0 0)) (cs:=poC sb (poNew most)) R o 270 rfl λj i v c d=>by
  have e:=(ce.1 c).1;have f:j=0\/j=1\/j=2\/j=3\/j=4\/j=5\/j=6:=by simp[poC]at e;omega
  rcases f with rfl|rfl|rfl|rfl|rfl|rfl|rfl<;>cases c<;>cases d
  ·rfl
  ·rfl
  ·rfl
  ·rfl
  ·rfl
  ·exact uo
  ·rfl
 exact⟨w.heap.size,_,rfl,cy _,(ad.refl _ _).alloc _,g,ax⟩
theorem own_cap{v:Value}{base n:Nat}{e:TypeId}{z:Nat}{us:List Value}(h:w.ownsRow base e z v n us):∃A k,v= .slice A n k/\n<=k:=by
 rcases h.2 with⟨rfl,b⟩|⟨g,c,d,rfl,f,i,a,_⟩
 ·exact⟨none,0,by rw[b],dy⟩
 ·exact⟨_,_,rfl,a⟩
theorem c_Got{p:PoV}(R:Rel w T)(hT:T b=some (poN o sb p))(B:p.l.length<=100000):aa prog 177 [ptr b] w λv w'=>∃A k,v= .slice A (ec p).length k/\(ec p).length<=k/\Lo w' T A (ints (ec p))/\ad [] w w':=by
 apply F177_ok;obtain⟨A,k,F⟩:=po_f R hT;have a:=F.f6;cases c:p.done with
 |false=>
  rw[c]at a;simp only[F177,ptr,ae,kf,aB,a,zS];have:ec p= []:=by rw[ec,c];rfl
  rw[this];exact⟨none,0,rfl,cy _,Lo.nil _ _ _,ad.refl _ _⟩
 |true=>
  rw[c]at a;have:ec p=p.l:=by rw[ec,c];rfl
  rw[this];simp only[F177,ptr,ae,r8,kf,aB,aH,a,F.f5,zS];obtain⟨i,e,f,g,hb⟩:=mR;refine qR (z:=bS 0) underlying22 e f g rfl dy (by simp[ints]) F.rd (λu j=>?_) dy dy λv w1 hv m n=>?_
  ·obtain⟨y,_,rfl⟩:=List.mem_map.1 j;exact⟨_,_,rfl⟩
  obtain⟨A',r,rfl,s⟩:=gC ⟨_,hv⟩;obtain⟨C,k2,t,d⟩:=own_cap (fD hv).1;cases t;have nn:∀q,A'=some q->w.heap.size<=q.block:=λq x=>m q.block (by rw[x];rfl);exact⟨A',r,rfl,d,Lo.new R s nn,n⟩
structure PoOk(s:iP)(p:PoV):Prop where
 l:tC s p.l
 n:p.l.length<=10000
 u:tk p.old
 mo:p.most<=8
 nd:p.done=false->p.at'=1->1<=p.l.length
theorem rd_int{A:Option Addr}{l:List Int}(L:ed w A (ints l)){i:Nat}{y:Int}(a:l[i]? =some y)(k:Nat):∃q f,ai prog (Instr.indexAt 22 (.slice A l.length k) (bS i))=some (.pointer (some ⟨q,f,none⟩))/\ao (hp w q) f=some (bS y):=by
 have e:=(ce.1 a).1;obtain⟨q,f,b,d,_⟩:=L.elem1 (P:=prog) (c:=k) (n:=l.length) (i:=(i:Int)) (j:= .i64) underlying22 aE (by simp[ints]) dy dy;exact⟨q,f,b,by rw[d,cq,ints,cM,a];rfl⟩
theorem c_PoStep(R:Rel w T)(H:dM T h c m)(U:o≠0)(hS:T sb=some (.st 0 156 ((oL h.mb s).map fQ.v)))(K:StkOk s m){p:PoV}(hT:T b=some (poN o sb p))(O:PoOk s p):
  aa prog 176 [ptr b] w λv w'=>∃T',Gx (λk=>k=h.mb\/k=b) w T w' T'/\dM T' h c (dS s m p).1/\T' b=some (poN o sb (dS s m p).2):=by
 apply F176_ok (D:=DM T h);have a2:=H.tD hT U;obtain⟨A,k,F⟩:=po_f R hT;obtain⟨s0,s1,s2,s3⟩:=stk_f R hS;have hd:∀{w1:World} {j:Nat},hp w1.drew j=hp w1 j:=rfl;have Kh:=K.hd;have Kl:=K.lk;have Kn:=K.n;have Km:=K.ml;have hn:=O.n;have a8:sb≠h.mb:=by obtain⟨n,hn⟩:=H.mT;exact aA hS hn dz
 have b7:sb≠b:=um hS hT (λe=>U e.symm);have c0:ad [] w w.drew:=(ad.refl [] w).drew;have Rd:=R.aw c0;have V:∀{L:World->Prop} {w:World} {T:dN} {p:PoV} {A:Option Addr} {k:Nat} (x:Bool),PoF w T b sb p A k->dE prog (Instr.storeAt 4 (.pointer (some ⟨b,0+6,none⟩)) (.bool x)) w L=L (put w b (poA sb p.most p.at' p.deep p.old (.slice A p.l.length k) x) 270):=λx F=>by
  rw[st_4 (o:=0+6) rfl rfl (po_ok F.hb dy),F.hb,ay,ar,poA_6]
 have a5:∀{L:World->Prop} {w:World} {T:dN} {p:PoV} {A:Option Addr} {k:Nat} (x:Int),PoF w T b sb p A k->dE prog (Instr.storeAt 3 (.pointer (some ⟨b,0+2,none⟩)) (bS x)) w L=L (put w b (poA sb p.most x p.deep p.old (.slice A p.l.length k) p.done) 270):=λx F=>by
  rw[hC (o:=0+2) rfl rfl (po_ok F.hb dy),F.hb,ay,ar,poA_2]
 have f6:=F.f6;cases z:p.done with
 |true=>
  rw[z]at f6;simp only[F176,ptr,ae,kf,aB,f6,zS];rw[dS,bX z];exact⟨T,Gx.refl R,H,hT⟩
 |false=>
 rw[z]at f6;have g:dS s m p=if p.at'=0 then
   (if pZ s (di m s.head)<0 then(m,{p with old:=di m s.head,l:= [],done:=true})
   else(m,{p with old:=di m s.head,l:= [pZ s (di m s.head)],at':=1}))
  else if p.at'=1 then
   (if 0<=gJ s (di m (s.ee+(p.l.getD (p.l.length-1) 0).toNat))/\(p.l.length:Int)<p.most then
    (m,{p with deep:=gJ s (di m (s.ee+(p.l.getD (p.l.length-1) 0).toNat)),l:=p.l++ [gJ s (di m (s.ee+(p.l.getD (p.l.length-1) 0).toNat))]})
   else(m,{p with deep:=gJ s (di m (s.ee+(p.l.getD (p.l.length-1) 0).toNat)),at':=2}))
  else if di m s.head=p.old then(m.set s.head (sK p.old p.deep),{p with done:=true,at':=0})
  else(m,{p with done:=false,at':=0}):=by rw[dS,bY (by rw[z];simp)]
 by_cases a0:p.at'=0
 ·rw[bX a0]at g;have q0:((p.at':Int)==0)=true:=by rw[a0];rfl
  simp only[F176,ptr,ae,kf,fa_270_0,fa_270_2,lB,rQ,aB,mj,bD,ag,hd,F.f0,F.f2,f6,s0,s1,q0,zS];refine(je Rd H (a:=s.head) Kh).mono ?_;rintro _ w1 ⟨rfl,_,T1,C,H1⟩;have C:=(Gx.bV (S:=λk=>k=h.mb) R c0).trans C;have B:=C.off b _ hT a2;obtain⟨A1,k1,F1⟩:=po_f C.rel B;simp only[fa_270_4,r8,ac];rw[og (o:=0+4) rfl rfl (po_ok F1.hb dy),F1.hb,ay,ar,poA_4];have t:=F1.put C.rel B {p with old:=di m s.head} rfl;have H2:=H1.cL t B U;have r:iz T1 b (poN o sb {p with old:=di m s.head}) b=some _:=ax;generalize iz T1 b (poN o sb {p with old:=di m s.head})=T2 at*;have t:Gx (λq=>q=b) w1 T1 (put w1 b (poA sb p.most p.at' p.deep (di m s.head) (.slice A1 p.l.length k1) p.done) 270) T2:=t;generalize put w1 b (poA sb p.most p.at' p.deep (di m s.head) (.slice A1 p.l.length k1) p.done) 270=w2 at*;obtain⟨A2,k2,F2⟩:=po_f t.rel r;rw[sj (o:=0+5) rfl rfl (po_ok F2.hb dy),F2.hb,ay,ar,poA_5];obtain⟨_,T3,M,W⟩:=F2.grow t.rel r {p with old:=di m s.head,l:= []} (lv:= .slice none 0 0) (aW.refl _ _) (λq hq=>by cases hq) (World.ownsRow_nil _ _ _ _);have H3:=H2.cL W r U;have W:Gx (λq=>q=b) w2 T2 (put w2 b (poA sb p.most p.at' p.deep (di m s.head) (.slice none 0 0) p.done) 270) T3:=W;generalize put w2 b (poA sb p.most p.at' p.deep (di m s.head) (.slice none 0 0) p.done) 270=w3 at*;have X:Gx (λk=>k=h.mb\/k=b) w T w3 T3:=((C.mono λ_ h=> .inl h).trans (t.mono λ_ h=> .inr h)).trans (W.mono λ_ h=> .inr h);obtain⟨A3,k3,F3⟩:=po_f W.rel M;have b2:=X.off sb _ hS dy;have f4:ao (hp w3 b) (0+4)=some (bT (di m s.head)):=F3.f4;simp only[bx,f4,ac];refine(c_Top W.rel b2 (iF K.u _)).mono ?_;rintro _ w4 ⟨rfl,c4⟩;have R4:=W.rel.aw c4;have a9:Gx (λk=>k=h.mb\/k=b) w T w4 T3:=X.trans (Gx.bV W.rel c4);obtain⟨A4,k4,F4⟩:=po_f R4 M;by_cases ht:pZ s (di m s.head)<0
  ·rw[bX ht]at g;simp only[zS,ht];rw[V true F4];apply L176_0_ok;have J:=F4.put R4 M {p with old:=di m s.head,l:= [],done:=true} rfl;rw[g];exact⟨_,a9.trans (J.mono λ_ h=> .inr h),H3.cL J M U,ax⟩
  ·rw[bY ht]at g;have f5:ao (hp w4 b) (0+5)=some (.slice A4 0 k4):=F4.f5;simp only[aH,f5,zS,ht];refine ps_22 (by simp) F4.own (by simp) (cX _) λY w5 o5 a6 a7=>?_;obtain⟨E,T5,Z,J⟩:=F4.grow R4 M {p with old:=di m s.head,l:= [pZ s (di m s.head)]} (lv:=Y) (jF a6) a7 (by simpa [ints]using o5);have H5:=H3.cL J M U;have E:=E.trans F4.hb;have G:Y.cells= #[Y]/\Y.oneCell'=true:=by obtain⟨A',k',rfl,_⟩:=aG o5;exact⟨rfl,rfl⟩
   rw[sj (o:=0+5) G.1 G.2 (po_ok E dy),E,ay,ar,poA_5];have J:Gx (λq=>q=b) w4 T3 (put w5 b (poA sb p.most p.at' p.deep (di m s.head) Y p.done) 270) T5:=J;generalize put w5 b (poA sb p.most p.at' p.deep (di m s.head) Y p.done) 270=w6 at*;obtain⟨A6,k6,F6⟩:=po_f J.rel Z;rw[a5 1 F6];apply L176_0_ok;have g6:=F6.put J.rel Z {p with old:=di m s.head,l:= [pZ s (di m s.head)],at':=1} rfl;rw[g];exact⟨_,(a9.trans (J.mono λ_ h=> .inr h)).trans (g6.mono λ_ h=> .inr h),H5.cL g6 Z U,ax⟩
 rw[bY a0]at g;have q0:((p.at':Int)==0)=false:=bn dy;by_cases a1:p.at'=1
 ·rw[bX a1]at g;have n1:=O.nd z a1;have q1:((p.at':Int)==1)=true:=by rw[a1];rfl
  obtain⟨y,hy,b3,y0,y1⟩:=O.l.at (i:=p.l.length-1) dy;obtain⟨q,f,iq,lq⟩:=rd_int F.rd hy k;have e2:((p.l.length:Int)-1)=((p.l.length-1:Nat):Int):=dy;have ea:(s.ee:Int)+y=((s.ee+y.toNat:Nat):Int):=dy;rw[b3]at g;simp(disch:=omega) only[F176,ptr,ae,kf,fa_270_0,fa_270_2,r8,lB,fa_156_2,aB,mj,bD,aH,ag,hd,F.f0,F.f2,F.f5,f6,s0,s2,q0,q1,zS,aK,aZ,aj,e2,ap,iq,lq,ea];refine(je Rd H (a:=s.ee+y.toNat) dy).mono ?_;rintro _ w1 ⟨rfl,_,T1,C,H1⟩;have C:=(Gx.bV (S:=λk=>k=h.mb) R c0).trans C;have B:=C.off b _ hT a2;have b4:=C.off sb _ hS a8;refine(c_Below C.rel b4 dy (iF K.u _)).step ?_;generalize b8:gJ s (di m (s.ee+y.toNat))=d at*;obtain⟨A1,k1,F1⟩:=po_f C.rel B;simp only[fa_270_3,ac];rw[hC (o:=0+3) rfl rfl (po_ok F1.hb dy),F1.hb,ay,ar,poA_3];have t:=F1.put C.rel B {p with deep:=d} rfl;have H2:=H1.cL t B U;have r:iz T1 b (poN o sb {p with deep:=d}) b=some _:=ax;generalize iz T1 b (poN o sb {p with deep:=d})=T2 at*;have t:Gx (λq=>q=b) w1 T1 (put w1 b (poA sb p.most p.at' d p.old (.slice A1 p.l.length k1) p.done) 270) T2:=t;generalize put w1 b (poA sb p.most p.at' d p.old (.slice A1 p.l.length k1) p.done) 270=w2 at*;have b1:Gx (λk=>k=h.mb\/k=b) w T w2 T2:=(C.mono λ_ h=> .inl h).trans (t.mono λ_ h=> .inr h);obtain⟨A2,k2,F2⟩:=po_f t.rel r;have P:ad [] w2 w2.drew:=(ad.refl [] w2).drew;have R2:=t.rel.aw P;have b5:Gx (λk=>k=h.mb\/k=b) w T w2.drew T2:=b1.trans (Gx.bV t.rel P);have f3:ao (hp w2 b) (0+3)=some (bS d):=F2.f3;have f5:ao (hp w2 b) (0+5)=some (.slice A2 p.l.length k2):=F2.f5;have f1:ao (hp w2 b) (0+1)=some (bS p.most):=F2.f1;have a4:dS s m p=(m,{p with deep:=d,at':=2})->dE prog (Instr.storeAt 3 (.pointer (some ⟨b,0+2,none⟩)) (bS 2)) w2.drew λw'=>P176_0 w' λv w'=>∃T',Gx (λk=>k=h.mb\/k=b) w T w' T'/\dM T' h c (dS s m p).1/\T' b=some (poN o sb (dS s m p).2):=λe=>by
   have Q:=F2.aw t.rel P;rw[a5 2 Q];apply L176_0_ok;have J:=Q.put R2 r {p with deep:=d,at':=2} rfl;rw[e];exact⟨_,b5.trans (J.mono λ_ h=> .inr h),H2.cL J r U,ax⟩
  by_cases I:0<=d
  ·by_cases a3:(p.l.length:Int)<p.most
   ·rw[bX ⟨I,a3⟩]at g;simp only[ae,fa_270_1,r8,ag,aH,hd,f1,f3,f5,zS,aK,I,a3];have Q:=F2.aw t.rel P.drew;have b6:=t.rel.aw P.drew;refine ps_22 (by simp) Q.own (by show p.l.length+1<=_;omega) (cX _) λY w5 o5 a6 a7=>?_;obtain⟨E,T5,Z,J⟩:=Q.grow b6 r {p with deep:=d,l:=p.l++ [d]} (lv:=Y) (jF a6) a7 (by simpa [ints]using o5);have H5:=H2.cL J r U;have E:=E.trans Q.hb;have G:Y.cells= #[Y]/\Y.oneCell'=true:=by obtain⟨A',k',rfl,_⟩:=aG o5;exact⟨rfl,rfl⟩
    rw[sj (o:=0+5) G.1 G.2 (po_ok E dy),E,ay,ar,poA_5];apply L176_0_ok;rw[g];exact⟨T5,(b1.trans (Gx.bV t.rel P.drew)).trans (J.mono λ_ h=> .inr h),H5,Z⟩
   ·rw[bY (λe=>a3 e.2)]at g;simp only[ae,fa_270_1,r8,ag,aH,hd,f1,f3,f5,zS,aK,I,a3];exact a4 g
  ·rw[bY (λe=>I e.1)]at g;simp only[ag,hd,f3,zS,I];exact a4 g
 rw[bY a1]at g;have q1:((p.at':Int)==1)=false:=bn dy;have d1:=dn H hT a2;have d2:=dn H hS a8;simp only[F176,ptr,ae,kf,fa_270_0,fa_270_2,fa_270_3,fa_270_4,lB,rQ,aB,mj,bD,ag,bx,hd,F.f0,F.f2,F.f3,F.f4,f6,s0,s1,q0,q1,zS,p9,d1,d2,not_false_eq_true,true_and];refine(c_next O.u p.deep).mono ?_;rintro _ w1 ⟨rfl,c4⟩;refine⟨bJ c4,?_⟩;refine(c_Cas (Rd.aw c4) H (a:=s.head) Kh p.old (sK p.old p.deep)).mono ?_;rintro _ w2 ⟨rfl,cp,T1,C,H1⟩;refine⟨lR cp,?_⟩;generalize I:decide (di m s.head=p.old)=dd at*;have C:=(Gx.bV (S:=λk=>k=h.mb) R (c0.trans c4)).trans C;have B:=C.off b _ hT a2;obtain⟨A1,k1,F1⟩:=po_f C.rel B;try simp only[ptr,ae,kf,ac]
 rw[V _ F1];have t:=F1.put C.rel B {p with done:=dd} rfl;have H2:=H1.cL t B U;have r:iz T1 b (poN o sb {p with done:=dd}) b=some _:=ax;generalize iz T1 b (poN o sb {p with done:=dd})=T2 at*;have t:Gx (λq=>q=b) w2 T1 (put w2 b (poA sb p.most p.at' p.deep p.old (.slice A1 p.l.length k1) (dd)) 270) T2:=t;generalize put w2 b (poA sb p.most p.at' p.deep p.old (.slice A1 p.l.length k1) (dd)) 270=w3 at*;obtain⟨A3,k3,F3⟩:=po_f t.rel r;rw[a5 0 F3];apply L176_0_ok;have W:=F3.put t.rel r {p with done:=dd,at':=0} rfl;have H3:=H2.cL W r U;have X:=((C.mono (S':=λk=>k=h.mb\/k=b) λ_ h=> .inl h).trans (t.mono λ_ h=> .inr h)).trans (W.mono λ_ h=> .inr h);rw[g];by_cases hm:di m s.head=p.old
 ·rw[bX hm]at H3⊢;have:dd=true:=by rw[<- I,cj hm]
  subst this;exact⟨_,X,H3,ax⟩
 ·rw[bY hm]at H3⊢;have:dd=false:=by rw[<- I,cr hm]
  subst this;exact⟨_,X,H3,ax⟩
end
section
variable{W w w1 w':World}{T T':dN}{o b:Nat}{l l2:List Int}{v v2:Value}{K:Value->World->Prop}
def kZ(w:World)(T:dN)(v:Value)(l:List Int):Prop:=∃A k,v= .slice A l.length k/\l.length<=k/\Lo w T A (ints l)
theorem kZ.nil:kZ w T (.slice none 0 0) []:=⟨none,0,rfl,cy _,Lo.nil _ _ _⟩
theorem kZ.gx{S:Nat->Prop}(h:kZ w T v l)(g:Gx S w T w' T'):kZ w' T' v l:=by
 obtain⟨A,k,e,a,L⟩:=h;exact⟨A,k,e,a,L.gx g⟩
theorem kZ.aw(h:kZ w T v l)(a:ad [] w w'):kZ w' T v l:=by
 obtain⟨A,k,e,b,L⟩:=h;exact⟨A,k,e,b,L.aw a⟩
def SlX(S:Nat->Prop)(w:World)(T:dN)(v:Value)(l:List Int):Prop:=∃A k,v= .slice A l.length k/\∀w' T',Gx S w T w' T'->ed w' A (ints l)
theorem kZ.own{base:Nat}(R:Rel w T)(h:w1.ownsRow base 3 1 v l.length (ints l))(hb:w.heap.size<=base):kZ w1 T v l:=by
 obtain⟨A,k,e,a⟩:=own_cap h;obtain⟨A',d,e',b,c,_⟩:=aG h;rw[e]at e';cases e';exact⟨A,k,e,a,Lo.new R b λp hp=>cQ hb (c p hp).1⟩
theorem kZ.one(h:kZ w T v l):v.cells= #[v]/\v.oneCell'=true:=by
 obtain⟨A,k,rfl,_⟩:=h;exact⟨rfl,rfl⟩
theorem ints_one(l:List Int):∀u∈ints l,u.oneCell'=true:=λu a=>by
 obtain⟨y,_,rfl⟩:=List.mem_map.1 a;rfl
theorem tp(h:kZ w T v l)(o:l.length<=500000)(a:∀v' w',w'.ownsRow w.heap.size 3 1 v' l.length (ints l)->ad [] w w'->K v' w'):dF prog (Builtin.append_ #[22,22] 22 #[.slice none 0 0,v]) w K:=by
 obtain⟨A,k,rfl,_,L⟩:=h;obtain⟨i,b,c,d,hb⟩:=mR;refine iI (base:=w.heap.size) (xs:= []) (n:=0) (news:=ints l) (m:=l.length) underlying22 b c d rfl dy (World.ownsRow_nil _ _ _ _) (by simp[ints]) (λj u e=>L.rd j u e) (ints_one l) (by unfold maxLen;omega) (by rw[hb];omega) (cy _) λx1 w1 f g=>?_;exact a x1 w1 (by simpa using f) ((ad.refl _ _).grown g λk a=>by simp[Value.ownBlock]at a)
theorem eff_catR{base:Nat}(d:w.ownsRow base 3 1 v l.length (ints l))(f:ad [] W w)(hb:W.heap.size<=base)(a:base<=w.heap.size)(g:∃A k,v2= .slice A l2.length k/\ed w A (ints l2))(t:l.length+l2.length<=500000)
  (b:∀v' w',w'.ownsRow base 3 1 v' (l++l2).length (ints (l++l2))->ad [] W w'->w.heap.size<=w'.heap.size->K v' w'):dF prog (Builtin.append_ #[22,22] 22 #[v,v2]) w K:=by
 obtain⟨A,k,rfl,L⟩:=g;obtain⟨i,o,p,q,c⟩:=mR;refine iI (base:=base) (xs:=ints l) (n:=l.length) (news:=ints l2) (m:=l2.length) underlying22 o p q rfl dy d (by simp[ints]) (λj u r=>L j u r) (ints_one l2) (by unfold maxLen;omega) (by rw[c];omega) a λx1 w1 s e=>?_;refine b x1 w1 (by rw[cJ];simpa [ints]using s) (f.grown e λk b=> .inr (by have:=m6 d b;omega)) e.size
theorem eff_catI{base:Nat}(b:w.ownsRow base 3 1 v l.length (ints l))(c:ad [] W w)(hb:W.heap.size<=base)(a:base<=w.heap.size)(d:kZ w T v2 l2)(f:l.length+l2.length<=500000)
  (g:∀v' w',w'.ownsRow base 3 1 v' (l++l2).length (ints (l++l2))->ad [] W w'->w.heap.size<=w'.heap.size->K v' w'):dF prog (Builtin.append_ #[22,22] 22 #[v,v2]) w K:=by
 obtain⟨A,k,e,_,L⟩:=d;exact eff_catR b c hb a ⟨A,k,e,L.rd⟩ f g
def stA(most:Int)(v:Value):Array Value:= #[bS most,v]
theorem stA_1{most:Int}{v x:Value}:(stA most v).setIfInBounds (0+1) x=stA most x:=rfl
def stN(o:Nat)(most:Int)(v:Value):Nod:= .st o 258 ((stA most v).toList.map fQ.v)
def StR(w:World)(T:dN)(o b:Nat)(most:Int)(l:List Int):Prop:=∃v,T b=some (stN o most v)/\kZ w T v l
theorem StR.gx{S:Nat->Prop}{most:Int}(h:StR w T o b most l)(g:Gx S w T w' T')(a:¬S b):StR w' T' o b most l:=by
 obtain⟨v,hT,L⟩:=h;exact⟨v,g.off b _ hT a,L.gx g⟩
theorem StR.aw{most:Int}(h:StR w T o b most l)(a:ad [] w w'):StR w' T o b most l:=by
 obtain⟨v,hT,L⟩:=h;exact⟨v,hT,L.aw a⟩
theorem st_f{most:Int}(R:Rel w T)(hT:T b=some (stN o most v)):hp w b=some (.cells (stA most v) 258)/\ao (hp w b) (0+0)=some (bS most)/\ao (hp w b) (0+1)=some v:=by
 have hb:hp w b=some (.cells (stA most v) 258):=R.kW hT;rw[hb];exact⟨rfl,rfl,rfl⟩
theorem st_set{most:Int}(R:Rel w T)(hT:T b=some (stN o most v))(a:Rel w1 T)(c:kZ w1 T v2 l2){L:World->Prop}
  (d:∀w' T',Gx (λq=>q=b) w1 T w' T'->StR w' T' o b most l2->L w'):dE prog (Instr.storeAt 22 (.pointer (some ⟨b,0+1,none⟩)) v2) w1 L:=by
 obtain⟨hb,_,_⟩:=st_f a hT;have one:=c.one;rw[sj (o:=0+1) one.1 one.2 (by rw[hb,aT];exact cj (by show 0+1+1<=2;omega)),hb,ay,ar,stA_1];have g:=Gx.putv a hT (stA most v2).toList;exact d _ _ g ⟨v2,ax,c.gx g⟩
theorem c_NewStash(R:Rel w T){most:Int}(c:0<=most/\most<=64)(o:Nat):aa prog 134 [bS most] w λv w'=>∃b T',v=ptr b/\w.heap.size<=b/\ad [] w w'/\Gx (λ_=>False) w T w' T'/\StR w' T' o b most []:=by
 apply F134_ok;have a:∀x,ai prog (Instr.build 258 #[(0,bS x)])=some (.agg (stA x (.slice none 0 0))):=λx=>bd_258_0;have e:min (max most 0) 64=most:=dy;simp only[F134,pr_mn,pr_mx,e,a,ak,au,ac];have g:=Gx.p8 (S:=λ_=>False) R o 258 (stA most (.slice none 0 0)).toList;exact⟨w.heap.size,_,rfl,cy _,(ad.refl _ _).alloc _,g,_,ax,kZ.nil⟩
theorem c_StGive{most:Int}(R:Rel w T)(S:StR w T o b most l)(d:kZ w T v2 l2)(e:l.length+l2.length<=500000):aa prog 219 [ptr b,v2] w λv w'=>∃T',Gx (λq=>q=b) w T w' T'/\StR w' T' o b most (l++l2):=by
 apply F219_ok;obtain⟨v,hT,L⟩:=S;obtain⟨hb,f0,f1⟩:=st_f R hT;simp only[F219,ptr,ae,rZ,aH,f1,ac];refine tp L dy λk w1 f a=>?_;refine eff_catI (W:=w) (T:=T) f a (cy _) a.size (d.aw a) e λm w2 i c n=>?_;have j:=R.aw c;refine st_set R hT j (kZ.own R i (cy _)) λw' T' g S'=>?_;exact⟨T',(Gx.bV R c).trans g,S'⟩
theorem c_StTake{most:Int}(R:Rel w T)(S:StR w T o b most l)(G:l.length<=500000):aa prog 230 [ptr b] w λv w'=>v= .tuple #[bS (if l.length=0 then 0 else l.getD (l.length-1) 0),.bool (decide (l.length≠0))]/\∃T',Gx (λq=>q=b) w T w' T'/\StR w' T' o b most (l.take (l.length-1)):=by
 apply F230_ok;obtain⟨v,hT,L⟩:=S;obtain⟨hb,f0,f1⟩:=st_f R hT;obtain⟨A,k,rfl,x,a⟩:=L;by_cases d:l.length=0
 ·have i:(((l.length:Nat):Int)==0)=true:=by rw[d];rfl
  simp only[F230,ptr,ae,rZ,aH,f1,aK,zS,i];refine⟨by simp[d],T,Gx.refl R,_,hT,?_⟩;have:l= []:=List.length_eq_zero_iff.1 d;subst this;exact⟨A,k,rfl,x,a⟩
 ·have i:(((l.length:Nat):Int)==0)=false:=bn dy;have z:((l.length:Int)-1)=((l.length-1:Nat):Int):=dy;obtain⟨y,r⟩:∃y,l[l.length-1]? =some y:=⟨_,bZ dy⟩
  obtain⟨q,f,B,C,_⟩:=a.int r k;have s:=uc (P:=prog) (t:=22) (A:=A) (n:=l.length) (c:=k) (k:= .i64) (l:=((l.length-1:Nat):Int)) underlying22 aE dy dy;rw[cq]at s;simp(disch:=omega) only[F230,ptr,ae,rZ,aH,ag,f1,aK,zS,i,aZ,z,ap,B,C,s];have j:(l.take (l.length-1)).length=l.length-1:=by rw[List.length_take];omega
  have D:kZ w T (.slice A (l.length-1) k) (l.take (l.length-1)):=⟨A,k,by rw[j],dy,by rw[show ints (l.take (l.length-1))=(ints l).take (l.length-1)by simp[ints]];exact a.rd.take _,λp hp m=>a.off p hp λe=>m (by rw[show ints (l.take (l.length-1))=(ints l).take (l.length-1)by simp[ints],e,List.take_nil])⟩
  refine tp D dy λH w1 E u=>?_;refine st_set R hT (R.aw u) (kZ.own R E (cy _)) λw' T' g S'=>?_;have F:l.getD (l.length-1) 0=y:=by rw[cu,r];rfl
  exact⟨by rw[bY d,F,cj d],T',(Gx.bV R u).trans g,S'⟩
theorem c_StAll{most:Int}(R:Rel w T)(S:StR w T o b most l):aa prog 226 [ptr b] w λv w'=>∃T',kZ w' T' v l/\Gx (λq=>q=b) w T w' T'/\StR w' T' o b most []:=by
 apply F226_ok;obtain⟨v,hT,L⟩:=S;obtain⟨hb,f0,f1⟩:=st_f R hT;simp only[F226,ptr,ae,rZ,aH,f1,ac];refine st_set R hT R kZ.nil λw' T' g S'=>?_;exact⟨T',L.gx g,g,S'⟩
theorem c_StOver{most:Int}(R:Rel w T)(S:StR w T o b most l)(U:l.length<=500000)(V:0<=most/\most<=64):aa prog 223 [ptr b] w λv w'=>∃T',kZ w' T' v (l.take (l.length-most.toNat))/\Gx (λq=>q=b) w T w' T'/\StR w' T' o b most (l.drop (l.length-most.toNat)):=by
 apply F223_ok;obtain⟨v,hT,L⟩:=S;obtain⟨hb,f0,f1⟩:=st_f R hT;obtain⟨A,k,rfl,W,a⟩:=L;have F:∀{w1:World} {j:Nat},hp w1.drew j=hp w1 j:=rfl;generalize G:l.length-most.toNat=j;have H:max ((l.length:Int)-most) 0=((j:Nat):Int):=dy;have X:j<=l.length:=dy;have B:=uc (P:=prog) (t:=22) (A:=A) (n:=l.length) (c:=k) (k:= .i64) (l:=(j:Int)) underlying22 aE dy dy;have m:=pr_slice_l (P:=prog) (t:=22) (A:=A) (n:=l.length) (c:=k) (k:= .i64) (l:=(j:Int)) underlying22 aE dy dy;rw[cq]at B m;have u:ad [] w w.drew:=(ad.refl [] w).drew;simp(disch:=omega) only[F223,ptr,ae,fa_258_0,rZ,aH,ag,F,f0,f1,aK,zS,aZ,ap,pr_mx,H,B];have C:ints (l.take j)=(ints l).take j:=by simp[ints]
 have D:ints (l.drop j)=(ints l).drop (j*1):=by simp[ints]
 have x:(l.take j).length=j:=by rw[List.length_take];omega
 have y:(l.drop j).length=l.length-j:=by rw[List.length_drop]
 have I:kZ w.drew T (.slice A j k) (l.take j):=⟨A,k,by rw[x],dy,by rw[C];exact(a.aw u).rd.take _,λp hp i=>a.off p hp λe=>i (by rw[C,e,List.take_nil])⟩
 refine tp I dy λY w1 J K=>?_;have d:=u.trans K;obtain⟨_,_,z⟩:=st_f (R.aw d) hT;simp(disch:=omega) only[z,zS,m];have M:kZ w1 T (.slice (if k=j then A else A.map (·.add (j*1))) (l.length-j) (k-j)) (l.drop j):=by
  refine⟨_,_,by rw[y],dy,by rw[D];exact(a.aw d).rd.drop k j 1 (λh=>by simp[ints];omega),λp hp i=>?_⟩;have f:ints l≠ []:=λe=>i (by rw[D,e,List.drop_nil]);by_cases r:k=j
  ·rw[bX r]at hp;exact a.off p hp f
  ·rw[bY r]at hp;obtain⟨q,O,rfl⟩:=dc.1 hp;rw[rE];exact a.off q O f
 refine tp M dy λZ w2 Q E=>?_;have s:=d.trans E;refine st_set R hT (R.aw s) (kZ.own (R.aw d) Q (cy _)) λw' T' g S'=>?_;exact⟨T',((kZ.own (R.aw u) J (cy _)).aw E).gx g,(Gx.bV R s).trans g,S'⟩
end
section
variable{W w w1 w':World}{T T':dN}{o b:Nat}{lb:sL}{v:Value}{now:Int}
def lbA(t:List Int)(vs:List Value)(last:Int):List Value:=t.map (Value.int .i64)++vs++ [bS last]
def lbN(o:Nat)(t:List Int)(vs:List Value)(last:Int):Nod:= .st o 262 ((lbA t vs last).map fQ.v)
structure sL.ok(lb:sL):Prop where
 t:lb.tag.length=3
 l:lb.l.length=3
def uq(w:World)(T:dN)(o b:Nat)(lb:sL):Prop:=∃vs,T b=some (lbN o lb.tag vs lb.last)/\vs.length=3/\lb.ok/\∀k v,vs[k]? =some v->kZ w T v (lb.l.getD k [])
theorem uq.gx{S:Nat->Prop}(h:uq w T o b lb)(g:Gx S w T w' T')(a:¬S b):uq w' T' o b lb:=by
 obtain⟨vs,hT,c,d,e⟩:=h;exact⟨vs,g.off b _ hT a,c,d,λk v hv=>(e k v hv).gx g⟩
theorem uq.aw(h:uq w T o b lb)(a:ad [] w w'):uq w' T o b lb:=by
 obtain⟨vs,hT,c,d,e⟩:=h;exact⟨vs,hT,c,d,λk v hv=>(e k v hv).aw a⟩
structure LbF(w:World)(T:dN)(b:Nat)(lb:sL)(vs:List Value):Prop where
 hb:hp w b=some (.cells (lbA lb.tag vs lb.last).toArray 262)
 tg:∀k,k<3->ao (hp w b) (0+0+k*1)=some (bS (lb.tag.getD k 0))
 ls:∀k,k<3->∃v,vs[k]? =some v/\ao (hp w b) (0+3+k*1)=some v/\kZ w T v (lb.l.getD k [])
 la:ao (hp w b) (0+6)=some (bS lb.last)
theorem lb_f{vs:List Value}(R:Rel w T)(hT:T b=some (lbN o lb.tag vs lb.last))(e:vs.length=3)(c:lb.ok)(a:∀k v,vs[k]? =some v->kZ w T v (lb.l.getD k [])):LbF w T b lb vs:=by
 have hb:hp w b=some (.cells (lbA lb.tag vs lb.last).toArray 262):=R.kW hT;obtain⟨tag,l,last⟩:=lb;have d:=c.t;have f:=c.l;simp only at d f hb a⊢;match tag,d,vs,e with
 | [t0,t1,t2],_, [v0,v1,v2],_=>
  refine⟨hb,λk g=>?_,λk g=>?_,?_⟩
  ·have:k=0\/k=1\/k=2:=dy;rcases this with rfl|rfl|rfl<;>rw[hb]<;>rfl
  ·have:k=0\/k=1\/k=2:=dy;rcases this with rfl|rfl|rfl<;>rw[hb]
   ·exact⟨v0,rfl,rfl,a 0 v0 rfl⟩
   ·exact⟨v1,rfl,rfl,a 1 v1 rfl⟩
   ·exact⟨v2,rfl,rfl,a 2 v2 rfl⟩
  ·rw[hb];rfl
theorem ixT{k:Nat}{f:Nat}(a:k<3):ai prog (Instr.indexAt 259 (.pointer (some ⟨b,f,none⟩)) (bS k))=some (.pointer (some ⟨b,f+k*1,none⟩)):=by
 have:=pr_indexA (P:=prog) (t:=259) (b:=b) (o:=f) (k:= .i64) (i:=(k:Int)) Tryz.underlying259 aE dy dy
 rwa[cq]at this
theorem ixL{k:Nat}{f:Nat}(a:k<3):ai prog (Instr.indexAt 260 (.pointer (some ⟨b,f,none⟩)) (bS k))=some (.pointer (some ⟨b,f+k*1,none⟩)):=by
 have:=pr_indexA (P:=prog) (t:=260) (b:=b) (o:=f) (k:= .i64) (i:=(k:Int)) Tryz.underlying260 sz_22 dy dy
 rwa[cq]at this
theorem kE{l:List Int}(h:kZ w T v l):ai prog (Builtin.len_ #[22] 3 #[v])=some (bS l.length):=by
 obtain⟨A,k,rfl,_⟩:=h;exact aK
def tr(lb:sL)(now best:Int)(k:Nat):Int:=if k=0 then cO lb now (cO lb now (cO lb now best 0) 1) 2 else if k=1 then cO lb now (cO lb now best 1) 2 else if k=2 then cO lb now best 2 else best
theorem least_rng{best:Int}{k:Nat}(a:k<3)(hb:best= -1\/(0<=best/\best<3)):cO lb now best k= -1\/(0<=cO lb now best k/\cO lb now best k<3):=by
 unfold cO;split
 ·right;omega
 ·exact hb
theorem leastFrom_step{best:Int}{k:Nat}(a:k<3):tr lb now best k=tr lb now (cO lb now best k) (k+1):=by
 have:k=0\/k=1\/k=2:=dy;rcases this with rfl|rfl|rfl<;>rfl
theorem l_least(x:0<=now/\now<=4611686018427387904){vs:List Value}(R:Rel w T)(hT:T b=some (lbN o lb.tag vs lb.last))(y:vs.length=3)(z:lb.ok)(A:∀k v,vs[k]? =some v->kZ w T v (lb.l.getD k [])):
  ∀(d k:Nat) (best:Int) (w1:World),ad [] w w1->k+d=3->(best= -1\/(0<=best/\best<3))->P232_0 (ptr b) (bS now) (bS best) (bS k) w1 λv w'=>v=bS (tr lb now best k)/\ad [] w w':=by
 intro d;induction d with
 |zero=>
  intro k best w1 n B hb;apply L232_0_ok;have:¬((k:Int)<3):=dy;simp only[L232_0,zS,this];refine⟨?_,n⟩;have:k=3:=dy;subst this;rfl
 |succ d C=>
  intro k best w1 n B hb;apply L232_0_ok;have f:(k:Int)<3:=dy;have a:k<3:=dy;have t:ad [] w w1.drew:=n.drew;have F:=lb_f (R.aw n) hT y z λk v hv=>(A k v hv).aw n;obtain⟨v,_,lv,p⟩:=F.ls k a;have s:=F.tg k a;rw[leastFrom_step a];have D:=least_rng (lb:=lb) (now:=now) a hb;have next:P232_1 (ptr b) (bS now) (bS (cO lb now best k)) (bS k) w1.drew λv w'=>v=bS (tr lb now (cO lb now best k) (k+1))/\ad [] w w':=by
   apply L232_1_ok;simp(disch:=omega) only[L232_1,aj,ap,ac];have:=C (k+1) _ w1.drew t dy D;rw[db k 1]at this;exact this
  by_cases u:0<(lb.l.getD k []).length
  case neg=>
   have e:cO lb now best k=best:=by rw[cO,bY (λh=>u h.1)]
   rw[e]at next⊢
   have c:¬(0:Int)<((lb.l.getD k []).length:Int):=dy;simp only[L232_0,ptr,ae,zS,f,iU,ixL a,aH,lv,kE p,c];exact next
  have c:(0:Int)<((lb.l.getD k []).length:Int):=dy;by_cases j:lb.tag.getD k 0<=now-2
  case neg=>
   have e:cO lb now best k=best:=by rw[cO,bY (λh=>j h.2.1)]
   rw[e]at next⊢
   simp(disch:=omega) only[L232_0,ptr,ae,zS,f,nX,iU,ixL a,ixT a,aH,ag,lv,s,kE p,c,aZ,ap,j];exact next
  by_cases q:best<0
  ·have e:cO lb now best k=k:=by rw[cO,bX ⟨u,j,.inl q⟩]
   rw[e]at next⊢
   simp(disch:=omega) only[L232_0,ptr,ae,zS,f,nX,iU,ixL a,ixT a,aH,ag,lv,s,kE p,c,aZ,ap,j,q];exact next
  ·obtain⟨g,rfl⟩:∃g:Nat,best=g:=⟨best.toNat,dy⟩
   have m:g<3:=dy;have r:=F.tg g m;have e:cO lb now g k=if lb.tag.getD k 0<lb.tag.getD g 0 then(k:Int)else g:=by
    rw[cO];by_cases i:lb.tag.getD k 0<lb.tag.getD g 0
    ·rw[bX i,bX ⟨u,j,.inr (by rw[cq];exact i)⟩]
    ·rw[bY i,bY];rintro⟨_,_,h|h⟩
     ·exact q h
     ·rw[cq]at h;exact i h
   rw[e]at next⊢
   by_cases i:lb.tag.getD k 0<lb.tag.getD g 0
   ·rw[bX i]at next⊢
    simp(disch:=omega) only[L232_0,ptr,ae,zS,f,nX,iU,ixL a,ixT a,ixT m,aH,ag,lv,s,r,kE p,c,aZ,ap,j,q,i];exact next
   ·rw[bY i]at next⊢
    simp(disch:=omega) only[L232_0,ptr,ae,zS,f,nX,iU,ixL a,ixT a,ixT m,aH,ag,lv,s,r,kE p,c,aZ,ap,j,q,i];exact next
theorem c_Least(a:0<=now/\now<=4611686018427387904)(R:Rel w T)(L:uq w T o b lb):aa prog 232 [ptr b,bS now] w λv w'=>v=bS (kC lb now)/\ad [] w w':=by
 apply F232_ok;obtain⟨vs,hT,c,d,e⟩:=L;exact l_least a R hT c d e 3 0 (-1) w (ad.refl _ _) rfl (.inl rfl)
theorem c_Open(a:0<=now/\now<=4611686018427387904)(R:Rel w T)(L:uq w T o b lb):aa prog 231 [ptr b,bS now] w λv w'=>v= .bool (sM lb now)/\ad [] w w':=by
 apply F231_ok;by_cases c:2<=now
 ·simp only[F231,zS,c];refine(c_Least a R L).mono ?_;rintro _ w1 ⟨rfl,d⟩;simp only[zS];exact⟨by rw[sM,cj c,Bool.true_and],d⟩
 ·simp only[F231,zS,c];exact⟨by rw[sM,cr c,Bool.false_and],ad.refl _ _⟩
theorem c_LbLen(R:Rel w T)(L:uq w T o b lb)(a:∀k,(lb.l.getD k []).length<=500000):aa prog 229 [ptr b] w λv w'=>v=bS (jE lb)/\ad [] w w':=by
 apply F229_ok;obtain⟨vs,hT,c,d,e⟩:=L;have f:ad [] w w.drew:=(ad.refl [] w).drew;have F:=lb_f R hT c d e;obtain⟨r,_,g,L0⟩:=F.ls 0 dy;obtain⟨s,_,i,j⟩:=F.ls 1 dy;obtain⟨v2,_,l2,m⟩:=F.ls 2 dy;have n:ai prog (Instr.indexAt 260 (.pointer (some ⟨b,0+3,none⟩)) (bS 0))=some (.pointer (some ⟨b,0+3+0*1,none⟩)):=ixL (k:=0) dy;have p:ai prog (Instr.indexAt 260 (.pointer (some ⟨b,0+3,none⟩)) (bS 1))=some (.pointer (some ⟨b,0+3+1*1,none⟩)):=ixL (k:=1) dy;have q:ai prog (Instr.indexAt 260 (.pointer (some ⟨b,0+3,none⟩)) (bS 2))=some (.pointer (some ⟨b,0+3+2*1,none⟩)):=ixL (k:=2) dy;have t:=a 0;have u:=a 1;have x:=a 2;simp(disch:=omega) only[F229,ptr,ae,zS,iU,n,p,q,aH,g,i,l2,kE L0,kE j,kE m,aj,ap];exact⟨by rw[jE];push_cast;rfl,f⟩
theorem c_NewLimbo(R:Rel w T)(o:Nat):aa prog 135 [] w λv w'=>∃b T',v=ptr b/\w.heap.size<=b/\ad [] w w'/\Gx (λ_=>False) w T w' T'/\uq w' T' o b lbNew:=by
 apply F135_ok;have a:ai prog (Instr.build 262 #[(2,bS (-1))])=some (.agg (lbA [0,0,0] [.slice none 0 0,.slice none 0 0,.slice none 0 0] (-1)).toArray):=bd_262_2;simp only[F135,a,ak,au,ac];have g:=Gx.p8 (S:=λ_=>False) R o 262 (lbA [0,0,0] [.slice none 0 0,.slice none 0 0,.slice none 0 0] (-1));refine⟨w.heap.size,_,rfl,cy _,(ad.refl _ _).alloc _,g, [.slice none 0 0,.slice none 0 0,.slice none 0 0],ax,rfl,⟨rfl,rfl⟩,λk v hv=>?_⟩;have c:=(ce.1 hv).1;have:k=0\/k=1\/k=2:=by simp at c;omega
 rcases this with rfl|rfl|rfl<;>cases hv<;>exact kZ.nil
theorem lbA_l{t:List Int}{vs:List Value}{last:Int}{k:Nat}(a:t.length=3)(hv:vs.length=3)(b:k<3)(x:Value):(lbA t vs last).toArray.setIfInBounds (0+3+k*1) x=(lbA t (vs.set k x) last).toArray:=by
 match t,a,vs,hv with
 | [t0,t1,t2],_, [v0,v1,v2],_=>
  have:k=0\/k=1\/k=2:=dy;rcases this with rfl|rfl|rfl<;>rfl
theorem lbA_t{t:List Int}{vs:List Value}{last:Int}{k:Nat}(a:t.length=3)(hv:vs.length=3)(b:k<3)(x:Int):(lbA t vs last).toArray.setIfInBounds (0+0+k*1) (bS x)=(lbA (t.set k x) vs last).toArray:=by
 match t,a,vs,hv with
 | [t0,t1,t2],_, [v0,v1,v2],_=>
  have:k=0\/k=1\/k=2:=dy;rcases this with rfl|rfl|rfl<;>rfl
theorem lbA_6{t:List Int}{vs:List Value}{last:Int}(a:t.length=3)(hv:vs.length=3)(x:Int):(lbA t vs last).toArray.setIfInBounds (0+6) (bS x)=(lbA t vs x).toArray:=by
 match t,a,vs,hv with
 | [t0,t1,t2],_, [v0,v1,v2],_=>rfl
theorem lb_okC{t:List Int}{vs:List Value}{last:Int}{e:TypeId}(hb:hp w b=some (.cells (lbA t vs last).toArray e))(a:t.length=3)(hv:vs.length=3){f:Nat}(c:f<7):mX (hp w b) (f+1)=true:=by
 rw[hb,aT];exact cj (by simp[lbA,a,hv];omega)
theorem lb_setL(f:Rel w1 T)(L:uq w1 T o b lb){k:Nat}(i:k<3){l2:List Int}{v2:Value}(m:kZ w1 T v2 l2){K:World->Prop}
  (p:∀w' T',Gx (λq=>q=b) w1 T w' T'->uq w' T' o b {lb with l:=lb.l.set k l2}->K w'):dE prog (Instr.storeAt 22 (.pointer (some ⟨b,0+3+k*1,none⟩)) v2) w1 K:=by
 obtain⟨vs,hT,d,a,n⟩:=L;have F:=lb_f f hT d a n;have one:=m.one;rw[sj (o:=0+3+k*1) one.1 one.2 (lb_okC F.hb a.t d dy),F.hb,ay,ar,lbA_l a.t d i];have g:=Gx.putv f hT (lbA lb.tag (vs.set k v2) lb.last);refine p _ _ g ⟨vs.set k v2,ax,by rw[cE];exact d,⟨a.t,by rw[cE];exact a.l⟩,λj u c=>?_⟩;rw[cU]at c;by_cases e:k=j
 ·subst e;rw[bX rfl,bX dy]at c;cases c;rw[show(lb.l.set k l2).getD k []=l2 by rw[cu,cU,bX rfl,bX (by rw[a.l];exact i)];rfl];exact m.gx g
 ·rw[bY e]at c;rw[show(lb.l.set k l2).getD j []=lb.l.getD j []by rw[cu,cu,cU,bY e]];exact(n j u c).gx g
theorem lb_setT(d:Rel w1 T)(L:uq w1 T o b lb){k:Nat}(f:k<3)(x:Int){K:World->Prop}
  (i:∀w' T',Gx (λq=>q=b) w1 T w' T'->uq w' T' o b {lb with tag:=lb.tag.set k x}->K w'):dE prog (Instr.storeAt 3 (.pointer (some ⟨b,0+0+k*1,none⟩)) (bS x)) w1 K:=by
 obtain⟨vs,hT,c,a,e⟩:=L;have F:=lb_f d hT c a e;rw[hC (o:=0+0+k*1) rfl rfl (lb_okC F.hb a.t c dy),F.hb,ay,ar,lbA_t a.t c f];have g:=Gx.putv d hT (lbA (lb.tag.set k x) vs lb.last);exact i _ _ g ⟨vs,ax,c,⟨by rw[cE];exact a.t,a.l⟩,λj u m=>(e j u m).gx g⟩
theorem lb_setLa(d:Rel w1 T)(L:uq w1 T o b lb)(x:Int){K:World->Prop}
  (f:∀w' T',Gx (λq=>q=b) w1 T w' T'->uq w' T' o b {lb with last:=x}->K w'):dE prog (Instr.storeAt 3 (.pointer (some ⟨b,0+6,none⟩)) (bS x)) w1 K:=by
 obtain⟨vs,hT,c,a,e⟩:=L;have F:=lb_f d hT c a e;rw[hC (o:=0+6) rfl rfl (lb_okC F.hb a.t c dy),F.hb,ay,ar,lbA_6 a.t c];have g:=Gx.putv d hT (lbA lb.tag vs x);exact f _ _ g ⟨vs,ax,c,⟨a.t,a.l⟩,λj u i=>(e j u i).gx g⟩
end
section
variable{W w w1 w':World}{T0 T T':dN}{o b sb wb:Nat}{lb:sL}{v:Value}{now:Int}{l l2:List Int}
theorem Gx.local{S:Nat->Prop}{F:Nat->Prop}(g:Gx S W T0 w T)(a:aW F w w1)(c:∀k,F k->W.heap.size<=k/\T k=none):Gx S W T0 w1 T:=
 ⟨g.rel.frame (a.mono λk b=>(c k b).2),⟨a.os.trans g.aw.os,a.tape.trans g.aw.tape,a.output.trans g.aw.output,cQ g.aw.size a.size,λk b d=>by
  rw[a.block k (cY b g.aw.size) λh=>by have:=(c k h).1;omega];exact g.aw.block k b d⟩,g.off,g.own,g.non,g.ty⟩
theorem lb_setL0{vs:List Value}(d:Rel w1 T)(hT:T b=some (lbN o lb.tag vs lb.last))(a:vs.length=3)(c:lb.ok)(e:∀k v,vs[k]? =some v->kZ w1 T v (lb.l.getD k [])){k:Nat}(f:k<3){v2:Value}(one:v2.cells= #[v2]/\v2.oneCell'=true){K:World->Prop}
  (g:∀w' T',Gx (λq=>q=b) w1 T w' T'->T' b=some (lbN o lb.tag (vs.set k v2) lb.last)->aW (λq=>q=b) w1 w'->(∀ q,q≠b->T' q=T q)->K w'):dE prog (Instr.storeAt 22 (.pointer (some ⟨b,0+3+k*1,none⟩)) v2) w1 K:=by
 have F:=lb_f d hT a c e;rw[sj (o:=0+3+k*1) one.1 one.2 (lb_okC F.hb c.t a dy),F.hb,ay,ar,lbA_l c.t a f];exact g _ _ (Gx.putv d hT (lbA lb.tag (vs.set k v2) lb.last)) ax (aW.put _ _ _ _) λq i=>aD i
def fullN(lb:sL):Nat:=(if 0<(lb.l.getD 0 []).length then 1 else 0)+(if 0<(lb.l.getD 1 []).length then 1 else 0)+(if 0<(lb.l.getD 2 []).length then 1 else 0)
theorem ur{k:Nat}{best:Int}(h:cO lb now best k≠best):0<(lb.l.getD k []).length/\cO lb now best k=k:=by
 unfold cO at h⊢;split
 ·rename_i a;exact⟨a.1,rfl⟩
 ·rename_i a;rw[bY a]at h;exact absurd rfl h
theorem open_full(h:sM lb now=true):∃k:Nat,kC lb now=k/\k<3/\0<(lb.l.getD k []).length:=by
 unfold sM at h;simp only[de,decide_eq_true_eq]at h;have j:=h.2;unfold kC at j⊢;generalize d:cO lb now (-1) 0=a at*;generalize e:cO lb now a 1=b at*;generalize f:cO lb now b 2=c at*;by_cases g:c=b
 ·subst g;by_cases i:c=a
  ·subst i;by_cases m:c= -1
   ·omega
   ·have:=ur (lb:=lb) (now:=now) (k:=0) (best:= -1) (by rw[d];exact m);rw[d]at this;exact⟨0,this.2,dy,this.1⟩
  ·have:=ur (lb:=lb) (now:=now) (k:=1) (best:=a) (by rw[e];exact i);rw[e]at this;exact⟨1,this.2,dy,this.1⟩
 ·have:=ur (lb:=lb) (now:=now) (k:=2) (best:=b) (by rw[f];exact g);rw[f]at this;exact⟨2,this.2,dy,this.1⟩
theorem full_set(d:lb.l.length=3){k:Nat}(f:k<3)(e:0<(lb.l.getD k []).length):fullN {lb with l:=lb.l.set k []}<fullN lb:=by
 obtain⟨tag,l,last⟩:=lb;simp only at d e⊢;match l,d with
 | [a,b,c],_=>
  have:k=0\/k=1\/k=2:=dy;rcases this with rfl|rfl|rfl<;>simp only[fullN,List.set_cons_zero,List.set_cons_succ,List.getD_cons_zero,List.getD_cons_succ,List.length_nil]at e⊢ <;>(repeat' split)<;>omega
theorem l_ready(p:0<=now/\now<=4611686018427387904)(R0:Rel W T0)(a5:b<W.heap.size):
  ∀(f:Nat) (lb:sL) (vs:List Value) (d:List Int) (v:Value) (w:World) (T:dN),fullN lb<f->Gx (λq=>q=b) W T0 w T->T b=some (lbN o lb.tag vs lb.last)->(∀ q,q≠b->T q=T0 q)->vs.length=3->lb.ok->(∀ k v,vs[k]? =some v->kZ W T0 v (lb.l.getD k []))->
   w.ownsRow W.heap.size 3 1 v d.length (ints d)->d.length+(lb.l.getD 0 []).length+(lb.l.getD 1 []).length+(lb.l.getD 2 []).length<=400000->
   P225_0 (ptr b) (bS now) v w λv w'=>∃T',w'.ownsRow W.heap.size 3 1 v (fp f lb now d).1.length (ints (fp f lb now d).1)/\Gx (λq=>q=b) W T0 w' T'/\uq w' T' o b (fp f lb now d).2/\∀q,q≠b->T' q=T0 q:=by
 intro f;induction f with
 |zero=>intro lb vs d v w T hf;omega
 |succ f ih=>
  intro lb vs d v w T hf g hT s E x G ho r;apply L225_0_ok;have L:uq w T o b lb:=⟨vs,hT,E,x,λk v hv=>(G k v hv).gx g⟩
  simp only[L225_0];refine(c_Open p g.rel L).mono ?_;rintro _ w1 ⟨rfl,H⟩;have I:=g.trans (Gx.bV g.rel H);have o1:=eZ ho H λk _=>by simp
  rw[fp];cases K:sM lb now with
  |false=>
   simp only[zS,Bool.false_eq_true,if_false];exact⟨T,o1,I,L.aw H,s⟩
  |true=>
  obtain⟨k,hk,e,M⟩:=open_full K;simp only[zS,if_true];refine(c_Least p I.rel (L.aw H)).mono ?_;rintro _ w2 ⟨rfl,c2⟩;have J:=I.trans (Gx.bV I.rel c2);have o2:=eZ o1 c2 λk _=>by simp
  rw[hk,cq];have O:∀k v,vs[k]? =some v->kZ w2 T v (lb.l.getD k []):=λk v hv=>(G k v hv).gx J;have F:=lb_f J.rel hT E x O;obtain⟨u,y,lu,Lu⟩:=F.ls k e;have a6:(lb.l.getD k []).length<=(lb.l.getD 0 []).length+(lb.l.getD 1 []).length+(lb.l.getD 2 []).length:=by
   have:k=0\/k=1\/k=2:=dy;rcases this with rfl|rfl|rfl<;>omega
  simp only[zS,ptr,iU,ixL e,aH,lu];obtain⟨A,kk,rfl,_,P⟩:=Lu;obtain⟨i,hi,hz,hs,Q⟩:=mR;refine iI (base:=W.heap.size) (xs:=ints d) (n:=d.length) (news:=ints (lb.l.getD k [])) (m:=(lb.l.getD k []).length) underlying22 hi hz hs rfl dy o2 (by simp[ints]) (λj u B=>P.rd j u B) (ints_one _) (by unfold maxLen;omega) (by rw[Q];omega) J.size λx3 R o3 S=>?_;have U:Gx (λq=>q=b) W T0 R T:=Gx.local J (jF S) λq z=>by
   have C:=m6 o2 z;refine⟨C,?_⟩;by_cases V:q=b
   ·omega
   ·rw[s q V];exact R0.fresh C
  have D:∀k v,vs[k]? =some v->kZ R T v (lb.l.getD k []):=λk v hv=>(G k v hv).gx U;refine lb_setL0 U.rel hT E x D e (v2:= .slice none 0 0) ⟨rfl,rfl⟩ λw4 T4 g4 X c4 Y=>?_;have Z:R.ownsRow W.heap.size 3 1 x3 (d++lb.l.getD k []).length (ints (d++lb.l.getD k [])):=by rw[cJ];simpa [ints]using o3
  have o4:=c4.row Z λq z (h:q=b)=>by have:=m6 o3 z;omega
  have a4:=U.trans g4;have l4:(d++lb.l.getD k []).length+((lb.l.set k []).getD 0 []).length+((lb.l.set k []).getD 1 []).length+((lb.l.set k []).getD 2 []).length<=400000:=by
   have hl:=x.l;obtain⟨tag,l,last⟩:=lb;simp only at hl r⊢;match l,hl with
   | [a,b,c],_=>
    rw[cJ];have:k=0\/k=1\/k=2:=dy;rcases this with rfl|rfl|rfl<;>simp only[List.set_cons_zero,List.set_cons_succ,List.getD_cons_zero,List.getD_cons_succ,List.length_nil]at r⊢ <;>omega
  have a7:=full_set x.l e M;exact ih {lb with l:=lb.l.set k []} (vs.set k (.slice none 0 0)) (d++lb.l.getD k []) x3 w4 T4 dy a4 X (λq z=>(Y q z).trans (s q z)) (by rw[cE];exact E) ⟨x.t,by rw[cE];exact x.l⟩ (λj u y=>by
   rw[cU]at y;by_cases B:k=j
   ·subst B;rw[bX rfl,bX dy]at y;cases y;rw[show(lb.l.set k []).getD k []= []by rw[cu,cU,bX rfl];split<;>rfl];exact kZ.nil
   ·rw[bY B]at y;rw[show(lb.l.set k []).getD j []=lb.l.getD j []by rw[cu,cu,cU,bY B]];exact G j u y) o4 l4
def sL.few(lb:sL):Prop:=(lb.l.getD 0 []).length+(lb.l.getD 1 []).length+(lb.l.getD 2 []).length<=200000
theorem uq.lt(R:Rel w T)(L:uq w T o b lb):b<w.heap.size:=by
 obtain⟨vs,hT,_⟩:=L;exact R.lt b _ hT
theorem c_Ready(a:0<=now/\now<=4611686018427387904)(R:Rel w T)(L:uq w T o b lb)(d:lb.few):aa prog 225 [ptr b,bS now] w λv w'=>∃T',kZ w' T' v (fp 4 lb now []).1/\Gx (λq=>q=b) w T w' T'/\uq w' T' o b (fp 4 lb now []).2:=by
 apply F225_ok;have hb:=L.lt R;obtain⟨vs,hT,f,i,j⟩:=L;have:fullN lb<4:=by unfold fullN;(repeat' split)<;>omega
 refine Part.mono (l_ready a R hb 4 lb vs [] (.slice none 0 0) w T this (Gx.refl R) hT (λ_ _=>rfl) f i j (World.ownsRow_nil _ _ _ _) (by unfold sL.few at d;simp only[List.length_nil];omega)) λv w' h=>?_;obtain⟨T',c,g,l,m⟩:=h;refine⟨T',?_,g,l⟩;obtain⟨A,k,e,n⟩:=own_cap c;obtain⟨A',u,e',r,s,_⟩:=aG c;rw[e]at e';cases e';exact⟨A,k,e,n,r,λp hp _=>by
  have t:=(s p hp).1;rw[m p.block dy];exact R.fresh t⟩
theorem tmod3{tag:Int}(h:0<=tag):tag%3=(((tag%3).toNat:Nat):Int)/\(tag%3).toNat<3:=dy
theorem slX_len{S:Nat->Prop}{l:List Int}{v:Value}(h:SlX S w T v l):ai prog (Builtin.len_ #[22] 3 #[v])=some (bS l.length):=by
 obtain⟨A,k,rfl,_⟩:=h;exact aK
theorem c_LbRetire(R:Rel w T)(L:uq w T o b lb)(hf:lb.few){v2:Value}(Z:SlX (λq=>q=b) w T v2 l2)(hl:l2.length<=100000)(tag:Int):
  aa prog 221 [ptr b,bS tag,v2] w λv w'=>∃u T',v= .tuple #[u,.bool (eM lb tag l2).2.1]/\kZ w' T' u (eM lb tag l2).1/\Gx (λq=>q=b) w T w' T'/\uq w' T' o b (eM lb tag l2).2.2:=by
 apply F221_ok;have L0:=L;obtain⟨vs,hT,a1,E,a3⟩:=L;have F:=lb_f R hT a1 E a3;have no:(l2.length=0\/tag<0\/4611686018427387903<tag\/tag<lb.last)->∃u T',Value.tuple #[.slice none 0 0,.bool false]= .tuple #[u,.bool (eM lb tag l2).2.1]/\kZ w T' u (eM lb tag l2).1/\Gx (λq=>q=b) w T w T'/\uq w T' o b (eM lb tag l2).2.2:=λh=>by
  rw[eM,bX h];exact⟨_,T,rfl,kZ.nil,Gx.refl R,L0⟩
 simp only[F221,slX_len Z,zS,ptr];by_cases q1:l2.length=0
 ·have e:(((l2.length:Nat):Int)==0)=true:=by rw[q1];rfl
  simp only[zS,e];exact no (.inl q1)
 have y:(((l2.length:Nat):Int)==0)=false:=bn dy;by_cases m:tag<0
 ·simp only[zS,y,m];exact no (.inr (.inl m))
 by_cases z:4611686018427387903<tag
 ·simp only[zS,y,m,z];exact no (.inr (.inr (.inl z)))
 by_cases G:tag<lb.last
 ·simp only[zS,y,m,z,fa_262_2,ag,F.la,G];exact no (.inr (.inr (.inr G)))
 have rt:eM lb tag l2=if 0<(lb.l.getD (tag%3).toNat []).length/\lb.tag.getD (tag%3).toNat 0<tag then
   (lb.l.getD (tag%3).toNat [],true,⟨lb.tag.set (tag%3).toNat tag,lb.l.set (tag%3).toNat l2,tag⟩)
  else([],true,⟨lb.tag.set (tag%3).toNat tag,lb.l.set (tag%3).toNat (lb.l.getD (tag%3).toNat []++l2),tag⟩):=by rw[eM,bY dy]
 obtain⟨H,a⟩:=tmod3 (tag:=tag) dy;generalize (tag%3).toNat=k at*;have n:(lb.l.getD k []).length<=200000:=by
  unfold sL.few at hf;have:k=0\/k=1\/k=2:=dy;rcases this with rfl|rfl|rfl<;>omega
 simp only[zS,y,m,z,fa_262_2,ag,F.la,G];refine lb_setLa R L0 tag λw1 T1 p L1=>?_;have d:=L1;obtain⟨a4,I,b1,b2,b3⟩:=L1;have F1:=lb_f p.rel I b1 b2 b3;obtain⟨u,hu,J,r⟩:=F1.ls k a;have K:=F1.tg k a;simp only at r K;have rest:∀(i:List Int) (x:Value) (w2:World) (T2:dN),Gx (λq=>q=b) w T w2 T2->uq w2 T2 o b {lb with l:=lb.l.set k i,last:=tag}->kZ w2 T2 x (eM lb tag l2).1->i.length<=200000->eM lb tag l2=((eM lb tag l2).1,true,⟨lb.tag.set k tag,lb.l.set k (i++l2),tag⟩)->
   P221_0 (bU b) (bS tag) v2 (bS k) x w2 λv w'=>∃u T',v= .tuple #[u,.bool (eM lb tag l2).2.1]/\kZ w' T' u (eM lb tag l2).1/\Gx (λq=>q=b) w T w' T'/\uq w' T' o b (eM lb tag l2).2.2:=by
  intro i x w2 T2 s M O a5 he;apply L221_0_ok;simp only[L221_0,ae,ac,nX,ixT a];refine lb_setT s.rel M a tag λB T3 f L3=>?_;have t:=s.trans f;have P:=L3;obtain⟨a6,Q,d1,d2,d3⟩:=L3;have F3:=lb_f f.rel Q d1 d2 d3;obtain⟨u3,a7,S,g⟩:=F3.ls k a;simp only at g;rw[show(lb.l.set k i).getD k []=i by rw[cu,cU,bX rfl,bX (by rw[E.l];exact a)];rfl]at g;simp only[zS,iU,ixL a,aH,S];have j:ad [] B B.drew:=(ad.refl [] B).drew;have R3:=f.rel.aw j;refine tp (g.aw j) dy λv4 w4 o4 U=>?_;refine eff_catR (W:=B.drew) o4 U (cy _) U.size (by obtain⟨A,k,e,O⟩:=Z;exact⟨A,k,e,O _ _ (t.trans (Gx.bV f.rel (j.trans U)))⟩) dy λv5 w5 o5 C s5=>?_;have R5:=R3.aw C;have V:=kZ.own R3 o5 (cy _);try simp only[ae,ac,iU,ixL a]
  refine lb_setL R5 ((P.aw j).aw C) a V λw6 T6 g6 L6=>?_;have X:=(t.trans (Gx.bV f.rel (j.trans C))).trans g6;have Y:=(f.trans (Gx.bV f.rel (j.trans C))).trans g6;rw[List.set_set]at L6;refine⟨x,T6,by rw[he],O.gx Y,X,?_⟩;rw[he];exact L6
 have same:lb.l.set k (lb.l.getD k [])=lb.l:=mV (by rw[cu,bZ (by rw[E.l];exact a)];rfl);by_cases q5:0<(lb.l.getD k []).length
 ·have c:(0:Int)<((lb.l.getD k []).length:Int):=dy;by_cases D:lb.tag.getD k 0<tag
  ·rw[bX ⟨q5,D⟩]at rt;simp(disch:=omega) only[zS,kF,tmd,H,nX,iU,ixL a,ixT a,aH,ag,J,K,kE r,c,D];refine lb_setL p.rel d a kZ.nil λw2 T2 s M=>?_;exact rest [] u w2 T2 (p.trans s) M (by rw[rt];exact r.gx s) (by simp) (by rw[rt];rfl)
  ·rw[bY (λh=>D h.2)]at rt;simp(disch:=omega) only[zS,kF,tmd,H,nX,iU,ixL a,ixT a,aH,ag,J,K,kE r,c,D];exact rest (lb.l.getD k []) _ w1 T1 p (by rw[same];exact d) (by rw[rt];exact kZ.nil) n (by rw[rt])
 ·have c:¬(0:Int)<((lb.l.getD k []).length:Int):=dy;rw[bY (λh=>q5 h.1)]at rt;simp(disch:=omega) only[zS,kF,tmd,H,iU,ixL a,aH,J,kE r,c];exact rest (lb.l.getD k []) _ w1 T1 p (by rw[same];exact d) (by rw[rt];exact kZ.nil) n (by rw[rt])
end
def SO(T:dN)(o:Nat)(es:List TypeId)(k:Nat):Prop:=∃e cs,T k=some (.st o e cs)/\e∈es
def SM(h:Hm)(T:dN)(o:Nat)(es:List TypeId)(k:Nat):Prop:=k=h.mb\/SO T o es k
section
variable{w w1 w2 w':World}{T T1 T2 T':dN}{h:Hm}{c:cP}{m m':bI}{o o' b sb lb k:Nat}{es es':List TypeId}{l l2:List Int}{v v2:Value}{e:TypeId}{cs:List fQ}
theorem SO.back{S:Nat->Prop}(g:Gx S w T w1 T1){a:Nod}(hT:T k=some a)(h:SO T1 o es' k)(d:∀e∈es',e∈es):SO T o es k:=by
 obtain⟨e,cs,b,f⟩:=h;cases a with
 |st m n i=>
  obtain⟨l,c⟩:=g.ty k _ _ _ hT;rw[b]at c;cases c;exact⟨_,_,hT,d _ f⟩
 |own x j=>
  have:=g.own k x j hT;rw[b]at this;cases this
theorem SO.then(g:Gx (SO T o es) w T w1 T1)(a:Gx (SO T1 o es') w1 T1 w2 T2)(b:∀e∈es',e∈es):Gx (SO T o es) w T w2 T2:=g.then a λk d hT c=>c.back g hT b
theorem SM.then(g:Gx (SM h T o es) w T w1 T1)(b:Gx (SM h T1 o es') w1 T1 w2 T2)(c:∀e∈es',e∈es):Gx (SM h T o es) w T w2 T2:=g.then b λk d hT a=>a.imp id λa=>a.back g hT c
theorem SO.one(hT:T b=some (.st o e cs))(a:e∈es)(g:Gx (λq=>q=b) w T w' T'):Gx (SO T o es) w T w' T':=g.mono λk c=>by rw[c];exact⟨e,cs,hT,a⟩
theorem SO.no(g:Gx (λ_=>False) w T w' T'):Gx (SO T o es) w T w' T':=g.mono λ_ h=>h.elim
theorem SO.toM(g:Gx (SO T o es) w T w' T')(a:∀e∈es,e∈es'):Gx (SM h T o es') w T w' T':=g.mono λk ⟨e,cs,b,c⟩=> .inr ⟨e,cs,b,a e c⟩
theorem SM.mem(g:Gx (λq=>q=h.mb) w T w' T'):Gx (SM h T o es) w T w' T':=g.mono λ_ h=> .inl h
theorem SM.two(hT:T b=some (.st o e cs))(c:e∈es)(g:Gx (λq=>q=h.mb\/q=b) w T w' T'):Gx (SM h T o es) w T w' T':=g.mono λk a=>a.imp id λa=>by rw[a];exact⟨e,cs,hT,c⟩
theorem SO.un(hT:T k=some (.st o' e cs))(hn:o'≠o\/e∉es):¬SO T o es k:=fun⟨d,b,a,c⟩=>by
 rw[hT]at a;cases a;rcases hn with hn|hn
 ·exact hn rfl
 ·exact hn c
theorem SM.un(H:dM T h c m)(hT:T k=some (.st o' e cs))(a:o'≠0)(b:o'≠o\/e∉es):¬SM h T o es k:=λhk=>by
 rcases hk with hk|hk
 ·exact H.tD hT a hk
 ·exact SO.un hT b hk
theorem dM.so(H:dM T h c m)(g:Gx (SO T o es) w T w' T')(b:o≠0):dM T' h c m:=H.gx g λk f d ⟨e,cs,a,_⟩=>by rw[d]at a;cases a;exact⟨_,_,_,rfl,b⟩
theorem dM.no(H:dM T h c m)(g:Gx (λ_=>False) w T w' T'):dM T' h c m:=H.gx g λ_ _ _ h=>h.elim
structure fX(w:World)(T:dN)(o b sb lb:Nat)(h:Hm)(c:cP)(su:lO):Prop where
 n:T b=some (.st o 215 ([ptr h.wb,ptr sb,ptr lb].map fQ.v))
 s:StR w T o sb c.2.2.2.2.1 su.st
 l:uq w T o lb su.lb
def suT:List TypeId:= [258,262]
variable{su:lO}
theorem fX.gx{S:Nat->Prop}(U:fX w T o b sb lb h c su)(g:Gx S w T w' T')(hb:¬S b)(a:¬S sb)(d:¬S lb):fX w' T' o b sb lb h c su:=⟨g.off b _ U.n hb,U.s.gx g a,U.l.gx g d⟩
theorem fX.aw(U:fX w T o b sb lb h c su)(a:ad [] w w'):fX w' T o b sb lb h c su:=⟨U.n,U.s.aw a,U.l.aw a⟩
theorem fX.sm(U:fX w T o b sb lb h c su)(H:dM T h c m)(g:Gx (SM h T o' es) w T w' T')(a:o≠0)(d:o≠o'\/(215∉es/\258∉es/\262∉es)):fX w' T' o b sb lb h c su:=by
 obtain⟨v,e,_⟩:=U.s;obtain⟨vs,f,_⟩:=U.l;exact U.gx g (SM.un H U.n a (d.imp id λh=>h.1)) (SM.un H e a (d.imp id λh=>h.2.1)) (SM.un H f a (d.imp id λh=>h.2.2))
theorem fX.so(U:fX w T o b sb lb h c su)(g:Gx (SO T o' es) w T w' T')(a:o≠o'\/(215∉es/\258∉es/\262∉es)):fX w' T' o b sb lb h c su:=by
 obtain⟨v,d,_⟩:=U.s;obtain⟨vs,e,_⟩:=U.l;exact U.gx g (SO.un U.n (a.imp id λh=>h.1)) (SO.un d (a.imp id λh=>h.2.1)) (SO.un e (a.imp id λh=>h.2.2))
theorem fX.no(U:fX w T o b sb lb h c su)(g:Gx (λ_=>False) w T w' T'):fX w' T' o b sb lb h c su:=U.gx g (λh=>h) (λh=>h) (λh=>h)
theorem qa(R:Rel w T)(U:fX w T o b sb lb h c su):ao (hp w b) (0+0)=some (ptr h.wb)/\ao (hp w b) (0+1)=some (ptr sb)/\ao (hp w b) (0+2)=some (ptr lb):=by
 have hb:hp w b=some (.cells #[ptr h.wb,ptr sb,ptr lb] 215):=R.kW U.n;rw[hb];exact⟨rfl,rfl,rfl⟩
theorem StR.un{a:Int}(S:StR w T o sb a l)(b:258∉es):¬SO T o es sb:=by obtain⟨v,c,_⟩:=S;exact SO.un c (.inr b)
theorem uq.un{x:sL}(L:uq w T o lb x)(a:262∉es):¬SO T o es lb:=by obtain⟨v,b,_⟩:=L;exact SO.un b (.inr a)
theorem fX.setS(U:fX w T o b sb lb h c su)(g:Gx (λq=>q=sb) w T w' T')(S:StR w' T' o sb c.2.2.2.2.1 l):Gx (SO T o [258]) w T w' T'/\fX w' T' o b sb lb h c {su with st:=l}:=by
 obtain⟨v,d,_⟩:=U.s;have a:Gx (SO T o [258]) w T w' T':=SO.one d (by simp) g;exact⟨a,a.off b _ U.n (SO.un U.n (.inr dz)),S,U.l.gx a (U.l.un dz)⟩
theorem fX.nz{x:sL}(U:fX w T o b sb lb h c su)(g:Gx (λq=>q=lb) w T w' T')(L:uq w' T' o lb x):Gx (SO T o [262]) w T w' T'/\fX w' T' o b sb lb h c {su with lb:=x}:=by
 obtain⟨vs,d,_⟩:=U.l;have a:Gx (SO T o [262]) w T w' T':=SO.one d (by simp) g;exact⟨a,a.off b _ U.n (SO.un U.n (.inr dz)),U.s.gx a (U.s.un dz),L⟩
structure rn(su:lO):Prop where
 s:su.st.length<=100000
 l:su.lb.few
theorem ready_len:∀(f:Nat) (x:sL) (now:Int) (d:List Int),x.l.length=3->(fp f x now d).1.length+((fp f x now d).2.l.getD 0 []).length+((fp f x now d).2.l.getD 1 []).length+((fp f x now d).2.l.getD 2 []).length=d.length+(x.l.getD 0 []).length+(x.l.getD 1 []).length+(x.l.getD 2 []).length
 |0,x,now,d,_=>rfl
 |f+1,x,now,d,e=>by
  rw[fp];cases g:sM x now with
  |false=>rfl
  |true=>
   obtain⟨k,i,j,m⟩:=open_full g;simp only[if_true];rw[ready_len f _ now _ (by simp only[cE];exact e),i,cq];obtain⟨tag,l,last⟩:=x;simp only at e⊢;match l,e with
   | [a,b,c],_=>
    have:k=0\/k=1\/k=2:=dy;rcases this with rfl|rfl|rfl<;>simp only[List.set_cons_zero,List.set_cons_succ,List.getD_cons_zero,List.getD_cons_succ,List.length_nil,cJ]<;>omega
theorem c_SuReady(R:Rel w T)(U:fX w T o b sb lb h c su)(O:rn su){now:Int}(d:0<=now/\now<=4611686018427387904):aa prog 202 [ptr b,bS now] w λv w'=>∃T',Gx (SO T o suT) w T w' T'/\fX w' T' o b sb lb h c (fT su now):=by
 apply F202_ok;obtain⟨f0,f1,p⟩:=qa R U;simp only[F202,ptr,ae,ac,fa_215_2,ld_212,p];refine(c_Ready d R U.l O.l).mono ?_;rintro v w1 ⟨T1,hv,f,q⟩;obtain⟨f,j⟩:=U.nz f q;obtain⟨_,m,_⟩:=qa f.rel j;simp only[ptr,ac,nV,ud,m];have g:=ready_len 4 su.lb now [] (by obtain⟨_,_,_,r,_⟩:=U.l;exact r.l);have i:=O.l;have t:=O.s;unfold sL.few at i;simp only[List.length_nil]at g;refine(c_StGive f.rel j.s hv (by simp only;omega)).mono ?_;rintro _ w2 ⟨T2,n,u⟩;obtain⟨n,x⟩:=j.setS n u;simp only[kE hv,ac];refine⟨T2,SO.then (f.mono λk ⟨e,cs,a,b⟩=>⟨e,cs,a,?_⟩) n dz,x⟩;rw[dh.1 b];decide
theorem c_SuRetire(R:Rel w T)(U:fX w T o b sb lb h c su)(O:rn su)(tag:Int)(m:SlX (λq=>q=lb) w T v2 l2)(n:l2.length<=100000):aa prog 198 [ptr b,bS tag,v2] w λv w'=>∃T',Gx (SO T o suT) w T w' T'/\fX w' T' o b sb lb h c (oC su tag l2):=by
 apply F198_ok;obtain⟨f0,f1,p⟩:=qa R U;simp only[F198,ptr,ae,ac,fa_215_2,ld_212,p];refine(c_LbRetire R U.l O.l m n tag).mono ?_;rintro v w1 ⟨u,T1,rfl,hv,d,r⟩;obtain⟨d,g⟩:=U.nz d r;obtain⟨_,i,_⟩:=qa d.rel g;simp only[jk,jm,ptr,ac,nV,ud,i];have t:=O.s;have x:(eM su.lb tag l2).1.length<=200000:=by
  have f:=O.l;unfold sL.few at f;unfold eM;split
  ·simp
  ·rename_i B;split
   ·have:=tmod3 (tag:=tag) dy;generalize (tag%3).toNat=k at*;have y:k=0\/k=1\/k=2:=dy;rcases y with rfl|rfl|rfl<;>simp only<;>omega
   ·simp
 refine(c_StGive d.rel g.s hv (by simp only;omega)).mono ?_;rintro _ w2 ⟨T2,j,z⟩;obtain⟨j,A⟩:=g.setS j z;refine⟨T2,SO.then (d.mono λk ⟨e,cs,a,b⟩=>⟨e,cs,a,?_⟩) j dz,A⟩;rw[dh.1 b];decide
def giA(q:Nat)(v:Value)(d:Bool):Array Value:= #[ptr q,v,.bool d]
def giN(o q:Nat)(v:Value)(d:Bool):Nod:= .st o 282 ((giA q v d).toList.map fQ.v)
def GiR(w:World)(T:dN)(o g:Nat)(h:Hm)(x:GiV):Prop:=∃q v,T g=some (giN o q v x.done)/\PuR w T o q h.pb x.p/\kZ w T v x.l
variable{gb:Nat}{x:GiV}
theorem GiR.gx{S:Nat->Prop}(G:GiR w T o gb h x)(g:Gx S w T w' T')(b:¬S gb)(c:∀q cs,T q=some (.st o 293 cs)->¬S q):GiR w' T' o gb h x:=by
 obtain⟨q,v,hT,P,L⟩:=G;have P':=P;obtain⟨A,k,a,_⟩:=P;exact⟨q,v,g.off gb _ hT b,P'.gx g (c q _ a),L.gx g⟩
theorem GiR.aw(G:GiR w T o gb h x)(a:ad [] w w'):GiR w' T o gb h x:=by
 obtain⟨q,v,hT,P,L⟩:=G;exact⟨q,v,hT,P.aw a,L.aw a⟩
theorem c_give(R:Rel w T)(H:dM T h c m)(U:fX w T o b sb lb h c su)(hv:kZ w T v l)(r:l.length<=100000):aa prog 222 [ptr b,v] w λu w'=>∃gb T',u=ptr gb/\Gx (λ_=>False) w T w' T'/\GiR w' T' o gb h (iE l):=by
 apply F222_ok;obtain⟨f0,f1,E⟩:=qa R U;have s:ao (hp w h.wb) (0+7)=some (ptr h.pb):=by rw[R.kW H.wT];rfl
 obtain⟨A,k,rfl,t,L⟩:=hv;simp only[F222,ptr,ae,ac,jv,rP,gp,mj,f0,s];refine(c_Push (sb:=h.pb) (k:=k) R L r o).mono ?_;rintro _ w1 ⟨q,T1,rfl,_,F,a,x⟩;have y:kZ w1 T1 (.slice A l.length k) l:=⟨A,k,rfl,t,L.gx a⟩
 refine tp y dy λG w2 i j=>?_;have z:=a.rel.aw j;have B:=kZ.own a.rel i (cy _);have C:(((l.length:Nat):Int)==0)=decide (l.length=0):=by
  by_cases n:l.length=0
  ·rw[n];rfl
  ·rw[bn dy,cr n]
 obtain⟨e,f,D,_⟩:=B;subst D;have g:ai prog (Instr.build 282 #[(0,ptr q),(1,.slice e l.length f),(2,.bool (decide (l.length=0)))])=some (.agg (giA q (.slice e l.length f) (decide (l.length=0)))):=bd_282_0_1_2;simp only[aK,zS,C,g,ak,au];have p:=Gx.p8 (S:=λ_=>False) z o 282 (giA q (.slice e l.length f) (decide (l.length=0))).toList;have d:=(Gx.bV (S:=λ_=>False) a.rel j).trans p;exact⟨w2.heap.size,_,rfl,a.trans d,q,.slice e l.length f,ax,x.gx d (λh=>h),(kZ.own a.rel i (cy _)).gx p⟩
theorem c_Spill(N:gM c)(R:Rel w T)(H:dM T h c m)(i:o≠0)(U:fX w T o b sb lb h c su)(O:rn su):aa prog 200 [ptr b] w λu w'=>∃gb T',u=ptr gb/\Gx (SO T o suT) w T w' T'/\fX w' T' o b sb lb h c (fr c.2.2.2.2.1 su).2/\GiR w' T' o gb h (iE (fr c.2.2.2.2.1 su).1):=by
 apply F200_ok;obtain⟨f0,f1,n⟩:=qa R U;have p:=O.s;simp only[F200,ptr,ae,ac,nV,ud,f1];refine(c_StOver R U.s dy N.b5).mono ?_;rintro v w1 ⟨T1,hv,d,j⟩;obtain⟨d,f⟩:=U.setS d j;refine(c_give d.rel (H.so d i) f hv (by rw[List.length_take];omega)).mono ?_;rintro _ w2 ⟨gb,T2,rfl,g,l⟩;exact⟨gb,T2,rfl,SO.then (d.mono λk ⟨e,cs,a,b⟩=>⟨e,cs,a,by rw[dh.1 b];decide⟩) (SO.no (es:=suT) g) dz,f.no g,l⟩
theorem c_SuAll(R:Rel w T)(H:dM T h c m)(i:o≠0)(U:fX w T o b sb lb h c su)(j:su.st.length<=100000):aa prog 203 [ptr b] w λu w'=>∃gb T',u=ptr gb/\Gx (SO T o suT) w T w' T'/\fX w' T' o b sb lb h c (nr su).2/\GiR w' T' o gb h (iE (nr su).1):=by
 apply F203_ok;obtain⟨f0,f1,p⟩:=qa R U;simp only[F203,ptr,ae,ac,nV,ud,f1];refine(c_StAll R U.s).mono ?_;rintro v w1 ⟨T1,hv,d,l⟩;obtain⟨d,f⟩:=U.setS d l;refine(c_give d.rel (H.so d i) f hv j).mono ?_;rintro _ w2 ⟨gb,T2,rfl,g,n⟩;exact⟨gb,T2,rfl,SO.then (d.mono λk ⟨e,cs,a,b⟩=>⟨e,cs,a,by rw[dh.1 b];decide⟩) (SO.no (es:=suT) g) dz,f.no g,n⟩
theorem c_GiStep(R:Rel w T)(H:dM T h c m)(l:o≠0)(K:StkOk (bP c) m)(G:GiR w T o gb h x)(O:tE (bP c) x.p):aa prog 190 [ptr gb] w λv w'=>∃T',Gx (SM h T o [282,293]) w T w' T'/\dM T' h c (dJ c m x).1/\GiR w' T' o gb h (dJ c m x).2:=by
 apply F190_ok;have y:=G;obtain⟨q,v,hT,P,L⟩:=G;have hb:hp w gb=some (.cells (giA q v x.done) 282):=R.kW hT;have f0:ao (hp w gb) (0+0)=some (ptr q):=by rw[hb];rfl
 have g:ao (hp w gb) (0+2)=some (.bool x.done):=by rw[hb];rfl
 cases i:x.done with
 |true=>
  rw[i]at g;simp only[F190,ptr,ae,mO,aB,g,zS];rw[dJ,bX i];exact⟨T,Gx.refl R,H,y⟩
 |false=>
  rw[i]at g;simp only[F190,ptr,ae,fa_282_0,mO,aB,ld_241,f0,g,zS];refine(c_PuStep R H l H.pT K P O).mono ?_;rintro _ w1 ⟨T1,b,z,t⟩;obtain⟨A,k,u,_⟩:=P;have a:=b.off gb _ hT (λhk=>by
   rcases hk with hk|hk
   ·exact H.tD hT l hk
   ·exact aA hT u dz hk)
  have b:Gx (SM h T o [282,293]) w T w1 T1:=SM.two u dz b;have d:hp w1 gb=some (.cells (giA q v x.done) 282):=b.rel.kW a;have n:ao (hp w1 gb) (0+0)=some (ptr q):=by rw[d];rfl
  have r:=t;obtain⟨B,k1,f,C⟩:=t;obtain⟨_,_,_,_,_,p4⟩:=pu_f b.rel f;simp only[ptr,ae,mP,aB,n,p4,zS];rw[st_4 (o:=0+2) rfl rfl (by rw[d,aT];exact cj (by show 0+2+1<=3;omega)),d,ay,ar];have j:=Gx.putv b.rel a (giA q v (eX (bP c) m x.p).2.done).toList;have s:Gx (SM h T1 o [282,293]) w1 T1 _ _:=SO.toM (SO.one (es:= [282]) a (by simp) j) dz;have e:dJ c m x=((eX (bP c) m x.p).1,{x with p:=(eX (bP c) m x.p).2,done:=(eX (bP c) m x.p).2.done}):=by rw[dJ,bY (by rw[i];simp)]
  rw[e];exact⟨_,SM.then b s dz,z.cL j a l,q,v,ax,r.gx j (aA f a dz),(L.gx b).gx j⟩
end
section
variable{w w1 w2 w':World}{T T1 T2 T':dN}{h:Hm}{c:cP}{m m':bI}{o o' b sb lb k tb:Nat}{es es':List TypeId}{su:lO}{t:TkV}
def qb(b:Nat)(at' chunk seen:Int)(pv:Value)(d:Bool):Array Value:= #[ptr b,bS at',bS chunk,bS seen,pv,.bool d]
def tkN(o b:Nat)(at' chunk seen:Int)(pv:Value)(d:Bool):Nod:= .st o 279 ((qb b at' chunk seen pv d).toList.map fQ.v)
theorem tkA_1{a c s x:Int}{pv:Value}{d:Bool}:(qb b a c s pv d).setIfInBounds (0+1) (bS x)=qb b x c s pv d:=rfl
theorem tkA_2{a c s x:Int}{pv:Value}{d:Bool}:(qb b a c s pv d).setIfInBounds (0+2) (bS x)=qb b a x s pv d:=rfl
theorem tkA_3{a c s x:Int}{pv:Value}{d:Bool}:(qb b a c s pv d).setIfInBounds (0+3) (bS x)=qb b a c x pv d:=rfl
theorem tkA_4{a c s:Int}{pv x:Value}{d:Bool}:(qb b a c s pv d).setIfInBounds (0+4) x=qb b a c s x d:=rfl
theorem tkA_5{a c s:Int}{pv:Value}{d x:Bool}:(qb b a c s pv d).setIfInBounds (0+5) (.bool x)=qb b a c s pv x:=rfl
theorem tk_ok{a c s:Int}{pv:Value}{d:Bool}{e:TypeId}{j:Nat}(hb:hp w tb=some (.cells (qb b a c s pv d) e))(f:j<6):mX (hp w tb) (0+j+1)=true:=by
 rw[hb,aT];exact cj (by show 0+j+1<=6;omega)
theorem tF{a c s:Int}{pv:Value}{d:Bool}(R:Rel w T)(hT:T tb=some (tkN o b a c s pv d)):hp w tb=some (.cells (qb b a c s pv d) 279)/\ao (hp w tb) (0+0)=some (ptr b)/\ao (hp w tb) (0+1)=some (bS a)/\ao (hp w tb) (0+2)=some (bS c)/\ao (hp w tb) (0+3)=some (bS s)/\ao (hp w tb) (0+4)=some pv/\ao (hp w tb) (0+5)=some (.bool d):=by
 have hb:hp w tb=some (.cells (qb b a c s pv d) 279):=R.kW hT;rw[hb];exact⟨rfl,rfl,rfl,rfl,rfl,rfl,rfl⟩
def TkR(T:dN)(o tb b:Nat)(h:Hm)(t:TkV):Prop:=∃x,T tb=some (tkN o b t.at' t.chunk t.seen (.pointer x) t.done)/\(t.at'≠0->t.done=false->∃q,x=some ⟨q,0,none⟩/\T q=some (poN o h.pb t.p))
def tkT:List TypeId:= [258,262,279,270]
theorem TkR.gx{S:Nat->Prop}(K:TkR T o tb b h t)(g:Gx S w T w' T')(f:∀k e cs,T k=some (.st o e cs)->e=279\/e=270->¬S k):TkR T' o tb b h t:=by
 obtain⟨x,hT,c⟩:=K;refine⟨x,g.off tb _ hT (f _ _ _ hT (.inl rfl)),λa d=>?_⟩;obtain⟨q,e,c⟩:=c a d;exact⟨q,e,g.off q _ c (f _ _ _ c (.inr rfl))⟩
theorem c_kept(R:Rel w T)(A:o≠0)(U:fX w T o b sb lb h c su)(p:su.st.length<=500000){x:Option Addr}(hT:T tb=some (tkN o b t.at' t.chunk t.seen (.pointer x) t.done)):
  aa prog 217 [ptr tb] w λv w'=>∃T',Gx (SO T o [258,279]) w T w' T'/\fX w' T' o b sb lb h c (eK su t).1/\T' tb=some (tkN o b (eK su t).2.at' (eK su t).2.chunk (eK su t).2.seen (.pointer x) (eK su t).2.done):=by
 apply F217_ok;obtain⟨u0,u1,u2⟩:=qa R U;obtain⟨hb,f0,f1,B,C,D,E⟩:=tF R hT;simp only[F217,ptr,ae,ac,fa_279_0,nV,jO,ud,f0,u1];refine(c_StTake R U.s p).mono ?_;rintro _ w1 ⟨rfl,T1,f,u⟩;obtain⟨f,i⟩:=U.setS f u;have d:=f.off tb _ hT (SO.un hT (.inr dz));have f:Gx (SO T o [258,279]) w T w1 T1:=f.mono λk ⟨e,cs,a,b⟩=>⟨e,cs,a,by rw[dh.1 b];decide⟩
 by_cases j:su.st.length=0
 ·have e:eK su t=(su,t):=by rw[eK,bX j]
  rw[e];rw[cr (by omega:¬su.st.length≠0)];simp only[jk,jm,zS];refine⟨T1,f,?_,d⟩;have y:su.st.take (su.st.length-1)=su.st:=by rw[List.length_eq_zero_iff.1 j];rfl
  rw[y]at i;exact i
 ·have e:eK su t=({su with st:=su.st.take (su.st.length-1)},{t with chunk:=su.st.getD (su.st.length-1) 0,done:=true}):=by rw[eK,bY j]
  rw[e,bY j,cj j];obtain⟨g,_⟩:=tF f.rel d;simp only[jk,jm,zS,fa_279_2,kj];rw[hC (o:=0+2) rfl rfl (tk_ok g dy),g,ay,ar,tkA_2];have m:hp (put w1 tb (qb b t.at' (su.st.getD (su.st.length-1) 0) t.seen (.pointer x) t.done) 279) tb=some (.cells (qb b t.at' (su.st.getD (su.st.length-1) 0) t.seen (.pointer x) t.done) 279):=aq (az g) _ _;rw[st_4 (o:=0+5) rfl rfl (tk_ok m dy),m,ay,ar,tkA_5,jI];have r:=Gx.putv f.rel d (qb b t.at' (su.st.getD (su.st.length-1) 0) t.seen (.pointer x) true).toList;have q:=SO.one (es:= [258,279]) d dz r;exact⟨_,SO.then f q (λ_ h=>h),i.gx r (aA i.n d dz) (by obtain⟨_,p,_⟩:=i.s;exact aA p d dz) (by obtain⟨_,z,_⟩:=i.l;exact aA z d dz),ax⟩
theorem c_tkPop(N:gM c)(R:Rel w T)(H:dM T h c m)(n:o≠0)(U:fX w T o b sb lb h c su){x:Option Addr}(hT:T tb=some (tkN o b t.at' t.chunk t.seen (.pointer x) t.done)):
  aa prog 218 [ptr tb] w λv w'=>∃T',Gx (SO T o [279]) w T w' T'/\TkR T' o tb b h (tkPop c t):=by
 apply F218_ok;obtain⟨u0,u1,u2⟩:=qa R U;obtain⟨hb,f0,f1,p,r,s,u⟩:=tF R hT;have k:ao (hp w h.wb) (0+7)=some (ptr h.pb):=by rw[R.kW H.wT];rfl
 have l:ao (hp w h.wb) (0+0+5)=some (bS c.2.2.2.2.2):=by rw[R.kW H.wT];rfl
 have i:ad [] w w.drew:=(ad.refl [] w).drew;simp only[F218,ptr,ae,zS,fa_279_0,jv,bR,rP,fa_25_5,jO,gp,mj,ag,f0,u0,l,k];refine(c_Pop (sb:=h.pb) (R.aw i) c.2.2.2.2.2 o).mono ?_;rintro _ w1 ⟨q,T1,rfl,y,_,f,d⟩;have f:=(Gx.bV (S:=λ_=>False) R i).trans f;have a:=f.off tb _ hT (λh=>h);obtain⟨e,_⟩:=tF f.rel a;simp only[ptr,ac,fa_279_1,fa_279_4];rw[hC (o:=0+1) rfl rfl (tk_ok e dy),e,ay,ar,tkA_1];have g:hp (put w1 tb (qb b 1 t.chunk t.seen (.pointer x) t.done) 279) tb=some (.cells (qb b 1 t.chunk t.seen (.pointer x) t.done) 279):=aq (az e) _ _;rw[st_229 (o:=0+4) rfl rfl (tk_ok g dy),g,ay,ar,tkA_4,jI];have j:=Gx.putv f.rel a (qb b 1 t.chunk t.seen (bU q) t.done).toList;refine⟨_,SO.then (SO.no f) (SO.one (es:= [279]) a dz j) (λ_ h=>h),some ⟨q,0,none⟩,ax,λ_ _=>⟨q,rfl,?_⟩⟩;exact j.off q _ d (aA d a dz)
theorem kept_st(s:lO)(t:TkV):(eK s t).1.lb=s.lb/\(eK s t).1.st.length<=s.st.length/\(eK s t).2.at'=t.at':=by
 unfold eK;split
 ·exact⟨rfl,cy _,rfl⟩
 ·exact⟨rfl,by simp only[List.length_take];omega,rfl⟩
theorem few_at{x:sL}(a:x.few)(b:x.l.length=3)(k:Nat):(x.l.getD k []).length<=500000:=by
 unfold sL.few at a;rcases cZ k 3 with hk|hk
 ·have:k=0\/k=1\/k=2:=dy;rcases this with rfl|rfl|rfl<;>omega
 ·rw[cu,df dy];simp
theorem c_Take(N:gM c)(R:Rel w T)(H:dM T h c m)(z:o≠0)(U:fX w T o b sb lb h c su)(O:rn su):
  aa prog 216 [ptr b] w λv w'=>∃tb T',v=ptr tb/\Gx (SO T o [258,279]) w T w' T'/\fX w' T' o b sb lb h c (kr c su).1/\TkR T' o tb b h (kr c su).2:=by
 apply F216_ok;have A:ai prog (Instr.build 279 #[(0,ptr b),(2,bS (-1)),(3,bS (-1))])=some (.agg (qb b 0 (-1) (-1) (.pointer none) false)):=bd_279_0_2_3;simp only[F216,A,ak,au,ac];have g:=Gx.p8 (S:=λ_=>False) R o 279 (qb b 0 (-1) (-1) (.pointer none) false).toList;have B:iz T w.heap.size (.st o 279 ((qb b 0 (-1) (-1) (.pointer none) false).toList.map fQ.v)) w.heap.size=some (tkN o b tk0.at' tk0.chunk tk0.seen (.pointer none) tk0.done):=ax;have C:=U.no g;have D:T w.heap.size=none:=R.fresh (cy _);have u:∀k M,T k=some M->k≠w.heap.size:=λk M i e=>by rw[e,D]at i;cases i
 generalize iz T w.heap.size (.st o 279 ((qb b 0 (-1) (-1) (.pointer none) false).toList.map fQ.v))=T0 at*;have g:Gx (λ_=>False) w T (w.alloc (.cells (qb b 0 (-1) (-1) (.pointer none) false) 279)) T0:=g;have C:fX (w.alloc (.cells (qb b 0 (-1) (-1) (.pointer none) false) 279)) T0 o b sb lb h c su:=C;generalize w.alloc (.cells (qb b 0 (-1) (-1) (.pointer none) false) 279)=w0 at*;generalize W:w.heap.size=tb at*;have X:=H.no g;refine(c_kept (t:=tk0) g.rel z C (by have:=O.s;omega) B).mono ?_;rintro _ w1 ⟨T1,f,j,d⟩;have n:Gx (SO T o [258,279]) w T w1 T1:=SO.then (SO.no g) f (λ_ h=>h)
 have Y:=X.so f z;have i:=kept_st su tk0;obtain⟨E,_,_,_,_,_,P⟩:=tF f.rel d;have y:kr c su=if(eK su tk0).2.done=false/\jE (eK su tk0).1.lb=0 then((eK su tk0).1,tkPop c (eK su tk0).2)else eK su tk0:=rfl
 have F:(eK su tk0).2.at'=0:=i.2.2;generalize eK su tk0=r at*;obtain⟨a,G⟩:=r;simp only at i j d E P y F;have done:kr c su=(a,G)->P216_0 (ptr tb) w1 λv w'=>∃tb T',v=ptr tb/\Gx (SO T o [258,279]) w T w' T'/\fX w' T' o b sb lb h c (kr c su).1/\TkR T' o tb b h (kr c su).2:=λe=>by
  apply L216_0_ok;rw[e];exact⟨tb,T1,rfl,n,j,none,d,λh=>absurd F h⟩
 simp only[ptr,ae,zS,kj,aB,P];cases Q:G.done with
 |true=>
  simp only[zS];exact done (by rw[y,bY (by rw[Q];simp)])
 |false=>
  obtain⟨_,_,u2⟩:=qa f.rel j;simp only[zS,fa_215_2,ld_212,u2];have I:a.lb.l.length=3:=by obtain⟨_,_,_,Z,_⟩:=j.l;exact Z.l
  have p:=few_at (x:=a.lb) (by rw[i.1];exact O.l) I;refine(c_LbLen f.rel j.l p).mono ?_;rintro _ w2 ⟨rfl,J⟩;have q:=n.trans (Gx.bV f.rel J);have R2:=f.rel.aw J;have K:=j.aw J;by_cases u:jE a.lb=0
  ·have L:(((jE a.lb:Nat):Int)==0)=true:=by rw[u];rfl
   simp only[zS,L];refine(c_tkPop (t:=G) N R2 Y z K d).mono ?_;rintro _ w3 ⟨T3,V,K3⟩;apply L216_0_ok;rw[y,bX ⟨Q,u⟩];exact⟨tb,T3,rfl,SO.then q V dz,K.so V (.inr dz),K3⟩
  ·have L:(((jE a.lb:Nat):Int)==0)=false:=bn dy;simp only[zS,L];apply L216_0_ok;rw[y,bY (λhh=>u hh.2)];exact⟨tb,T1,rfl,q,K,none,d,λh=>absurd F h⟩
theorem cut_rng{x:Int}(h:tk x):0<=fP x/\fP x<=4611686018427387904:=by unfold fP;split<;>omega
structure TkOk(c:cP)(t:TkV):Prop where
 a:t.at'<=1
 p:t.at'≠0->t.done=false->PoOk (bP c) t.p
theorem poStep_n{s:iP}{m:bI}{p:PoV}(O:PoOk s p):(dS s m p).2.l.length<=p.l.length+1:=by
 unfold dS;repeat' split
 all_goals simp
theorem c_TkStep(N:gM c)(R:Rel w T)(H:dM T h c m)(z:o≠0)(K:StkOk (bP c) m)(b5:2<m.length)(U:fX w T o b sb lb h c su)(O:rn su)(Kt:TkR T o tb b h t)(Ot:TkOk c t):
  aa prog 187 [ptr tb] w λv w'=>∃T',Gx (SM h T o tkT) w T w' T'/\dM T' h c (fg c m su t).1/\fX w' T' o b sb lb h c (fg c m su t).2.1/\TkR T' o tb b h (fg c m su t).2.2:=by
 apply F187_ok;have b6:=Kt;obtain⟨x,hT,hq⟩:=Kt;obtain⟨u0,u1,u2⟩:=qa R U;obtain⟨hb,f0,f1,f2,f3,f4,f5⟩:=tF R hT;cases hd:t.done with
 |true=>
  rw[hd]at f5;simp only[F187,ptr,ae,kj,aB,f5,zS];rw[fg,bX hd];exact⟨T,Gx.refl R,H,U,b6⟩
 |false=>
 rw[hd]at f5;have C:fg c m su t=if t.at'=0 then
   (m,if(eK (fT su (fP (di m 2))) {t with seen:=fP (di m 2)}).2.done then eK (fT su (fP (di m 2))) {t with seen:=fP (di m 2)}else((eK (fT su (fP (di m 2))) {t with seen:=fP (di m 2)}).1,tkPop c (eK (fT su (fP (di m 2))) {t with seen:=fP (di m 2)}).2))
  else if(dS (bP c) m t.p).2.done=false then((dS (bP c) m t.p).1,su,{t with p:=(dS (bP c) m t.p).2})
  else if(ec (dS (bP c) m t.p).2).length=0 then((dS (bP c) m t.p).1,su,{t with p:=(dS (bP c) m t.p).2,done:=true})
  else((dS (bP c) m t.p).1,qP su ((ec (dS (bP c) m t.p).2).drop 1),{t with p:=(dS (bP c) m t.p).2,chunk:=(ec (dS (bP c) m t.p).2).getD 0 0,done:=true}):=by rw[fg,bY (by rw[hd];simp)]
 by_cases a0:t.at'=0
 ·rw[bX a0]at C;have q0:((t.at':Int)==0)=true:=by rw[a0];rfl
  have w6:ao (hp w h.wb) (0+6)=some (ptr h.mb):=by rw[R.kW H.wT];rfl
  simp only[F187,ptr,ae,fa_279_0,fa_279_1,kj,jv,fq,aB,ag,jO,gp,bD,f0,f1,f5,q0,u0,w6,zS];refine(je (a:=2) R H b5).mono ?_;rintro _ w1 ⟨rfl,_,T1,f,H1⟩;have U1:=U.sm (o':=o) (es:= []) H (SM.mem f) z (.inr dz);have d:=f.off tb _ hT (H.tD hT z);have f:Gx (SM h T o tkT) w T w1 T1:=SM.mem f;have hu:=iF K.u 2;refine(c_Cut5 hu).step ?_;generalize a5:fP (di m 2)=now at*;have a6:0<=now/\now<=4611686018427387904:=by rw[<- a5];exact cut_rng hu
  obtain⟨a7,_⟩:=tF f.rel d;simp only[ac,fa_279_3];rw[hC (o:=0+3) rfl rfl (tk_ok a7 dy),a7,ay,ar,tkA_3];have W:=Gx.putv f.rel d (qb b t.at' t.chunk now (.pointer x) t.done).toList;have Y:iz T1 tb (.st o 279 ((qb b t.at' t.chunk now (.pointer x) t.done).toList.map fQ.v)) tb=some (tkN o b t.at' t.chunk now (.pointer x) t.done):=ax;have H2:=H1.cL W d z;generalize iz T1 tb (.st o 279 ((qb b t.at' t.chunk now (.pointer x) t.done).toList.map fQ.v))=T2 at*;have W:Gx (λq=>q=tb) w1 T1 (put w1 tb (qb b t.at' t.chunk now (.pointer x) t.done) 279) T2:=W;generalize put w1 tb (qb b t.at' t.chunk now (.pointer x) t.done) 279=w2 at*;have b7:Gx (SM h T1 o tkT) w1 T1 w2 T2:=SO.toM (SO.one (es:= [279]) d dz W) dz;have U2:=U1.so (SO.one (es:= [279]) d dz W) (.inr dz);have J:=SM.then f b7 (λ_ h=>h)
  have L:ad [] w2 w2.drew:=(ad.refl [] w2).drew;obtain⟨_,p0,_,_,p3,_,_⟩:=tF W.rel Y;simp only[ptr,zS,ag,p0,p3];refine(c_SuReady (W.rel.aw L) (U2.aw L) O a6).mono ?_;rintro _ I ⟨E,i,M⟩;have Z:=(Gx.bV (S:=SO T2 o suT) W.rel L).trans i;have G:=SM.then J (SO.toM (h:=h) (es':=tkT) Z dz) (λ_ h=>h)
  have H3:=H2.so Z z;have g:=Z.off tb _ Y (SO.un Y (.inr dz));have a8:(fT su now).st.length<=500000:=by
   have hl:=ready_len 4 su.lb now [] (by obtain⟨_,_,_,a2,_⟩:=U.l;exact a2.l);have o1:=O.s;have o2:=O.l;unfold sL.few at o2;simp only[List.length_nil]at hl;unfold fT;simp only[cJ];omega
  refine(c_kept (t:={t with seen:=now}) i.rel z M a8 g).mono ?_;rintro _ w4 ⟨T4,F,U4,D⟩;have H4:=H3.so F z;have Q:=SM.then G (SO.toM (h:=h) (es':=tkT) F dz) (λ_ h=>h)
  have hk:=kept_st (fT su now) {t with seen:=now};generalize eK (fT su now) {t with seen:=now}=r at*;obtain⟨c4,t1⟩:=r;simp only at U4 D hk C;obtain⟨_,_,_,_,_,_,p5⟩:=tF F.rel D;simp only[zS,p5];cases j:t1.done with
  |true=>
   simp only[zS];apply L187_0_ok;rw[C,bX j];exact⟨T4,Q,H4,U4,x,D,λ_ h=>by rw[j]at h;cases h⟩
  |false=>
   simp only[zS];refine(c_tkPop (t:=t1) N F.rel H4 z U4 D).mono ?_;rintro _ w5 ⟨T5,g5,K5⟩;apply L187_0_ok;rw[C,bY (by rw[j];simp)];exact⟨T5,SM.then Q (SO.toM (h:=h) (es':=tkT) g5 dz) (λ_ h=>h),H4.so g5 z,U4.so g5 (.inr dz),K5⟩
 ·rw[bY a0]at C;have q0:((t.at':Int)==0)=false:=bn dy;obtain⟨q,rfl,V⟩:=hq a0 hd;have f4:ao (hp w tb) (0+4)=some (bU q):=f4;simp only[F187,ptr,ae,fa_279_1,fa_279_4,kj,aB,ag,ld_229,f1,f4,f5,q0,zS];have Op:=Ot.p a0 hd;refine(c_PoStep R H z H.pT K V Op).mono ?_;rintro _ w1 ⟨T1,f,H1,B⟩;have d:=f.off tb _ hT (λhk=>by
   rcases hk with hk|hk
   ·exact H.tD hT z hk
   ·exact aA hT V dz hk)
  have U1:=U.sm (o':=o) (es:= [270]) H (SM.two V dz f) z (.inr dz);have f:Gx (SM h T o tkT) w T w1 T1:=SM.two V dz f;have b8:=poStep_n (m:=m) Op;have c5:=Op.n;generalize dS (bP c) m t.p=r at*;obtain⟨m1,p1⟩:=r;simp only at H1 B C b8⊢;obtain⟨_,_,_,_,_,p4,p5⟩:=tF f.rel d;obtain⟨A1,k1,F1⟩:=po_f f.rel B;have p4:ao (hp w1 tb) (0+4)=some (bU q):=p4;simp only[ae,kf,aB,p4,F1.f6,zS];cases j:p1.done with
  |false=>
   rw[bX j]at C;simp only[zS];rw[C];exact⟨T1,f,H1,U1,some ⟨q,0,none⟩,d,λ_ _=>⟨q,rfl,B⟩⟩
  |true=>
  rw[bY (by rw[j];simp)]at C;simp only[zS];refine(c_Got f.rel B dy).mono ?_;rintro _ w2 ⟨A,kk,rfl,c6,L2,c2⟩;have R2:=f.rel.aw c2;have J:=f.trans (Gx.bV f.rel c2);have U2:=U1.aw c2;have c7:(ec p1).length<=11000:=by rw[show ec p1=p1.l by rw[ec,j];rfl];omega
  have fin:∀(I:World) (E:dN) (a1:lO) (ch:Int),Gx (SM h T o tkT) w T I E->dM E h c m1->fX I E o b sb lb h c a1->E tb=some (tkN o b t.at' ch t.seen (bU q) t.done)->fg c m su t=(m1,a1,{t with p:=p1,chunk:=ch,done:=true})->
    P187_1 (bU tb) I λv w'=>∃T',Gx (SM h T o tkT) w T w' T'/\dM T' h c (fg c m su t).1/\fX w' T' o b sb lb h c (fg c m su t).2.1/\TkR T' o tb b h (fg c m su t).2.2:=by
   intro I E a1 ch i H3 M g e;apply L187_1_ok;obtain⟨a9,_⟩:=tF i.rel g;simp only[L187_1,ae,ac,kj];rw[st_4 (o:=0+5) rfl rfl (tk_ok a9 dy),a9,ay,ar,tkA_5];have F:=Gx.putv i.rel g (qb b t.at' ch t.seen (bU q) true).toList;have a3:=SO.one (es:= [279]) g dz F;rw[e];exact⟨_,SM.then i (SO.toM (h:=h) (es':=tkT) a3 dz) (λ_ h=>h),H3.so a3 z,M.so a3 (.inr dz),some ⟨q,0,none⟩,ax,λ_ h=>by cases h⟩
  by_cases hz:(ec p1).length=0
  ·rw[bX hz]at C;have e2:¬(0:Int)<((ec p1).length:Int):=dy;simp only[aK,zS,e2];exact fin w2 T1 su t.chunk J H1 U2 d (by rw[C])
  ·rw[bY hz]at C;have e2:(0:Int)<((ec p1).length:Int):=dy;obtain⟨y,hy⟩:∃y,(ec p1)[0]? =some y:=⟨_,bZ dy⟩
   have b9:(ec p1).getD 0 0=y:=by rw[cu,hy];rfl
   obtain⟨qi,fi,iq,lq,_⟩:=L2.int hy kk;have iq:ai prog (Instr.indexAt 22 (.slice A (ec p1).length kk) (bS 0))=some (.pointer (some ⟨qi,fi,none⟩)):=iq;obtain⟨b1,_⟩:=tF R2 d;simp only[aK,zS,e2,iq,lq,ag,fa_279_2];rw[hC (o:=0+2) rfl rfl (tk_ok b1 dy),b1,ay,ar,tkA_2];have i:=Gx.putv R2 d (qb b t.at' y t.seen (bU q) t.done).toList;have g:iz T1 tb (.st o 279 ((qb b t.at' y t.seen (bU q) t.done).toList.map fQ.v)) tb=some (tkN o b t.at' y t.seen (bU q) t.done):=ax;have a4:=SO.one (es:= [279]) d dz i;have L3:=L2.gx i;have H3:=H1.so a4 z;have M:=U2.so a4 (.inr dz);have G:=SM.then J (SO.toM (h:=h) (es':=tkT) a4 dz) (λ_ h=>h)
   generalize iz T1 tb (.st o 279 ((qb b t.at' y t.seen (bU q) t.done).toList.map fQ.v))=E at*;have i:Gx (λq=>q=tb) w2 T1 (put w2 tb (qb b t.at' y t.seen (bU q) t.done) 279) E:=i;have M:fX (put w2 tb (qb b t.at' y t.seen (bU q) t.done) 279) E o b sb lb h c su:=M;have L3:Lo (put w2 tb (qb b t.at' y t.seen (bU q) t.done) 279) E A (ints (ec p1)):=L3;have G:Gx (SM h T o tkT) w T (put w2 tb (qb b t.at' y t.seen (bU q) t.done) 279) E:=G;generalize put w2 tb (qb b t.at' y t.seen (bU q) t.done) 279=I at*;obtain⟨_,p0,_⟩:=tF i.rel g;obtain⟨_,s1,_⟩:=qa i.rel M;have L:ad [] I I.drew:=(ad.refl [] I).drew;have b2:=pr_slice_l (P:=prog) (t:=22) (A:=A) (n:=(ec p1).length) (c:=kk) (k:= .i64) (l:=1) underlying22 aE dy dy;rw[show(1:Int).toNat=1 from rfl]at b2;simp only[ptr,ae,zS,fa_279_0,nV,jO,ud,p0,s1,b2];have b3:((ec p1).drop 1).length=(ec p1).length-1:=by rw[List.length_drop]
   have e3:ints ((ec p1).drop 1)=(ints (ec p1)).drop (1*1):=by simp[ints]
   have L4:kZ I.drew E (.slice (if kk=1 then A else A.map (·.add (1*1))) ((ec p1).length-1) (kk-1)) ((ec p1).drop 1):=by
    refine⟨_,_,by rw[b3],dy,by rw[e3];exact(L3.aw L).rd.drop kk 1 1 (λh=>by simp[ints];omega),λp hp c1=>?_⟩;have X:ints (ec p1)≠ []:=λe=>c1 (by rw[e3,e,List.drop_nil]);by_cases b4:kk=1
    ·rw[bX b4]at hp;exact L3.off p hp X
    ·rw[bY b4]at hp;obtain⟨q',c3,rfl⟩:=dc.1 hp;rw[rE];exact L3.off q' c3 X
   have c8:=O.s;refine(c_StGive (i.rel.aw L) (M.aw L).s L4 (by rw[b3];omega)).mono ?_;rintro _ w4 ⟨T4,F,S4⟩;obtain⟨F,U4⟩:=(M.aw L).setS F S4;have Q:=SM.then (G.trans (Gx.bV i.rel L)) (SO.toM (h:=h) (es':=tkT) F dz) (λ_ h=>h)
   have D:=F.off tb _ g (SO.un g (.inr dz));exact fin w4 T4 (qP su ((ec p1).drop 1)) y Q (H3.so F z) U4 D (by rw[C,b9])
end
section
variable{w w1 w2 w':World}{T T1 T2 T':dN}{h:Hm}{c:cP}{m m':bI}{o o' b sb lb k ab:Nat}{es es':List TypeId}{su:lO}{a a':AlV}{tv gv:Value}
theorem aC{A A':Array Value}{t e:TypeId}{x:Value}{j:Nat}(R:Rel w T)(hT:T b=some (.st o e (A.toList.map fQ.v)))(c:(Tryz.prog.info? t).map (·.size)=some 1)(one:x.cells= #[x]/\x.oneCell'=true)(a:A.setIfInBounds j x=A')(g:j<A.size){L:World->Prop}
  (d:∀w' T',Gx (λq=>q=b) w T w' T'->T' b=some (.st o e (A'.toList.map fQ.v))->(∀ q,q≠b->T' q=T q)->aW (λq=>q=b) w w'->L w'):dE prog (Instr.storeAt t (.pointer (some ⟨b,j,none⟩)) x) w L:=by
 have hb:hp w b=some (.cells A e):=R.kW hT;rw[fC c one.1 one.2 (by rw[hb,aT];exact cj dy),hb,ay,ar,a];exact d _ _ (Gx.putv R hT A'.toList) ax (λq f=>aD f) (aW.put _ _ _ _)
theorem nd_l{A:Array Value}{e:TypeId}(R:Rel w T)(hT:T b=some (.st o e (A.toList.map fQ.v)))(j:Nat):ao (hp w b) j=A[j]? :=by
 have hb:hp w b=some (.cells A e):=R.kW hT;rw[hb,aN]
def ry(b:Nat)(a:AlV)(tv gv:Value):Array Value:= #[ptr b,bS a.slot,bS a.gen,bS a.n,bS a.at',bS a.steps,bS a.point,bS a.need,bS a.held,bS a.zero,bT a.old,tv,gv,bS a.code,bS a.h.1,bS a.h.2.1,bS a.h.2.2.1,bS a.h.2.2.2.1,bS a.h.2.2.2.2,.bool a.dry,.bool a.done]
def alN(o b:Nat)(a:AlV)(tv gv:Value):Nod:= .st o 237 ((ry b a tv gv).toList.map fQ.v)
structure AlF(w:World)(ab b:Nat)(a:AlV)(tv gv:Value):Prop where
 s:ao (hp w ab) (0+0)=some (ptr b)
 slot:ao (hp w ab) (0+1)=some (bS a.slot)
 gen:ao (hp w ab) (0+2)=some (bS a.gen)
 n:ao (hp w ab) (0+3)=some (bS a.n)
 at':ao (hp w ab) (0+4)=some (bS a.at')
 steps:ao (hp w ab) (0+5)=some (bS a.steps)
 need:ao (hp w ab) (0+7)=some (bS a.need)
 held:ao (hp w ab) (0+8)=some (bS a.held)
 zero:ao (hp w ab) (0+9)=some (bS a.zero)
 old:ao (hp w ab) (0+10)=some (bT a.old)
 t:ao (hp w ab) (0+11)=some tv
 g:ao (hp w ab) (0+12)=some gv
 dry:ao (hp w ab) (0+19)=some (.bool a.dry)
 done:ao (hp w ab) (0+20)=some (.bool a.done)
theorem oF(R:Rel w T)(hT:T ab=some (alN o b a tv gv)):AlF w ab b a tv gv:=by
 have hb:hp w ab=some (.cells (ry b a tv gv) 237):=R.kW hT;constructor<;>rw[hb]<;>rfl
def AlR(w:World)(T:dN)(o ab b:Nat)(h:Hm)(a:AlV):Prop:=∃x y,T ab=some (alN o b a (.pointer x) (.pointer y))/\(a.at'=2->a.done=false->∃tb,x=some ⟨tb,0,none⟩/\TkR T o tb b h a.t)/\(a.at'=6->a.done=false->∃gb,y=some ⟨gb,0,none⟩/\GiR w T o gb h a.g)
def alT:List TypeId:= [258,262,279,270,282,293,237]
def clT:List TypeId:= [258,262,237]
theorem c_Alloc(R:Rel w T)(slot gen n:Int)(o:Nat):aa prog 139 [ptr b,bS slot,bS gen,bS n] w λv w'=>∃ab T',v=ptr ab/\Gx (λ_=>False) w T w' T'/\AlR w' T' o ab b h (alNew slot gen n):=by
 apply F139_ok;have a:ai prog (Instr.build 237 #[(0,ptr b),(1,bS slot),(2,bS gen),(3,bS n),(8,bS (-1))])=some (.agg (ry b (alNew slot gen n) (.pointer none) (.pointer none))):=bd_237_0_1_2_3_8;simp only[F139,a,ak,au,ac];have g:=Gx.p8 (S:=λ_=>False) R o 237 (ry b (alNew slot gen n) (.pointer none) (.pointer none)).toList;exact⟨w.heap.size,_,rfl,g,none,none,ax,(λh=>by cases h),λh=>by cases h⟩
theorem c_closes(N:gM c)(R:Rel w T)(H:dM T h c m)(ho:o≠0)(U:fX w T o b sb lb h c su)(O:rn su)(S:su.st.length+1<=100000)(a3: -1<=a.held){x y:Option Addr}(hT:T ab=some (alN o b a (.pointer x) (.pointer y))):
  aa prog 215 [ptr ab] w λv w'=>v= .tuple #[]/\∃T',Gx (SO T o clT) w T w' T'/\fX w' T' o b sb lb h c (gY c.2.2.2.2.1 su a).1/\AlR w' T' o ab b h (gY c.2.2.2.2.1 su a).2:=by
 apply F215_ok;have F:=oF R hT;have rest:∀(w1:World) (T1:dN) (f:lO),Gx (SO T o clT) w T w1 T1->fX w1 T1 o b sb lb h c f->rn f->T1 ab=some (alN o b {a with held:= -1} (.pointer x) (.pointer y))->
   gY c.2.2.2.2.1 su a=((fr c.2.2.2.2.1 f).2,{a with held:= -1,g:=iE (fr c.2.2.2.2.1 f).1,at':=6,done:=decide ((fr c.2.2.2.2.1 f).1.length=0)})->
   P215_0 (ptr ab) w1 λv w'=>v= .tuple #[]/\∃T',Gx (SO T o clT) w T w' T'/\fX w' T' o b sb lb h c (gY c.2.2.2.2.1 su a).1/\AlR w' T' o ab b h (gY c.2.2.2.2.1 su a).2:=by
  intro w1 T1 f K U1 O1 t e;apply L215_0_ok;have F1:=oF K.rel t;have H1:=H.so K ho;simp only[L215_0,ptr,ae,ac,pM,jO,F1.s];refine(c_Spill N K.rel H1 ho U1 O1).mono ?_;rintro _ w2 ⟨gb,T2,rfl,i,C,G2⟩;have d:=i.off ab _ t (SO.un t (.inr dz));have z:Gx (SO T o clT) w T w2 T2:=SO.then K i dz
  simp only[ac,fa_237_12];refine aC (A':=ry b {a with held:= -1} (.pointer x) (ptr gb)) i.rel d sz_235 ⟨rfl,rfl⟩ rfl (by show 12<21;omega) λw3 T3 D A _ _=>?_;simp only[ac,ig];refine aC (A':=ry b {a with held:= -1,at':=6} (.pointer x) (ptr gb)) D.rel A aE ⟨rfl,rfl⟩ rfl (by show 4<21;omega) λV T4 L r _ _=>?_;have F4:=oF L.rel r;have E:=D.trans L;have W:=(E:Gx (λq=>q=ab) w2 T2 V T4)
  have G4:=G2.gx W (by obtain⟨q,v,G,_⟩:=G2;exact aA G d dz) (λq cs G=>aA G d dz);have X:=G4;obtain⟨q4,v4,I,_⟩:=G4;have d4:ao (hp V gb) (0+2)=some (.bool (iE (fr c.2.2.2.2.1 f).1).done):=by rw[nd_l L.rel I];rfl
  have Y:ao (hp V ab) (0+12)=some (bU gb):=F4.g;simp only[ae,zS,pN,mO,ld_235,aB,Y,d4];refine aC (A':=ry b {a with held:= -1,at':=6,done:=(iE (fr c.2.2.2.2.1 f).1).done} (.pointer x) (ptr gb)) L.rel r mQ ⟨rfl,rfl⟩ rfl (by show 20<21;omega) λw5 T5 g5 Z _ _=>?_;have J:=E.trans g5;rw[e];refine⟨by first|rfl|trivial,T5,SO.then z (SO.one (es:= [237]) d dz J) dz,C.gx J (aA C.n d dz) (by obtain⟨_,hs,_⟩:=C.s;exact aA hs d dz) (by obtain⟨_,hs,_⟩:=C.l;exact aA hs d dz),x,some ⟨gb,0,none⟩,Z,(λh=>by cases h),λ_ _=>⟨gb,rfl,?_⟩⟩;exact X.gx g5 (aA I r dz) (λq cs G=>aA G r dz)
 by_cases M:0<=a.held
 ·obtain⟨u0,u1,u2⟩:=qa R U;have P:ad [] w w.drew:=(ad.refl [] w).drew;have Ud:=U.aw P;simp only[F215,ptr,ae,zS,pM,lE,nV,jO,ud,ag,F.s,F.held,u1,M,bs_22_1];generalize B:w.drew.alloc _=w1;have Q:ad [] w.drew w1:=by rw[<- B];exact(ad.refl _ _).alloc _
  have hn:hp w1 w.drew.heap.size=some (.cells #[bS a.held] 3):=by rw[<- B,af,bX rfl]
  clear B;have R1:=(R.aw P).aw Q;have L1:kZ w1 T (.slice (some ⟨w.drew.heap.size,0,none⟩) 1 1) [a.held]:=⟨_,1,rfl,cy _,λj u hj=>by
   have a1:j=0:=by have:=(ce.1 hj).1;simp[ints]at this;omega
   subst a1;simp[ints]at hj;subst hj;exact⟨_,rfl,by rw[eR,gi,hn];rfl⟩,λp hp _=>by cases hp;exact(R.aw P).fresh (cy _)⟩
  have a4:=O.s;refine(c_StGive R1 (Ud.aw Q).s L1 (by simp;omega)).mono ?_;rintro _ w2 ⟨T2,i,S2⟩;obtain⟨i,C⟩:=(Ud.aw Q).setS i S2;have d:=i.off ab _ hT (SO.un hT (.inr dz));have z:Gx (SO T o clT) w T w2 T2:=((Gx.bV R (P.trans Q)).trans (i.mono λk ⟨e,cs,p,q⟩=>⟨e,cs,p,by rw[dh.1 q];decide⟩))
  try simp only[ae,ac,lE]
  refine aC (A':=ry b {a with held:= -1} (.pointer x) (.pointer y)) i.rel d aE ⟨rfl,rfl⟩ rfl (by show 8<21;omega) λw3 T3 D A _ _=>?_;have a2:=SO.then z (SO.one (es:= [237]) d dz D) dz
  have U3:=C.so (SO.one (es:= [237]) d dz D) (.inr dz);refine rest w3 T3 (qP su [a.held]) a2 U3 ⟨by simp only[qP,cJ,List.length_singleton];exact S,O.l⟩ A ?_;rw[gY,bX M]
 ·have ea:a.held= -1:=dy;have e1:({a with held:= -1}:AlV)=a:=by rw[<- ea]
  simp only[F215,ptr,ae,zS,lE,ag,F.held,M];refine rest w T su (Gx.refl R) U O (by rw[e1];exact hT) ?_;rw[gY,bY M]
end
section
variable{w w1 w2 w':World}{T T1 T2 T':dN}{h:Hm}{c:cP}{m m':bI}{o o' b sb lb k ab tb:Nat}{es es':List TypeId}{su:lO}{a a':AlV}{tv gv:Value}
theorem nd_ws{A A':Array Value}{t e:TypeId}{x:Value}{j n:Nat}(R:Rel w T)(hT:T b=some (.st o e (A.toList.map fQ.v)))(c:(Tryz.prog.info? t).map (·.size)=some n)(one:x.cells.size=n/\x.cells.toList.all (·.oneCell')=true/\0<n)(a:nz A j x.cells.toList=A')(d:j+n<=A.size){L:World->Prop}
  (f:∀w' T',Gx (λq=>q=b) w T w' T'->T' b=some (.st o e (A'.toList.map fQ.v))->(∀ q,q≠b->T' q=T q)->aW (λq=>q=b) w w'->L w'):dE prog (Instr.storeAt t (.pointer (some ⟨b,j,none⟩)) x) w L:=by
 have hb:hp w b=some (.cells A e):=R.kW hT;rw[mh c one.1 one.2.1 one.2.2 (by rw[hb,aT];exact cj d),hb,ay,ar,a];exact f _ _ (Gx.putv R hT A'.toList) ax (λq g=>aD g) (aW.put _ _ _ _)
theorem mg(U:fX w T o b sb lb h c su)(hT:T ab=some (alN o b a tv gv))(g:Gx (λq=>q=ab) w T w' T'):fX w' T' o b sb lb h c su:=
 U.gx g (aA U.n hT dz) (by obtain⟨_,d,_⟩:=U.s;exact aA d hT dz) (by obtain⟨_,d,_⟩:=U.l;exact aA d hT dz)
theorem c_fine(N:gM c)(R:Rel w T)(H:dM T h c m)(r:o≠0)(U:fX w T o b sb lb h c su)(O:rn su)(f:su.st.length+1<=100000)(g: -1<=a.held){x y:Option Addr}(hT:T ab=some (alN o b a (.pointer x) (.pointer y)))(d off:Int):
  aa prog 185 [ptr ab,bS d,bS off] w λv w'=>v= .tuple #[]/\∃T',Gx (SO T o clT) w T w' T'/\fX w' T' o b sb lb h c (pr c.2.2.2.2.1 su a d off).1/\AlR w' T' o ab b h (pr c.2.2.2.2.1 su a d off).2:=by
 apply F185_ok;have F:=oF R hT;have i:ad [] w w.drew:=(ad.refl [] w).drew;have j:ai prog (Instr.build 32 #[(0,bS a.slot),(1,bS a.gen),(2,bS d),(3,bS off),(4,bS a.n)])=some (.agg #[bS a.slot,bS a.gen,bS d,bS off,bS a.n]):=bd_32_0_1_2_3_4;simp only[F185,ptr,ae,ac,zS,fa_237_1,fa_237_2,fa_237_3,fa_237_5,fa_237_14,ag,F.slot,F.gen,F.n,F.steps,j];refine nd_ws (A':=ry b {a with h:=(a.slot,a.gen,d,off,a.n)} (.pointer x) (.pointer y)) (R.aw i) hT ma ⟨rfl,rfl,dz⟩ rfl (by show 14+5<=21;omega) λw1 T1 k l _ _=>?_;simp only[ac,fa_237_6];refine aC (A':=ry b {a with h:=(a.slot,a.gen,d,off,a.n),point:=a.steps} (.pointer x) (.pointer y)) k.rel l aE ⟨rfl,rfl⟩ rfl (by show 6<21;omega) λw2 T2 p q _ _=>?_;have e:Gx (SO T o clT) w T w2 T2:=(Gx.bV R i).trans (SO.one (es:=clT) hT dz (k.trans p));refine(c_closes (a:={a with h:=(a.slot,a.gen,d,off,a.n),point:=a.steps}) N p.rel (H.so e r) r (mg (U.aw i) hT (k.trans p)) O f g q).mono ?_;rintro _ A ⟨rfl,s,t,u,z⟩;try simp only[ae,ac]
 exact⟨by first|rfl|trivial,s,SO.then e t (λ_ h=>h),u,z⟩
theorem c_taken(R:Rel w T){y:Option Addr}(hT:T ab=some (alN o b a (bU tb) (.pointer y)))(K:TkR T o tb b h a.t):
  aa prog 188 [ptr ab] w λv w'=>v= .tuple #[]/\∃T',Gx (λq=>q=ab) w T w' T'/\AlR w' T' o ab b h (mF a):=by
 apply F188_ok;have F:=oF R hT;obtain⟨z,j,_⟩:=K;obtain⟨_,_,_,k2,_⟩:=tF R j;by_cases f:a.t.chunk<0
 ·simp only[F188,ptr,ae,ac,zS,s9,fa_237_15,fa_279_2,ag,ld_234,F.t,k2,f];refine aC (A':=ry b {a with dry:=true} (bU tb) (.pointer y)) R hT mQ ⟨rfl,rfl⟩ rfl (by show 19<21;omega) λw1 T1 e c _ _=>?_;simp only[ac,ig];refine aC (A':=ry b {a with dry:=true,at':=0} (bU tb) (.pointer y)) e.rel c aE ⟨rfl,rfl⟩ rfl (by show 4<21;omega) λw2 T2 g d _ _=>?_;refine⟨by first|rfl|trivial,T2,e.trans g,?_⟩;rw[mF,bX f];exact⟨_,_,d,(λh=>by cases h),λh=>by cases h⟩
 ·simp only[F188,ptr,ae,ac,zS,s9,lE,fa_279_2,ag,ld_234,F.t,k2,f];refine aC (A':=ry b {a with held:=a.t.chunk} (bU tb) (.pointer y)) R hT aE ⟨rfl,rfl⟩ rfl (by show 8<21;omega) λw1 T1 e c _ _=>?_;simp only[ac,fa_237_9];refine aC (A':=ry b {a with held:=a.t.chunk,zero:=0} (bU tb) (.pointer y)) e.rel c aE ⟨rfl,rfl⟩ rfl (by show 9<21;omega) λw2 T2 g d _ _=>?_;simp only[ac,ig];refine aC (A':=ry b {a with held:=a.t.chunk,zero:=0,at':=3} (bU tb) (.pointer y)) g.rel d aE ⟨rfl,rfl⟩ rfl (by show 4<21;omega) λm k l i _ _=>?_;refine⟨by first|rfl|trivial,k,(e.trans g).trans l,?_⟩;rw[mF,bY f];exact⟨_,_,i,(λh=>by cases h),λh=>by cases h⟩
def snT:List TypeId:= [258,262,279,237]
theorem rt_box{x:Value}{r:RtV}{K:Value->World->Prop}(a:∀q w',w.heap.size<=q->ad [] w w'->hp w' q=some (.cells (lZ r) 231)->K (bU q) w'):
  dF prog (Instr.alloc 231 true x) w λt w1=>dE prog (Instr.storeAt 231 t (.agg (lZ r))) w1 λw2=>K t w2:=by
 rw[ue];have b:hp (w.alloc (.cells (lZ ⟨0,0,0,0⟩) 231)) w.heap.size=some (.cells (lZ ⟨0,0,0,0⟩) 231):=by rw[af,bX rfl]
 have c:ad [] w (w.alloc (.cells (lZ ⟨0,0,0,0⟩) 231)):=(ad.refl _ _).alloc _;have e:(w.alloc (.cells (lZ ⟨0,0,0,0⟩) 231)).heap.size=w.heap.size+1:=ah _ _;generalize d:w.alloc (.cells (lZ ⟨0,0,0,0⟩) 231)=w1 at*;show dE prog (Instr.storeAt 231 (bU w.heap.size) (.agg (lZ r))) (w.alloc (.cells (lZ ⟨0,0,0,0⟩) 231)) _;rw[d,st_rt b rfl];exact a _ _ (cy _) (c.put (.inr (cy _)) _ _) (aq dy _ _)
theorem rt_l{q:Nat}{r:RtV}{e:TypeId}(hb:hp w q=some (.cells (lZ r) e)):ao (hp w q) (0+0)=some (bS r.gen)/\ao (hp w q) (0+1)=some (bS r.mark)/\ao (hp w q) (0+2)=some (bS r.cls)/\ao (hp w q) (0+3)=some (bS r.off):=by
 rw[hb];exact⟨rfl,rfl,rfl,rfl⟩
theorem c_seen(N:gM c)(R:Rel w T)(H:dM T h c m)(Q:o≠0)(U:fX w T o b sb lb h c su)(O:rn su)(X:su.st.length+1<=100000)(Y: -1<=a.held)(hu:tk a.old){x y:Option Addr}(hT:T ab=some (alN o b a (.pointer x) (.pointer y))):
  aa prog 183 [ptr ab] w λv w'=>v= .tuple #[]/\∃T',Gx (SO T o snT) w T w' T'/\fX w' T' o b sb lb h c (mw c su a).1/\AlR w' T' o ab b h (mw c su a).2:=by
 apply F183_ok;have F:=oF R hT;simp only[F183,ptr,ae,ac,fa_237_10,bx,F.old];refine(jb hu).mono ?_;rintro _ w1 ⟨rfl,c1⟩;refine rt_box λq w2 hq c2 Z=>?_;have cd:ad [] w2 w2.drew:=(ad.refl [] w2).drew;have a2:=c1.trans c2;have F2:=oF (R.aw a2) hT;have a9:T q=none:=(R.aw c1).fresh hq;simp only[ac,zS,fa_237_2,ag,F2.gen,sO (w:=w2.drew) Z];refine(c_Live (bd a.old) a.gen).mono ?_;rintro _ w3 ⟨rfl,c3⟩;have I:=(a2.trans cd).trans c3;have a3:=c3.at (cd.at Z (by simp)) (by simp);have R3:=R.aw I;have F3:=oF R3 hT;have U3:=U.aw I;have a4:Gx (SO T o snT) w T w3 T:=Gx.bV R I;obtain⟨r0,r1,r2,r3⟩:=rt_l a3;cases hl:mv (bd a.old) a.gen with
 |false=>
  simp only[ac,zS,fa_237_5,ta,ag,F3.steps];refine aC (A':=ry b {a with code:=3} (.pointer x) (.pointer y)) R3 hT sz_30 ⟨rfl,rfl⟩ rfl (by show 13<21;omega) λJ T4 j d _ _=>?_;simp only[ac,fa_237_6];refine aC (A':=ry b {a with code:=3,point:=a.steps} (.pointer x) (.pointer y)) j.rel d aE ⟨rfl,rfl⟩ rfl (by show 6<21;omega) λp r l f _ _=>?_;have C:Gx (SO T o snT) w T p r:=a4.trans (SO.one (es:=snT) hT dz (j.trans l));refine(c_closes (a:={a with code:=3,point:=a.steps}) N l.rel (H.so C Q) Q (mg U3 hT (j.trans l)) O X Y f).mono ?_;rintro _ w6 ⟨rfl,T6,G,U6,A6⟩;try simp only[ae,ac]
  rw[mw,bX hl];exact⟨by first|rfl|trivial,T6,SO.then C G dz,U6,A6⟩
 |true=>
  have D:ad [] w3 w3.drew:=(ad.refl [] w3).drew;simp only[ac,zS,fa_231_2,fa_237_3,ag,F3.n,r2];refine(c_rRound (bd a.old).cls a.n _).step ?_;simp only[ac,rW];generalize b1:bW (bd a.old).cls a.n=need;refine aC (A':=ry b {a with need:=need} (.pointer x) (.pointer y)) (R3.aw D) hT aE ⟨rfl,rfl⟩ rfl (by show 7<21;omega) λJ T4 j d b4 c4=>?_;have F4:=oF j.rel d;have b2:hp J q=some (.cells (lZ (bd a.old)) 231):=(j.loc (D.at a3 (by simp)) a9).1;obtain⟨r0,r1,r2,r3⟩:=rt_l b2;have U4:=mg (U3.aw D) hT j;have A:Gx (SO T o snT) w T J T4:=(a4.trans (Gx.bV R3 D)).trans (SO.one (es:=snT) hT dz j);have H4:=H.so A Q;obtain⟨u0,_,_⟩:=qa j.rel U4;have a5:ao (hp J h.wb) (0+0+2)=some (bS c.2.2.1):=by rw[j.rel.kW H4.wT];rfl
  have i:ad [] J J.drew:=(ad.refl [] J).drew;have fin:∀(a1:AlV) (p:World) (r:dN) (K:lO) (x1:Option Addr),Gx (SO T o snT) w T p r->fX p r o b sb lb h c K->r ab=some (alN o b a1 (.pointer x1) (.pointer y))->a1.at'≠2->a1.at'≠6->mw c su a=(K,a1)->
    (Value.tuple #[]=Value.tuple #[]/\∃T',Gx (SO T o snT) w T p T'/\fX p T' o b sb lb h c (mw c su a).1/\AlR p T' o ab b h (mw c su a).2):=by
   intro a1 p r K x1 g U5 f n2 n6 e;rw[e];exact⟨rfl,r,g,U5,x1,y,f,λh=>absurd h n2,λh=>absurd h n6⟩
  have u:mw c su a=(if 2<=(bd a.old).mark/\mf c.2.2.1 (bd a.old).off need then(su,{a with need:=need,at':=1})
   else if 0<=a.held then(su,{a with need:=need,at':=4})
   else if a.dry then gY c.2.2.2.2.1 su {a with need:=need,code:=6,point:=a.steps}
   else if(kr c su).2.done then((kr c su).1,mF {a with need:=need,t:=(kr c su).2,at':=2})else((kr c su).1,{a with need:=need,t:=(kr c su).2,at':=2})):=by
   rw[mw,bY (by rw[hl];decide),<-b1]
  by_cases hP:2<=(bd a.old).mark/\mf c.2.2.1 (bd a.old).off need=true
  ·rw[bX hP]at u;obtain⟨V,hf⟩:=hP;simp only[ae,ac,ptr,zS,V,mM,pK,pM,rW,jv,bR,fj,ag,jO,gp,r1,r3,F4.s,F4.need,u0,a5];refine(c_rFits2 _ _ _ _).step ?_;simp only[ac,zS,hf,ig];refine aC (A':=ry b {a with need:=need,at':=1} (.pointer x) (.pointer y)) (j.rel.aw i) d aE ⟨rfl,rfl⟩ rfl (by show 4<21;omega) λp r l f _ _=>?_;exact⟨by first|rfl|trivial,(fin _ p r su x (SO.then A ((Gx.bV j.rel i).trans (SO.one (es:=snT) d dz l)) (λ_ h=>h)) (mg (U4.aw i) d l) f (λh=>by cases h) (λh=>by cases h) u).2⟩
  ·rw[bY hP]at u;by_cases V:2<=(bd a.old).mark;all_goals
    first
    |(have b5:2<=(bd a.old).mark:=V
      have hf:mf c.2.2.1 (bd a.old).off need=false:=by
       cases L:mf c.2.2.1 (bd a.old).off need with
       |false=>rfl
       |true=>exact absurd ⟨V,L⟩ hP
      simp only[ae,ac,ptr,zS,V,mM,pK,pM,rW,jv,bR,fj,ag,jO,gp,r1,r3,F4.s,F4.need,u0,a5];refine(c_rFits2 _ _ _ _).step ?_;simp only[ac,zS,hf,lE,ag,F4.held])
    |simp only[ac,zS,V,mM,lE,ag,r1,F4.held]
    by_cases L:0<=a.held
    ·rw[bX L]at u;simp only[ac,zS,L,ig];refine aC (A':=ry b {a with need:=need,at':=4} (.pointer x) (.pointer y)) (j.rel.aw i) d aE ⟨rfl,rfl⟩ rfl (by show 4<21;omega) λp r l f _ _=>?_;exact⟨by first|rfl|trivial,(fin _ p r su x (SO.then A ((Gx.bV j.rel i).trans (SO.one (es:=snT) d dz l)) (λ_ h=>h)) (mg (U4.aw i) d l) f (λh=>by cases h) (λh=>by cases h) u).2⟩
    ·rw[bY L]at u;cases hd:a.dry with
     |true=>
      rw[bX hd]at u;have Fd:=F4.dry;simp only[hd]at Fd;simp only[ac,zS,L,Fd,fa_237_15,fa_237_5,ta,ag,aB,F4.steps];refine aC (A':=ry b {a with need:=need,code:=6} (.pointer x) (.pointer y)) (j.rel.aw i) d sz_30 ⟨rfl,rfl⟩ rfl (by show 13<21;omega) λp r l f _ _=>?_;simp only[ac,fa_237_6];refine aC (A':=ry b {a with need:=need,code:=6,point:=a.steps} (.pointer x) (.pointer y)) l.rel f aE ⟨rfl,rfl⟩ rfl (by show 6<21;omega) λw6 T6 G M _ _=>?_;have a6:Gx (SO T o snT) w T w6 T6:=SO.then A ((Gx.bV j.rel i).trans (SO.one (es:=snT) d dz (l.trans G))) (λ_ h=>h)
      refine(c_closes (a:={a with need:=need,code:=6,point:=a.steps}) N G.rel (H.so a6 Q) Q (mg (U4.aw i) d (l.trans G)) O X Y M).mono ?_;rintro _ w7 ⟨rfl,T7,W,U7,A7⟩;try simp only[ae,ac]
      rw[u];exact⟨by first|rfl|trivial,T7,SO.then a6 W dz,U7,A7⟩
     |false=>
      rw[bY (by rw[hd];decide)]at u;have Fd:=F4.dry;simp only[hd]at Fd;simp only[ac,zS,L,Fd,fa_237_15,pM,aB,jO,F4.s];refine(c_Take N (j.rel.aw i) H4 Q (U4.aw i) O).mono ?_;rintro _ p ⟨tb,r,rfl,l,U5,K5⟩;have f:=l.off ab _ d (SO.un d (.inr dz));have b3:=(Gx.bV (S:=SO T4 o [258,279]) j.rel i).trans l;have C:Gx (SO T o snT) w T p r:=SO.then A b3 dz
      simp only[ac,ptr,s9];refine aC (A':=ry b {a with need:=need,t:=(kr c su).2} (bU tb) (.pointer y)) l.rel f sz_234 ⟨rfl,rfl⟩ rfl (by show 11<21;omega) λw6 T6 G M _ _=>?_;simp only[ac,ig];refine aC (A':=ry b {a with need:=need,t:=(kr c su).2,at':=2} (bU tb) (.pointer y)) G.rel M aE ⟨rfl,rfl⟩ rfl (by show 4<21;omega) λw7 T7 W B _ _=>?_;have P:=G.trans W;have U7:=mg U5 f P;have K7:TkR T7 o tb b h (kr c su).2:=K5.gx P λk e cs hk he q=>by subst q;rw[f]at hk;cases hk;revert he;decide
      have a7:=SO.then C (SO.one (es:=snT) f dz P) (λ_ h=>h)
      have F7:=oF W.rel B;have a8:=K7;obtain⟨z,hK,_⟩:=K7;obtain⟨_,_,_,_,_,_,k5⟩:=tF W.rel hK;cases E:(kr c su).2.done with
      |true=>
       rw[E]at k5;rw[bX E]at u;simp only[ae,ac,zS,kj,ld_234,aB,F7.t,k5];refine(c_taken (a:={a with need:=need,t:=(kr c su).2,at':=2}) W.rel B a8).mono ?_;rintro _ w8 ⟨rfl,T8,g8,A8⟩;try simp only[ae,ac]
       rw[u];exact⟨by first|rfl|trivial,T8,SO.then a7 (SO.one (es:=snT) B dz g8) (λ_ h=>h),mg U7 B g8,A8⟩
      |false=>
       rw[E]at k5;rw[bY (by rw[E];decide)]at u;simp only[ae,ac,zS,kj,ld_234,aB,F7.t,k5];rw[u];exact⟨by first|rfl|trivial,T7,a7,U7,_,_,B,(λ_ _=>⟨tb,rfl,a8⟩),λh=>by cases h⟩
end
section
variable{w w0 w1 w2 w':World}{T T1 T2 T':dN}{h:Hm}{c:cP}{m m':bI}{o o' b sb lb k ab tb q:Nat}{es es':List TypeId}{su:lO}{a a':AlV}{tv gv:Value}
structure eu(c:cP)(m:bI):Prop where
 len:m.length=kX c
 u:mU m
theorem lenM_le(N:gM c):kX c<=10000000:=by
 have d:=N.b1;have a:=N.b2;have b:=N.b3;have e:=N.b4;have:cC c*cK c<=4096*1024:=Nat.mul_le_mul a.2 b.2;unfold kX;omega
theorem eu.pool(M:eu c m)(N:gM c):StkOk (bP c) m:=by
 have a:=M.len;have:=lenM_le N;have b:=N.b2;refine⟨?_,?_,?_,dy,M.u⟩
 ·show 0<m.length;rw[a];unfold kX;omega
 ·show aLk c 0+cC c<=m.length;rw[a];unfold kX aLk;omega
 ·show cC c<=100000;omega
theorem eu.spare(M:eu c m)(N:gM c):StkOk (dL c) m:=by
 have a:=M.len;have:=lenM_le N;have b:=N.b4;refine⟨?_,?_,?_,dy,M.u⟩
 ·show 1<m.length;rw[a];unfold kX;omega
 ·show aSl c 0+cS c<=m.length;rw[a];unfold kX aSl;omega
 ·show cS c<=100000;omega
theorem eu.rt(M:eu c m){s:Nat}(a:s<cS c):iS c s<m.length:=by rw[M.len];unfold kX iS;omega
theorem eu.lk(M:eu c m){k:Nat}(a:k<cC c):aLk c k<m.length:=by rw[M.len];unfold kX aLk;omega
theorem eu.wd(M:eu c m){k i:Nat}(a:k<cC c)(b:i<cK c):aWd c k i<m.length:=by
 rw[M.len];unfold kX aWd;have:k*cK c+i<cC c*cK c:=by
  have:(k+1)*cK c<=cC c*cK c:=Nat.mul_le_mul_right _ a;rw[Nat.add_mul,Nat.one_mul]at this;omega
 omega
theorem eu.pin(M:eu c m){k:Nat}(a:k<cW c):fS c k<m.length:=by rw[M.len];unfold kX fS;omega
theorem eu.two(M:eu c m):2<m.length:=by rw[M.len];unfold kX;omega
theorem m8(R:Rel w T)(H:dM T h c m):fR prog 25 (.pointer (some ⟨h.wb,0+0,none⟩)) w=some (.agg (dK c).toArray):=
 ldv_agg (n:=6) (e:=153) (c:=(homeL h c).toArray) ag_25 sz_25 (R.kW H.wT) (by rfl)
theorem m9(R:Rel w T)(H:dM T h c m):ao (hp w h.wb) (0+6)=some (ptr h.mb)/\ao (hp w h.wb) (0+0+2)=some (bS c.2.2.1)/\ao (hp w h.wb) (0+7)=some (ptr h.pb)/\ao (hp w h.wb) (0+8)=some (ptr h.sb)/\ao (hp w h.wb) (0+9)=some (ptr h.eb):=by
 rw[R.kW H.wT];exact⟨rfl,rfl,rfl,rfl,rfl⟩
theorem oG{a:Obj}(h:hp w q=some a):q<w.heap.size:=by
 by_cases b:q<w.heap.size
 ·exact b
 ·exfalso;have:w.heap[q]? =none:=Array.getElem?_eq_none dy;unfold hp at h;rw[this]at h;cases h
theorem SM.py(hT:T ab=some (alN o b a tv gv))(g:Gx (λq=>q=ab) w T w' T'):Gx (SM h T o alT) w T w' T':=SO.toM (SO.one (es:= [237]) hT dz g) dz
theorem rt_w1{r:RtV}{e:TypeId}{x:Int}{L:World->Prop}(hb:hp w q=some (.cells (lZ r) e))(a:w0.heap.size<=q)(b:ad [] w0 w)(c:∀w',ad [] w0 w'->hp w' q=some (.cells (lZ {r with mark:=x}) e)->L w'):dE prog (Instr.storeAt 3 (.pointer (some ⟨q,0+1,none⟩)) (bS x)) w L:=by
 have d:q<w.heap.size:=oG hb;rw[hC (o:=0+1) rfl rfl (by rw[hb,aT];exact cj (by show 0+1+1<=4;omega)),hb,ay,ar];exact c _ (b.put (.inr a) _ _) (aq d _ _)
theorem rt_w3{r:RtV}{e:TypeId}{x:Int}{L:World->Prop}(hb:hp w q=some (.cells (lZ r) e))(a:w0.heap.size<=q)(b:ad [] w0 w)(c:∀w',ad [] w0 w'->hp w' q=some (.cells (lZ {r with off:=x}) e)->L w'):dE prog (Instr.storeAt 3 (.pointer (some ⟨q,0+3,none⟩)) (bS x)) w L:=by
 have d:q<w.heap.size:=oG hb;rw[hC (o:=0+3) rfl rfl (by rw[hb,aT];exact cj (by show 0+3+1<=4;omega)),hb,ay,ar];exact c _ (b.put (.inr a) _ _) (aq d _ _)
structure AlOk(c:cP)(a:AlV):Prop where
 at':a.at'<=6
 slot:0<=a.slot/\a.slot<cS c
 steps:0<=a.steps/\a.steps<=1000000000
 need:0<=a.need/\a.need<=10000
 held: -1<=a.held/\a.held<cC c
 h3:3<=a.at'->a.at'<=5->0<=a.held
 zero:a.at'=3->0<=a.zero/\a.zero<cK c
 old:tk a.old
 t:a.at'=2->TkOk c a.t
 g:a.at'=6->tE (bP c) a.g.p
theorem TkR.al{t:TkV}(K:TkR T o tb b h t)(hT:T ab=some (alN o b a tv gv))(g:Gx (λq=>q=ab) w T w' T'):TkR T' o tb b h t:=K.gx g λk e cs c d q=>by subst q;rw[hT]at c;cases c;revert d;decide
theorem GiR.al{x:GiV}{gb:Nat}(G:GiR w T o gb h x)(hT:T ab=some (alN o b a tv gv))(g:Gx (λq=>q=ab) w T w' T'):GiR w' T' o gb h x:=
 G.gx g (by obtain⟨q,v,c,_⟩:=G;exact aA c hT dz) (λq cs c=>aA c hT dz)
theorem c_AlStep(N:gM c)(R:Rel w T)(H:dM T h c m)(j:o≠0)(M:eu c m)(U:fX w T o b sb lb h c su)(O:rn su)(l6:su.st.length+100<=100000)(A:AlR w T o ab b h a)(OA:AlOk c a):
  aa prog 146 [ptr ab] w λv w'=>v= .bool (!a.done)/\∃T',Gx (SM h T o alT) w T w' T'/\dM T' h c (eC c m su a).1/\fX w' T' o b sb lb h c (eC c m su a).2.1/\AlR w' T' o ab b h (eC c m su a).2.2:=by
 obtain⟨D,f7,d5⟩:∃D:Nat->Prop,(a.at'=1->D=λk=>T k≠none)/\(a.at'≠1->D=DM T h):=by
  by_cases h1:a.at'=1
  ·exact⟨_,λ_=>rfl,λh=>absurd h1 h⟩
  ·exact⟨_,λh=>absurd h h1,λ_=>rfl⟩
 apply F146_ok (D:=D);have A0:=A;obtain⟨x,y,hT,hx,hy⟩:=A;have F:=oF R hT;cases hd:a.done with
 |true=>
  have Fd:=F.done;rw[hd]at Fd;simp only[F146,ptr,ae,ac,pN,aB,Fd,zS];rw[eC,bX hd];exact⟨by first|rfl|trivial,T,Gx.refl R,H,U,A0⟩
 |false=>
 have Fd:=F.done;rw[hd]at Fd;have os:=OA.steps;have l7:=OA.slot;have oh:=OA.held;have on:=OA.need;have b4:=N.b4;have b2:=N.b2;have b3:=N.b3;rw[F146];have ew:IntKind.i64.wrap (a.steps+1)=a.steps+1:=ap dy dy;simp only[ptr,ae,ac,pN,fa_237_5,aB,ag,Fd,F.steps,aj,ew,zS];refine aC (A':=ry b {a with steps:=a.steps+1} (.pointer x) (.pointer y)) R hT aE ⟨rfl,rfl⟩ rfl (by show 5<21;omega) λw1 T1 g1 d a9 c1=>?_;have U1:=mg U hT g1;have E:=H.cL g1 hT j;have F1:=oF g1.rel d;obtain⟨u0,_,_⟩:=qa g1.rel U1;obtain⟨k6,k2,_⟩:=m9 g1.rel E;have es:a.slot=((a.slot.toNat:Nat):Int):=dy;have fs:ao (hp w1 ab) (0+1)=some (bS ((a.slot.toNat:Nat):Int)):=by rw[<- es];exact F1.slot
 simp only[ptr,ae,ac,zS,pM,fa_237_1,jv,bR,jO,gp,ag,m8 (w:=w1.drew) (g1.rel.aw (ad.refl [] w1).drew) E,F1.s,fs,u0];refine(lQ N (i:=a.slot.toNat) dy).mono ?_;rintro _ w2 ⟨rfl,c2⟩;have d6:=(ad.refl [] w1).drew.trans c2;have F2:=oF (g1.rel.aw d6) d;simp only[ac,zS,fa_237_10,bx,F2.old];refine(jb OA.old).mono ?_;rintro _ w3 ⟨rfl,c3⟩;refine rt_box λq B hq c4 a1=>?_;have b8:=(d6.trans c3).trans c4;have a2:T1 q=none:=(g1.rel.aw (d6.trans c3)).fresh hq;have P:=g1.rel.aw b8;have F4:=oF P d;have U4:=U1.aw b8;have a3:Gx (SM h T o alT) w T B T1:=(SM.py hT g1).trans (Gx.bV g1.rel b8);have H4:=E;have k4:=a1;obtain⟨r0,r1,r2,r3⟩:=rt_l a1;have rb:=rt_bd OA.old;have l:eC c m su a=(if a.at'=0 then((m,mw c su {a with steps:=a.steps+1,old:=di m (iS c a.slot.toNat)}):bI×lO×AlV)
  else if a.at'=1 then
   if di m (iS c a.slot.toNat)=a.old then(m.set (iS c a.slot.toNat) (lN {bd a.old with off:=(bd a.old).off+a.need}),pr c.2.2.2.2.1 su {a with steps:=a.steps+1,at':=0} (et (bd a.old)) (bd a.old).off)
   else(m,su,{a with steps:=a.steps+1,at':=0})
  else if a.at'=2 then
   ((fg c m su a.t).1,(fg c m su a.t).2.1,if(fg c m su a.t).2.2.done then mF {a with steps:=a.steps+1,t:=(fg c m su a.t).2.2}else{a with steps:=a.steps+1,t:=(fg c m su a.t).2.2})
  else if a.at'=3 then
   (m.set (aWd c a.held.toNat a.zero.toNat) 0,su,if a.zero+1=c.2.2.1 then{a with steps:=a.steps+1,zero:=a.zero+1,at':=4}else{a with steps:=a.steps+1,zero:=a.zero+1})
  else if a.at'=4 then(m.set (aLk c a.held.toNat) (et (bd a.old)+1),su,{a with steps:=a.steps+1,at':=5})
  else if a.at'=5 then
   if di m (iS c a.slot.toNat)=a.old then(m.set (iS c a.slot.toNat) (lN {bd a.old with mark:=a.held+2,off:=eI c.2.2.1 a.need}),pr c.2.2.2.2.1 su {a with steps:=a.steps+1,at':=0,held:= -1} a.held 0)
   else(m,su,{a with steps:=a.steps+1,at':=0})
  else((dJ c m a.g).1,su,{a with steps:=a.steps+1,g:=(dJ c m a.g).2,done:=(dJ c m a.g).2.done})):=by
  rw[eC,bY (by rw[hd];decide)]
 have fin:∀(L:World) (Y:dN) (r:bI×lO×AlV),eC c m su a=r->Gx (SM h T o alT) w T L Y->dM Y h c r.1->fX L Y o b sb lb h c r.2.1->AlR L Y o ab b h r.2.2->P146_0 L (λv w'=>v= .bool (!false)/\∃T',Gx (SM h T o alT) w T w' T'/\dM T' h c (eC c m su a).1/\fX w' T' o b sb lb h c (eC c m su a).2.1/\AlR w' T' o ab b h (eC c m su a).2.2):=by
  rintro L Y r rfl h1 h2 h3 h4;apply L146_0_ok;exact⟨rfl,Y,h1,h2,h3,h4⟩
 have A7:a.at'=0\/a.at'=1\/a.at'=2\/a.at'=3\/a.at'=4\/a.at'=5\/a.at'=6:=by have:=OA.at';omega
 rcases A7 with q0|q0|q0|q0|q0|q0|q0
 . -- b1 root is read
  simp only[q0,reduceIte]at l;have C:ao (hp B ab) (0+4)=some (bS 0):=by have t:ao (hp B ab) (0+4)=some (bS (a.at':Nat)):=F4.at';rw[q0]at t;exact t
  obtain⟨k6,_⟩:=m9 P E;simp only[ptr,ac,zS,ig,fq,ag,bD,C,k6];refine(je (a:=iS c a.slot.toNat) P E (M.rt dy)).mono ?_;rintro _ L ⟨rfl,_,Y,X,H5⟩;have U5:=U4.sm (o':=o) (es:= []) E (SM.mem X) j (.inr dz);have f:=X.off ab _ d (E.tD d j);have a5:=SM.then a3 (SM.mem X) (λ_ h=>h)
  try simp only[ae,ac,fa_237_10]
  refine aC (A':=ry b {a with steps:=a.steps+1,old:=di m (iS c a.slot.toNat)} (.pointer x) (.pointer y)) X.rel f sz_33 ⟨rfl,rfl⟩ rfl (by show 10<21;omega) λw6 T6 Q V _ _=>?_;refine(c_seen (a:={a with steps:=a.steps+1,old:=di m (iS c a.slot.toNat)}) N Q.rel (H5.cL Q f j) j (mg U5 f Q) O dy (by show -1<=a.held;omega) (iF M.u _) V).mono ?_;rintro _ w7 ⟨rfl,T7,Z,U7,A7⟩;have b5:Gx (SM h Y o alT) L Y w6 T6:=SM.py f Q;have a6:=SM.then (SM.then a5 b5 (λ_ h=>h)) (SO.toM (h:=h) (es':=alT) Z dz) (λ_ h=>h)
  exact fin w7 T7 _ l a6 ((H5.cL Q f j).so Z j) U7 A7
 . -- k7 in b1 b9 chunk
  simp only[q0,reduceIte,Nat.one_ne_zero]at l;have C:ao (hp B ab) (0+4)=some (bS 1):=by have t:ao (hp B ab) (0+4)=some (bS (a.at':Nat)):=F4.at';rw[q0]at t;exact t
  have d7:T q=none:=by
   have hn:q≠ab:=λhh=>by rw[hh,d]at a2;cases a2
   rw[<- a9 q hn];exact a2
  have dq:D q=False:=by rw[f7 q0];show(T q≠none)=False;rw[d7];simp
  simp only[ac,zS,ig,ag,C,Int.reduceBEq,sO a1];refine rt_box λq2 L d1 c5 d8=>?_;have i3:hp L q=some (.cells (lZ (bd a.old)) 231):=c5.at a1 (by simp);obtain⟨p0,p1,p2,p3⟩:=rt_l i3;have F5:=oF (P.aw c5) d;have ew:IntKind.i64.wrap ((bd a.old).off+a.need)=(bd a.old).off+a.need:=ap dy dy;simp only[ac,zS,rW,pK,ag,p3,F5.need,aj,ew];refine rt_w3 (w0:=B) (w:=L.drew) d8 d1 (c5.trans (ad.refl [] L).drew) λw6 c6 e1=>?_;simp only[ac,sO e1];refine(tm _).mono ?_;rintro _ w7 ⟨bb,rfl,c7⟩;have e2:=c6.trans c7;have R7:=P.aw e2;have U7:=U4.aw e2;try simp only[jk,jm,ac]
  refine aC (A':=ry b {a with steps:=a.steps+1,at':=0} (.pointer x) (.pointer y)) R7 d aE ⟨rfl,rfl⟩ rfl (by show 4<21;omega) λw8 T8 g8 a4 i4 c8=>?_;have H8:=E.cL g8 d j;have U8:=mg U7 d g8;have F8:=oF g8.rel a4;obtain⟨k6,_⟩:=m9 g8.rel H8;have f9:Gx (SM h T1 o alT) B T1 w8 T8:=(Gx.bV P e2).trans (SM.py d g8);have e3:hp w8.drew q=some (.cells (lZ (bd a.old)) 231)/\T8 q=none:=f9.loc a1 a2;obtain⟨p0,p1,p2,p3⟩:=rt_l e3.1;simp only[ptr,ac,zS,fq,bD,k6,F8.old];have e4:=(ad.refl [] w8).drew;refine(c_CasD (a:=iS c a.slot.toNat) (g8.rel.aw e4) H8 (M.rt dy) a.old _).mono ?_;rintro _ w9 ⟨rfl,l8,T9,g9,H9,n9⟩;have U9:=(U8.aw e4).sm (o':=o) (es:= []) H8 (SM.mem g9) j (.inr dz);have a7:=g9.off ab _ a4 (H8.tD a4 j);have g2:=(Gx.bV (S:=SM h T8 o alT) g8.rel e4).trans (SM.mem g9);have g3:=SM.then (SM.then a3 f9 (λ_ h=>h)) g2 (λ_ h=>h)
  have g4:=(g2.loc e3.1 e3.2).1;have d9:∀k,T9 k≠none->T k≠none:=by
   intro k hk hn;have h5:k≠ab:=λhh=>by rw[hh,hT]at hn;cases hn
   exact hk (n9 k (by rw[i4 k h5,a9 k h5];exact hn))
  by_cases hc:di m (iS c a.slot.toNat)=a.old
  ·rw[bX hc]at l H9;simp only[ac,zS,hc,p9,dq,not_false_eq_true,true_and,sO (w:=w9.drew) g4,(rt_l g4).2.2.2];refine(c_Chunk (bd a.old) rb.2.1.2).mono ?_;rintro _ e5 ⟨rfl,h6⟩;refine⟨bJ h6,?_⟩;have cc:=(ad.refl [] w9).drew.trans h6;refine(c_fine (a:={a with steps:=a.steps+1,at':=0}) N (g9.rel.aw cc) H9 j (U9.aw cc) O dy (by show -1<=a.held;omega) a7 (et (bd a.old)) (bd a.old).off).mono ?_;rintro _ e6 ⟨rfl,e7,W,i5,i6⟩;refine⟨lR (by rw[f7 q0];exact W.aw.mono d9),?_⟩;have i7:=SM.then g3 ((Gx.bV g9.rel cc).trans (SO.toM (h:=h) (es':=alT) W dz)) (λ_ h=>h)
   exact fin e6 e7 _ l i7 (H9.so W j) i5 i6
  ·rw[bY hc]at l H9;simp only[zS,hc];exact fin w9 T9 _ l g3 H9 U9 ⟨x,y,a7,(λh=>by cases h),λh=>by cases h⟩
 . -- a chunk is i2 for
  have l:eC c m su a=((fg c m su a.t).1,(fg c m su a.t).2.1,if(fg c m su a.t).2.2.done then mF {a with steps:=a.steps+1,t:=(fg c m su a.t).2.2}else{a with steps:=a.steps+1,t:=(fg c m su a.t).2.2}):=by rw[l];simp[q0]
  have C:ao (hp B ab) (0+4)=some (bS 2):=by have t:ao (hp B ab) (0+4)=some (bS (a.at':Nat)):=F4.at';rw[q0]at t;exact t
  obtain⟨tb,rfl,K⟩:=hx q0 hd;have K1:=K.al hT g1;simp only[ac,zS,ig,s9,ag,ld_234,C,Int.reduceBEq,F4.t];refine(c_TkStep N P E j (M.pool N) M.two U4 O K1 (OA.t q0)).mono ?_;rintro _ L ⟨Y,X,H5,U5,K5⟩;have f:=X.off ab _ d (SM.un E d j (.inr dz));have a5:=SM.then a3 (X.mono λk hk=>hk.imp id fun⟨e,cs,p,q⟩=>⟨e,cs,p,(show∀e∈tkT,e∈alT by decide) e q⟩) (λ_ h=>h)
  have F5:=oF X.rel f;have h7:=K5;obtain⟨z,hK,_⟩:=K5;obtain⟨_,_,_,_,_,_,k5⟩:=tF X.rel hK;cases d2:(fg c m su a.t).2.2.done with
  |true=>
   rw[d2]at k5;rw[bX d2]at l;simp only[ae,ac,zS,kj,aB,F5.t,k5];refine(c_taken (a:={a with steps:=a.steps+1,t:=(fg c m su a.t).2.2}) X.rel f h7).mono ?_;rintro _ w6 ⟨rfl,T6,Q,A6⟩;have b5:Gx (SM h Y o alT) L Y w6 T6:=SM.py f Q;exact fin w6 T6 _ l (SM.then a5 b5 (λ_ h=>h)) (H5.cL Q f j) (mg U5 f Q) A6
  |false=>
   rw[d2]at k5;rw[bY (by rw[d2];decide)]at l;simp only[ae,ac,zS,kj,aB,F5.t,k5];exact fin L Y _ l a5 H5 U5 ⟨_,_,f,(λ_ _=>⟨tb,rfl,h7⟩),λh=>absurd (q0.symm.trans h) dz⟩
 . -- a word is k8 zero
  have l:eC c m su a=(m.set (aWd c a.held.toNat a.zero.toNat) 0,su,if a.zero+1=c.2.2.1 then{a with steps:=a.steps+1,zero:=a.zero+1,at':=4}else{a with steps:=a.steps+1,zero:=a.zero+1}):=by rw[l];simp[q0]
  have C:ao (hp B ab) (0+4)=some (bS 3):=by have t:ao (hp B ab) (0+4)=some (bS (a.at':Nat)):=F4.at';rw[q0]at t;exact t
  have hD:=d5 dy;have hz:=OA.zero q0;have hh:=OA.h3 dy dy;have n3:=N.n3;have fh:ao (hp B ab) (0+8)=some (bS ((a.held.toNat:Nat):Int)):=by rw[du hh];exact F4.held
  have fz:ao (hp B ab) (0+9)=some (bS ((a.zero.toNat:Nat):Int)):=by rw[du hz.1];exact F4.zero
  have dw:D h.wb=False:=by rw[hD];exact dn H H.wT (by obtain⟨n,hn⟩:=H.mT;exact aA H.wT hn dz)
  have da:D ab=False:=by rw[hD];exact dn H hT (H.tD hT j)
  have dD:∀k,DM T1 h k->D k:=by
   rw[hD];rintro k (hk|hk)
   ·exact .inl hk
   ·refine .inr ?_;rw[<- a9 k (λhh=>by rw[hh,d]at hk;cases hk)];exact hk
  have a8:=(ad.refl [] B).drew;obtain⟨k6,_⟩:=m9 P E;simp only[ptr,ac,zS,ig,lE,fa_237_9,fq,ag,bD,C,Int.reduceBEq,fh,fz,k6,p9,dw,da,not_false_eq_true,true_and,m8 (w:=B.drew) (P.aw a8) E];refine(c_Word N (k:=a.held.toNat) (i:=a.zero.toNat) dy dy).mono ?_;rintro _ L ⟨rfl,c5⟩;refine⟨bJ c5,?_⟩;have e8:=a8.trans c5;refine(pa (a:=aWd c a.held.toNat a.zero.toNat) (P.aw e8) E (M.wd dy dy) 0).mono ?_;rintro _ w6 ⟨i8,T6,Q,H6⟩;refine⟨lR (i8.mono dD),?_⟩;have U6:=(U4.aw e8).sm (o':=o) (es:= []) E (SM.mem Q) j (.inr dz);have V:=Q.off ab _ d (E.tD d j);have i9:=SM.then a3 ((Gx.bV (S:=SM h T1 o alT) P e8).trans (SM.mem Q)) (λ_ h=>h)
  have F6:=oF Q.rel V;have ew:IntKind.i64.wrap (a.zero+1)=a.zero+1:=ap dy dy;simp only[ac,F6.zero,aj,ew];refine aC (A':=ry b {a with steps:=a.steps+1,zero:=a.zero+1} (.pointer x) (.pointer y)) Q.rel V aE ⟨rfl,rfl⟩ rfl (by show 9<21;omega) λw7 T7 Z I _ _=>?_;have H7:=H6.cL Z V j;have U7:=mg U6 V Z;have F7:=oF Z.rel I;obtain⟨_,k2,_⟩:=m9 Z.rel H7;have j1:Gx (SM h T6 o alT) w6 T6 w7 T7:=SM.py V Z;have a6:=SM.then i9 j1 (λ_ h=>h)
  have b6:=(ad.refl [] w7).drew;by_cases d3:a.zero+1=c.2.2.1
  ·rw[bX d3]at l;have hb:(a.zero+1==c.2.2.1)=true:=by rw[d3];exact beq_self_eq_true _
   simp only[ac,zS,fj,ag,F7.zero,k2,hb];refine aC (A':=ry b {a with steps:=a.steps+1,zero:=a.zero+1,at':=4} (.pointer x) (.pointer y)) (Z.rel.aw b6) I aE ⟨rfl,rfl⟩ rfl (by show 4<21;omega) λw8 T8 g8 a4 _ _=>?_;have e9:Gx (SM h T7 o alT) w7 T7 w8 T8:=(Gx.bV Z.rel b6).trans (SM.py I g8);exact fin w8 T8 _ l (SM.then a6 e9 (λ_ h=>h)) (H7.cL g8 I j) (mg (U7.aw b6) I g8) ⟨_,_,a4,(λh=>by cases h),λh=>by cases h⟩
  ·rw[bY d3]at l;have hb:(a.zero+1==c.2.2.1)=false:=cN d3;simp only[ac,zS,fj,ag,F7.zero,k2,hb];exact fin w7.drew T7 _ l (a6.trans (Gx.bV Z.rel b6)) H7 (U7.aw b6) ⟨_,_,I,(λh=>absurd (q0.symm.trans h) dz),λh=>absurd (q0.symm.trans h) dz⟩
 . -- b1 chunk is k9 to b1 b9
  have l:eC c m su a=(m.set (aLk c a.held.toNat) (et (bd a.old)+1),su,{a with steps:=a.steps+1,at':=5}):=by rw[l];simp[q0]
  have C:ao (hp B ab) (0+4)=some (bS 4):=by have t:ao (hp B ab) (0+4)=some (bS (a.at':Nat)):=F4.at';rw[q0]at t;exact t
  have hD:=d5 dy;have hh:=OA.h3 dy dy;have fh:ao (hp B ab) (0+8)=some (bS ((a.held.toNat:Nat):Int)):=by rw[du hh];exact F4.held
  have d7:T q=none:=by
   have hn:q≠ab:=λhh=>by rw[hh,d]at a2;cases a2
   rw[<- a9 q hn];exact a2
  have dw:D h.wb=False:=by rw[hD];exact dn H H.wT (by obtain⟨n,hn⟩:=H.mT;exact aA H.wT hn dz)
  have da:D ab=False:=by rw[hD];exact dn H hT (H.tD hT j)
  have dq:D q=False:=by rw[hD];exact dl H d7
  have dD:∀k,DM T1 h k->D k:=by
   rw[hD];rintro k (hk|hk)
   ·exact .inl hk
   ·refine .inr ?_;rw[<- a9 k (λhh=>by rw[hh,d]at hk;cases hk)];exact hk
  have a8:=(ad.refl [] B).drew;obtain⟨k6,_⟩:=m9 P E;have l9: -1<=et (bd a.old)/\et (bd a.old)<=65535:=by unfold et;split<;>omega
  simp only[ptr,ac,zS,ig,lE,fq,ag,bD,C,Int.reduceBEq,fh,k6,p9,dw,da,dq,not_false_eq_true,true_and,m8 (w:=B.drew) (P.aw a8) E,sO (w:=B.drew) a1];refine(c_Link N (i:=a.held.toNat) dy).mono ?_;rintro _ L ⟨rfl,c5⟩;refine⟨bJ c5,?_⟩;refine(c_Chunk (bd a.old) rb.2.1.2).mono ?_;rintro _ w6 ⟨rfl,c6⟩;refine⟨bJ c6,?_⟩;have f2:=(a8.trans c5).trans c6;have ew:IntKind.i64.wrap (et (bd a.old)+1)=et (bd a.old)+1:=ap dy dy;have j2:IntKind.u64.wrap (et (bd a.old)+1)=et (bd a.old)+1:=oR dy dy;simp only[ac,aj,ew,j2,lG];refine(pa (a:=aLk c a.held.toNat) (P.aw f2) E (M.lk dy) _).mono ?_;rintro _ w7 ⟨j3,T7,Z,H7⟩;refine⟨lR (j3.mono dD),?_⟩;have U7:=(U4.aw f2).sm (o':=o) (es:= []) E (SM.mem Z) j (.inr dz);have I:=Z.off ab _ d (E.tD d j);have a6:=SM.then a3 ((Gx.bV (S:=SM h T1 o alT) P f2).trans (SM.mem Z)) (λ_ h=>h)
  try simp only[]
  refine aC (A':=ry b {a with steps:=a.steps+1,at':=5} (.pointer x) (.pointer y)) Z.rel I aE ⟨rfl,rfl⟩ rfl (by show 4<21;omega) λw8 T8 g8 a4 _ _=>?_;have e9:Gx (SM h T7 o alT) w7 T7 w8 T8:=SM.py I g8;exact fin w8 T8 _ l (SM.then a6 e9 (λ_ h=>h)) (H7.cL g8 I j) (mg U7 I g8) ⟨_,_,a4,(λh=>by cases h),λh=>by cases h⟩
 . -- b1 root l1 b1 chunk
  have l:eC c m su a=(if di m (iS c a.slot.toNat)=a.old then(m.set (iS c a.slot.toNat) (lN {bd a.old with mark:=a.held+2,off:=eI c.2.2.1 a.need}),pr c.2.2.2.2.1 su {a with steps:=a.steps+1,at':=0,held:= -1} a.held 0)
   else(m,su,{a with steps:=a.steps+1,at':=0})):=by rw[l];simp[q0]
  have C:ao (hp B ab) (0+4)=some (bS 5):=by have t:ao (hp B ab) (0+4)=some (bS (a.at':Nat)):=F4.at';rw[q0]at t;exact t
  have hD:=d5 dy;have hh:=OA.h3 dy dy;have dw:D h.wb=False:=by rw[hD];exact dn H H.wT (by obtain⟨n,hn⟩:=H.mT;exact aA H.wT hn dz)
  have da:D ab=False:=by rw[hD];exact dn H hT (H.tD hT j)
  have a8:=(ad.refl [] B).drew;simp only[ac,zS,ig,ag,C,Int.reduceBEq,sO a1];refine rt_box λq2 L d1 c5 d8=>?_;have F5:=oF (P.aw c5) d;obtain⟨_,k2,_⟩:=m9 (P.aw c5) E;have ew:IntKind.i64.wrap (a.held+2)=a.held+2:=ap dy dy;have j4:=(ad.refl [] L).drew;simp only[ac,zS,rW,lE,fj,mM,ag,F5.need,F5.held,k2,aj,ew,p9,dw,da,not_false_eq_true,true_and];refine(c_rAfter _ _ _).mono ?_;rintro _ _ ⟨rfl,rfl⟩;refine⟨bJ (ad.refl _ _),?_⟩;refine rt_w1 (w0:=B) (w:=L.drew) d8 d1 (c5.trans j4) λw6 c6 e1=>?_;try simp only[ac,pK]
  refine rt_w3 (w0:=B) (w:=w6) e1 d1 c6 λw7 c7 j5=>?_;simp only[ac,sO j5];refine(tm _).mono ?_;rintro _ w8 ⟨bb,rfl,c8⟩;have f3:=c7.trans c8;have R8:=P.aw f3;have U8:=U4.aw f3;try simp only[jk,jm,ac]
  refine aC (A':=ry b {a with steps:=a.steps+1,at':=0} (.pointer x) (.pointer y)) R8 d aE ⟨rfl,rfl⟩ rfl (by show 4<21;omega) λw9 T9 g9 a7 m1 c9=>?_;have H9:=E.cL g9 d j;have U9:=mg U8 d g9;have F9:=oF g9.rel a7;obtain⟨k6,_⟩:=m9 g9.rel H9;have j6:Gx (SM h T1 o alT) B T1 w9 T9:=(Gx.bV P f3).trans (SM.py d g9);simp only[ptr,ac,zS,fq,bD,k6,F9.old];have f4:=(ad.refl [] w9).drew;refine(c_Cas (a:=iS c a.slot.toNat) (g9.rel.aw f4) H9 (M.rt dy) a.old _).mono ?_;rintro _ e5 ⟨rfl,l3,f5,b7,H10⟩;have h8:=(U9.aw f4).sm (o':=o) (es:= []) H9 (SM.mem b7) j (.inr dz);have J:=b7.off ab _ a7 (H9.tD a7 j);have g0:=SM.then (SM.then a3 j6 (λ_ h=>h)) ((Gx.bV (S:=SM h T9 o alT) g9.rel f4).trans (SM.mem b7)) (λ_ h=>h)
  by_cases hc:di m (iS c a.slot.toNat)=a.old
  ·rw[bX hc]at l H10;have F10:=oF b7.rel J;simp only[ac,zS,hc,F10.held];refine aC (A':=ry b {a with steps:=a.steps+1,at':=0,held:= -1} (.pointer x) (.pointer y)) b7.rel J aE ⟨rfl,rfl⟩ rfl (by show 8<21;omega) λe6 e7 W h9 _ _=>?_;refine(c_fine (a:={a with steps:=a.steps+1,at':=0,held:= -1}) N W.rel (H10.cL W J j) j (mg h8 J W) O dy (by show -1<=(-1:Int);omega) h9 a.held 0).mono ?_;rintro _ j7 ⟨rfl,j8,i1,j9,k1⟩;have f6:Gx (SM h f5 o alT) e5 f5 e6 e7:=SM.py J W;exact fin j7 j8 _ l (SM.then (SM.then g0 f6 (λ_ h=>h)) (SO.toM (h:=h) (es':=alT) i1 dz) (λ_ h=>h)) ((H10.cL W J j).so i1 j) j9 k1
  ·rw[bY hc]at l H10;simp only[zS,hc];exact fin e5 f5 _ l g0 H10 h8 ⟨x,y,J,(λh=>by cases h),λh=>by cases h⟩
 . -- l4 is l5 is k3
  have l:eC c m su a=((dJ c m a.g).1,su,{a with steps:=a.steps+1,g:=(dJ c m a.g).2,done:=(dJ c m a.g).2.done}):=by rw[l];simp[q0]
  have C:ao (hp B ab) (0+4)=some (bS 6):=by have t:ao (hp B ab) (0+4)=some (bS (a.at':Nat)):=F4.at';rw[q0]at t;exact t
  obtain⟨gb,rfl,G⟩:=hy q0 hd;have G1:=(G.al hT g1).aw b8;simp only[ac,zS,ig,fa_237_12,ag,ld_235,C,Int.reduceBEq,F4.g];refine(c_GiStep P E j (M.pool N) G1 (OA.g q0)).mono ?_;rintro _ L ⟨Y,X,H5,G5⟩;have f:=X.off ab _ d (SM.un E d j (.inr dz));have a5:=SM.then a3 (X.mono λk hk=>hk.imp id fun⟨e,cs,p,q⟩=>⟨e,cs,p,(show∀e∈ [282,293],e∈alT by decide) e q⟩) (λ_ h=>h)
  have U5:=U4.sm E X j (.inr dz);have F5:=oF X.rel f;have d4:ao (hp L gb) (0+2)=some (.bool (dJ c m a.g).2.done):=by obtain⟨q,v,hg,_⟩:=G5;rw[nd_l X.rel hg];rfl
  simp only[ae,ac,mO,aB,F5.g,d4];refine aC (A':=ry b {a with steps:=a.steps+1,g:=(dJ c m a.g).2,done:=(dJ c m a.g).2.done} (.pointer x) (bU gb)) X.rel f mQ ⟨rfl,rfl⟩ rfl (by show 20<21;omega) λw6 T6 Q V _ _=>?_;have b5:Gx (SM h Y o alT) L Y w6 T6:=SM.py f Q;exact fin w6 T6 _ l (SM.then a5 b5 (λ_ h=>h)) (H5.cL Q f j) (mg U5 f Q) ⟨x,some ⟨gb,0,none⟩,V,(λh=>absurd (q0.symm.trans h) dz),λ_ _=>⟨gb,rfl,G5.al f Q⟩⟩
end
section
variable{w w0 w1 w2 w':World}{T T1 T2 T':dN}{h:Hm}{c:cP}{m m':bI}{o o' b sb lb k ab tb q eb:Nat}{es es':List TypeId}{su:lO}
def edA(wb:Nat)(e:EdV):Array Value:= #[ptr wb,bS e.slot,bS e.gen,bS e.at',bS e.steps,bS e.point,bS e.chunk,bT e.old,bS e.code,.bool e.done]
def edN(o wb:Nat)(e:EdV):Nod:= .st o 287 ((edA wb e).toList.map fQ.v)
def EdR(T:dN)(o eb:Nat)(h:Hm)(e:EdV):Prop:=T eb=some (edN o h.wb e)
structure EdF(w:World)(eb wb:Nat)(e:EdV):Prop where
 wb:ao (hp w eb) (0+0)=some (ptr wb)
 slot:ao (hp w eb) (0+1)=some (bS e.slot)
 gen:ao (hp w eb) (0+2)=some (bS e.gen)
 at':ao (hp w eb) (0+3)=some (bS e.at')
 steps:ao (hp w eb) (0+4)=some (bS e.steps)
 point:ao (hp w eb) (0+5)=some (bS e.point)
 chunk:ao (hp w eb) (0+6)=some (bS e.chunk)
 old:ao (hp w eb) (0+7)=some (bT e.old)
 code:ao (hp w eb) (0+8)=some (bS e.code)
 done:ao (hp w eb) (0+9)=some (.bool e.done)
theorem ed_f{wb:Nat}{e:EdV}(R:Rel w T)(hT:T eb=some (edN o wb e)):EdF w eb wb e:=by
 have hb:hp w eb=some (.cells (edA wb e) 287):=R.kW hT;constructor<;>rw[hb]<;>rfl
structure EdOk(c:cP)(e:EdV):Prop where
 at':e.at'<=1
 slot:0<=e.slot/\e.slot<cS c
 steps:0<=e.steps/\e.steps<=1000000000
 old:e.at'=1->tk e.old
theorem c_End(R:Rel w T)(slot gen:Int)(o:Nat):aa prog 175 [ptr h.wb,bS slot,bS gen] w λv w'=>∃eb T',v=ptr eb/\Gx (λ_=>False) w T w' T'/\EdR T' o eb h (edNew slot gen):=by
 apply F175_ok;have a:ai prog (Instr.build 287 #[(0,ptr h.wb),(1,bS slot),(2,bS gen),(6,bS (-1))])=some (.agg (edA h.wb (edNew slot gen))):=bd_287_0_1_2_6;simp only[F175,a,ak,au,ac];have g:=Gx.p8 (S:=λ_=>False) R o 287 (edA h.wb (edNew slot gen)).toList;exact⟨w.heap.size,_,rfl,g,ax⟩
theorem c_EdStep{e:EdV}(N:gM c)(R:Rel w T)(H:dM T h c m)(n:o≠0)(M:eu c m)(E:EdR T o eb h e)(OE:EdOk c e):
  aa prog 194 [ptr eb] w λv w'=>v= .bool (!e.done)/\∃T',Gx (SM h T o [287]) w T w' T'/\dM T' h c (fG c m e).1/\EdR T' o eb h (fG c m e).2:=by
 apply F194_ok (D:=DM T h);have hT:T eb=some (edN o h.wb e):=E;have F:=ed_f R hT;cases S:e.done with
 |true=>
  have Fd:=F.done;rw[S]at Fd;simp only[F194,ptr,ae,ac,pQ,aB,Fd,zS];rw[fG,bX S];exact⟨by first|rfl|trivial,T,Gx.refl R,H,E⟩
 |false=>
 have Fd:=F.done;rw[S]at Fd;have os:=OE.steps;have b7:=OE.slot;have b4:=N.b4;have one:∀{w w':World} {T T':dN} {cs:List fQ},T eb=some (.st o 287 cs)->Gx (λq=>q=eb) w T w' T'->Gx (SM h T o [287]) w T w' T':=λhT g=>SO.toM (SO.one (es:= [287]) hT dz g) dz;rw[F194];have ew:IntKind.i64.wrap (e.steps+1)=e.steps+1:=ap dy dy;simp only[ptr,ae,ac,pQ,fa_287_4,aB,ag,Fd,F.steps,aj,ew,zS];refine aC (A':=edA h.wb {e with steps:=e.steps+1}) R hT aE ⟨rfl,rfl⟩ rfl (by show 4<10;omega) λw1 T1 P b U c1=>?_;have y:=H.cL P hT n;have F1:=ed_f P.rel b;have es:e.slot=((e.slot.toNat:Nat):Int):=dy;have fs:ao (hp w1 eb) (0+1)=some (bS ((e.slot.toNat:Nat):Int)):=by rw[<- es];exact F1.slot
 simp only[ptr,ae,ac,zS,fa_287_0,fa_287_1,bR,gp,ag,m8 (w:=w1.drew) (P.rel.aw (ad.refl [] w1).drew) y,F1.wb,fs];refine(lQ N (i:=e.slot.toNat) dy).mono ?_;rintro _ w2 ⟨rfl,c2⟩;have V:=(ad.refl [] w1).drew.trans c2;have z:=P.rel.aw V;have F2:=ed_f z b;have W:Gx (SM h T o [287]) w T w2 T1:=(one hT P).trans (Gx.bV P.rel V);have dD:∀k,DM T1 h k->DM T h k:=by
  rintro k (hk|hk)
  ·exact .inl hk
  ·refine .inr ?_;rw[<- U k (λhh=>by rw[hh,b]at hk;cases hk)];exact hk
 have da:DM T h eb=False:=dn H hT (H.tD hT n);obtain⟨k6,_⟩:=m9 z y;have A2:e.at'=0\/e.at'=1:=by have:=OE.at';omega
 rcases A2 with q0|q0
 ·have p:fG c m e=(if mv (bd (di m (iS c e.slot.toNat))) e.gen then(m,{e with steps:=e.steps+1,old:=di m (iS c e.slot.toNat),at':=1})
   else(m,{e with steps:=e.steps+1,old:=di m (iS c e.slot.toNat),code:=3,point:=e.steps+1,done:=true,at':=1})):=by rw[fG,bY (by rw[S];decide),bX q0]
  have A:ao (hp w2 eb) (0+3)=some (bS 0):=by have t:ao (hp w2 eb) (0+3)=some (bS (e.at':Nat)):=F2.at';rw[q0]at t;exact t
  simp only[ptr,ae,ac,zS,pP,fq,ag,bD,A,F2.wb,k6];refine(je (a:=iS c e.slot.toNat) z y (M.rt dy)).mono ?_;rintro _ w3 ⟨rfl,_,T3,g3,H3⟩;have B:=g3.off eb _ b (y.tD b n);have a7:=SM.then W (SM.mem g3) (λ_ h=>h)
  generalize X:di m (iS c e.slot.toNat)=old at*;have hu:tk old:=by rw[<- X];exact iF M.u _
  try simp only[ac,fa_287_7]
  refine aC (A':=edA h.wb {e with steps:=e.steps+1,old:=old}) g3.rel B sz_33 ⟨rfl,rfl⟩ rfl (by show 7<10;omega) λw4 T4 Q d _ _=>?_;have F4:=ed_f Q.rel d;have Y:=SM.then a7 (one B Q) (λ_ h=>h)
  have H4:=H3.cL Q B n;simp only[ac,zS,fa_287_2,ag,bx,F4.old,F4.gen,p9,da,not_false_eq_true,true_and];refine(jb hu).mono ?_;rintro _ w5 ⟨rfl,Z⟩;refine⟨bJ Z,?_⟩;refine(c_Live _ _).mono ?_;rintro _ w6 ⟨rfl,c6⟩;refine⟨bJ c6,?_⟩;have C:=((ad.refl [] w4).drew.trans Z).trans c6;have R6:=Q.rel.aw C;have F6:=ed_f R6 d;cases hl:mv (bd old) e.gen with
  |true=>
   rw[bX hl]at p;simp only[ac,zS];apply L194_0_ok;simp only[L194_0,ae,ac,pP];refine aC (A':=edA h.wb {e with steps:=e.steps+1,old:=old,at':=1}) R6 d aE ⟨rfl,rfl⟩ rfl (by show 3<10;omega) λw7 T7 g7 G _ _=>?_;rw[p];exact⟨by first|rfl|trivial,T7,SM.then (Y.trans (Gx.bV Q.rel C)) (one d g7) (λ_ h=>h),H4.cL g7 d n,G⟩
  |false=>
   rw[bY (by rw[hl];decide)]at p;simp only[ac,zS,fa_287_8,F6.steps];refine aC (A':=edA h.wb {e with steps:=e.steps+1,old:=old,code:=3}) R6 d sz_30 ⟨rfl,rfl⟩ rfl (by show 8<10;omega) λw7 T7 g7 G _ _=>?_;try simp only[ac,fa_287_5]
   refine aC (A':=edA h.wb {e with steps:=e.steps+1,old:=old,code:=3,point:=e.steps+1}) g7.rel G aE ⟨rfl,rfl⟩ rfl (by show 5<10;omega) λw8 T8 g8 I _ _=>?_;try simp only[ae,ac,pQ]
   refine aC (A':=edA h.wb {e with steps:=e.steps+1,old:=old,code:=3,point:=e.steps+1,done:=true}) g8.rel I mQ ⟨rfl,rfl⟩ rfl (by show 9<10;omega) λw9 T9 g9 J _ _=>?_;apply L194_0_ok;simp only[L194_0,ae,ac,pP];refine aC (A':=edA h.wb {e with steps:=e.steps+1,old:=old,code:=3,point:=e.steps+1,done:=true,at':=1}) g9.rel J aE ⟨rfl,rfl⟩ rfl (by show 3<10;omega) λa8 a1 r j _ _=>?_;rw[p];have gg:=((g7.trans g8).trans g9).trans r;exact⟨by first|rfl|trivial,a1,SM.then (Y.trans (Gx.bV Q.rel C)) (one d gg) (λ_ h=>h),H4.cL gg d n,j⟩
 ·have p:fG c m e=(if di m (iS c e.slot.toNat)=e.old then
   (m.set (iS c e.slot.toNat) (lN ⟨(bd e.old).gen,0,0,0⟩),{e with steps:=e.steps+1,chunk:=et (bd e.old),point:=e.steps+1,done:=true,at':=0})
   else(m,{e with steps:=e.steps+1,at':=0})):=by rw[fG,bY (by rw[S];decide),bY (by rw[q0];decide)]
  have A:ao (hp w2 eb) (0+3)=some (bS 1):=by have t:ao (hp w2 eb) (0+3)=some (bS (e.at':Nat)):=F2.at';rw[q0]at t;exact t
  have hu:=OE.old q0;have rb:=rt_bd hu;simp only[ac,zS,pP,fa_287_7,ag,bx,A,F2.old,Int.reduceBEq];refine(jb hu).mono ?_;rintro _ w3 ⟨rfl,c3⟩;refine rt_box λq w4 hq c4 a2=>?_;have a3:=c3.trans c4;have s:T1 q=none:=(z.aw c3).fresh hq;have a9:T q=none:=by
   have hn:q≠eb:=λhh=>by rw[hh,b]at s;cases s
   rw[<- U q hn];exact s
  have dq:DM T h q=False:=dl H a9;have R4:=z.aw a3;obtain⟨r0,_⟩:=rt_l a2;have b1:ai prog (Instr.build 231 #[(0,bS (bd e.old).gen)])=some (.agg (lZ ⟨(bd e.old).gen,0,0,0⟩)):=bd_231_0;simp only[ac,fa_231_0,ag,r0,b1];refine(tm _).mono ?_;rintro _ w5 ⟨bb,rfl,Z⟩;have a4:=a3.trans Z;have R5:=z.aw a4;have F5:=ed_f R5 b;obtain⟨k6,_⟩:=m9 R5 y;have b2:=Z.at a2 (by simp);simp only[jk,jm,ptr,ae,ac,zS,fq,bD,F5.wb,F5.old,k6];have K:=(ad.refl [] w5).drew;refine(c_Cas (a:=iS c e.slot.toNat) (R5.aw K) y (M.rt dy) e.old _).mono ?_;rintro _ w6 ⟨rfl,_,T6,L,H6⟩;have f:=L.off eb _ b (y.tD b n);have b3:Gx (SM h T1 o [287]) w2 T1 w6 T6:=(Gx.bV z (a4.trans K)).trans (SM.mem L);have a5:=SM.then W b3 (λ_ h=>h)
  by_cases hc:di m (iS c e.slot.toNat)=e.old
  ·rw[bX hc]at p H6;have F6:=ed_f L.rel f;have b5:=(L.loc (K.at b2 (by simp)) s).1;simp only[ac,zS,hc,F6.steps,p9,da,dq,not_false_eq_true,true_and,sO (w:=w6.drew) b5];refine(c_Chunk (bd e.old) rb.2.1.2).mono ?_;rintro _ w7 ⟨rfl,c7⟩;refine⟨bJ c7,?_⟩;have a6:=(ad.refl [] w6).drew.trans c7;try simp only[ac,fa_287_6]
   refine aC (A':=edA h.wb {e with steps:=e.steps+1,chunk:=et (bd e.old)}) (L.rel.aw a6) f aE ⟨rfl,rfl⟩ rfl (by show 6<10;omega) λw8 T8 g8 I _ _=>?_;try simp only[ac,fa_287_5]
   refine aC (A':=edA h.wb {e with steps:=e.steps+1,chunk:=et (bd e.old),point:=e.steps+1}) g8.rel I aE ⟨rfl,rfl⟩ rfl (by show 5<10;omega) λw9 T9 g9 J _ _=>?_;try simp only[ae,ac,pQ]
   refine aC (A':=edA h.wb {e with steps:=e.steps+1,chunk:=et (bd e.old),point:=e.steps+1,done:=true}) g9.rel J mQ ⟨rfl,rfl⟩ rfl (by show 9<10;omega) λa8 a1 r j _ _=>?_;apply L194_1_ok;simp only[L194_1,ae,ac,pP];refine aC (A':=edA h.wb {e with steps:=e.steps+1,chunk:=et (bd e.old),point:=e.steps+1,done:=true,at':=0}) r.rel j aE ⟨rfl,rfl⟩ rfl (by show 3<10;omega) λb6 O x l _ _=>?_;rw[p];have gg:=((g8.trans g9).trans r).trans x;exact⟨by first|rfl|trivial,O,SM.then (a5.trans (Gx.bV L.rel a6)) (one f gg) (λ_ h=>h),H6.cL gg f n,l⟩
  ·rw[bY hc]at p H6;simp only[zS,hc];apply L194_1_ok;simp only[L194_1,ae,ac,pP];refine aC (A':=edA h.wb {e with steps:=e.steps+1,at':=0}) L.rel f aE ⟨rfl,rfl⟩ rfl (by show 3<10;omega) λb6 O x l _ _=>?_;rw[p];exact⟨by first|rfl|trivial,O,SM.then a5 (one f x) (λ_ h=>h),H6.cL x f n,l⟩
end
section
variable{w w0 w1 w2 w':World}{T T1 T2 T':dN}{b o:Nat}{e:TypeId}{cs cs':List fQ}{vs vs':List Value}
theorem Gx.newg{S:Nat->Prop}(R:Rel w T)(r:ad [] w w1){base k:Nat}{v:Value}{e':TypeId}{z n:Nat}{us:List Value}(hb:w.heap.size<=base)(s:w1.ownsRow base e' z v n us)(o:Nat)(e:TypeId)(I:vs.length=cs.length)(J:cs[k]? =some (.gr e' z n us))(hv:vs[k]? =some v)
  (K:∀(j:Nat) (c:fQ) (u:Value),j≠k->cs[j]? =some c->vs[j]? =some u->c= .v u):∃T',T' w1.heap.size=some (.st o e cs)/\Gx S w T (w1.alloc (.cells vs.toArray e)) T':=by
 let T1:dN:=λq=>if q=w1.heap.size then some (.st o e cs)else if v.ownBlock=some q then some (.own w1.heap.size k)else T q
 have m:∀q,v.ownBlock=some q->q<w1.heap.size:=λq b=>(s.lt q b).2;have t:∀q,v.ownBlock=some q->w.heap.size<=q:=λq b=>cQ hb (m6 s b);have F:T1 w1.heap.size=some (.st o e cs):=bX rfl;have G:∀q,v.ownBlock=some q->T1 q=some (.own w1.heap.size k):=λq b=>by
  have:=m q b;show(if q=w1.heap.size then _ else _)=_;rw[bY dy,bX b]
 have hT:∀q,q<w.heap.size->T1 q=T q:=λq b=>by
  have P:=r.size;show(if q=w1.heap.size then _ else _)=_;rw[bY dy,bY (λh=>by have:=t q h;omega)]
 have old:∀q l,T q=some l->T1 q=some l:=λq l h=>by rw[hT q (R.lt q l h)];exact h
 have y:ad [] w (w1.alloc (.cells vs.toArray e)):=r.alloc _;have L:ad [] w1 (w1.alloc (.cells vs.toArray e)):=(ad.refl _ _).alloc _;have M:∀{x j c u},fU w T x j c u->fU (w1.alloc (.cells vs.toArray e)) T1 x j c u:=fun{x j c u} h=>by
  have d:=h.frame (aW.bV y _);cases c with
  |v u=>exact d
  |gr e' z n us=>exact⟨d.1,λp hp=>old p _ (d.2 p hp)⟩
 refine⟨T1,F,⟨λx o' O A i=>?_,λx l i=>?_⟩,aW.bV y _,λq l f _=>old q l f,λq x j h=>old q _ h,λq b h=>by rw[hT q b];exact h,λq Q U B f=>⟨B,old q _ f⟩⟩
 ·by_cases g:x=w1.heap.size
  ·subst g;rw[F]at i;cases i;refine⟨vs,by rw[af,bX rfl],I,λj c u f d=>?_⟩;by_cases H:j=k
   ·subst H;rw[J]at f;rw[hv]at d;cases f;cases d;exact⟨ownsRow_mono (eZ s L (λ_ _=>by simp)) (cX _),G⟩
   ·rw[K j c u H f d];exact rfl
  ·by_cases a:v.ownBlock=some x
   ·rw[G x a]at i;cases i
   ·have C:T x=some (.st o' O A):=by
     have:T1 x=T x:=by
      show(if x=w1.heap.size then _ else _)=_;rw[bY g,bY a]
     rw[<- this];exact i
    obtain⟨D,E⟩:=R.node x _ _ _ C;exact⟨D,y.at E.hb (by simp),E.len,λj c u f d=>M (E.each j c u f d)⟩
 ·rw[ah];by_cases g:x=w1.heap.size
  ·omega
  ·by_cases a:v.ownBlock=some x
   ·have:=m x a;omega
   ·have:T1 x=T x:=by
     show(if x=w1.heap.size then _ else _)=_;rw[bY g,bY a]
    rw[this]at i;have:=R.lt x _ i;have:=r.size;omega
open Classical in
theorem Gx.plain{X S:Nat->Prop}{T0:dN}(R:Rel w T)(L:Rel w T0)(C:∀k,X k->T k≠none/\∃(o:Nat) (e:TypeId) (vs:List Value),T0 k=some (.st o e (vs.map fQ.v)))(f:∀k,¬X k->T0 k=T k)(y:∀(x o:Nat) (e:TypeId) (cs:List fQ) (vs:List Value) (j:Nat) (v:Value) (e':TypeId) (z n:Nat) (us:List Value) (p:Nat),X x->T x=some (.st o e cs)->hp w x=some (.cells vs.toArray e)->cs[j]? =some (.gr e' z n us)->vs[j]? =some v->v.ownBlock=some p->X p)(g:Gx S w T0 w' T1)(J:∀k,X k->¬S k):
  ∃T',Gx S w T w' T'/\(∀ k,¬X k->T' k=T1 k)/\∀k,X k->T' k=T k/\hp w' k=hp w k:=by
 let T':dN:=λk=>if X k then T k else T1 k
 have r:∀k,X k->T' k=T k:=λk h=>bX h;have q:∀k,¬X k->T' k=T1 k:=λk h=>bY h;have same:∀k,X k->hp w' k=hp w k:=λk d=>by
  obtain⟨_,D,E,F,a⟩:=C k d;rw[L.kW a,g.rel.kW (g.off k _ a (J k d))]
 have G:∀k,X k->∃o e cs,T1 k=some (.st o e cs):=λk d=>by
  obtain⟨_,D,E,F,a⟩:=C k d;exact⟨_,_,_,g.off k _ a (J k d)⟩
 have M:aW (λk=>¬X k) w w':=⟨g.aw.os,g.aw.tape,g.aw.output,g.aw.size,λk d t=>same k (Classical.not_not.1 t)⟩
 refine⟨T',⟨⟨λx o' P A i=>?_,λx K i=>?_⟩,g.aw.mono λk d=>?_,λk K a l=>?_,λk b j h=>?_,λk d t=>?_,λk D E B a=>?_⟩,q,λk d=>⟨r k d,same k d⟩⟩
 ·by_cases h:X x
  ·rw[r x h]at i;obtain⟨us,m⟩:=R.node x _ _ _ i;refine⟨us,by rw[same x h];exact m.hb,m.len,λj c u a l=>?_⟩;have s:=m.each j c u a l;cases c with
   |v u=>exact s
   |gr e' z n O=>exact⟨M.row s.1 λp hp t=>t (y x _ _ _ us j u _ _ _ _ p h i m.hb a l hp),λp hp=>by rw[r p (y x _ _ _ us j u _ _ _ _ p h i m.hb a l hp)];exact s.2 p hp⟩
  ·rw[q x h]at i;obtain⟨us,m⟩:=g.rel.node x _ _ _ i;refine⟨us,m.hb,m.len,λj c u a l=>?_⟩;have s:=m.each j c u a l;cases c with
   |v u=>exact s
   |gr e' z n us=>
    refine⟨s.1,λp hp=>?_⟩;have H:=s.2 p hp;rw[q p λhh=>by obtain⟨_,_,_,h6⟩:=G p hh;rw[h6]at H;cases H];exact H
 ·by_cases h:X x
  ·rw[r x h]at i;have:=R.lt x _ i;have:=g.aw.size;omega
  ·rw[q x h]at i;exact g.rel.lt x _ i
 ·by_cases h:X k
  ·exact(C k h).1
  ·rw[<- f k h];exact d
 ·by_cases h:X k
  ·rw[r k h];exact a
  ·rw[q k h];exact g.off k K (by rw[f k h];exact a) l
 ·by_cases I:X k
  ·rw[r k I];exact h
  ·rw[q k I];exact g.own k b j (by rw[f k I];exact h)
 ·have h:¬X k:=λh=>(C k h).1 t;rw[q k h];exact g.non k d (by rw[f k h];exact t)
 ·by_cases h:X k
  ·exact⟨B,by rw[r k h];exact a⟩
  ·obtain⟨A,l⟩:=g.ty k D E B (by rw[f k h];exact a);exact⟨A,by rw[q k h];exact l⟩
end
section
variable{w w0 w1 w2 w':World}{T T1 T2 T':dN}{h:Hm}{c:cP}{m m':bI}{o o' b sb lb k ab tb q kb:Nat}{es es':List TypeId}{su:lO}
theorem Lo.agree{A:Option Addr}{us:List Value}(h:Lo w T A us)(b:∀k,T k=none->T' k=none):Lo w T' A us:=⟨h.rd,λp hp a=>b _ (h.off p hp a)⟩
theorem kZ.agree{v:Value}{l:List Int}(h:kZ w T v l)(a:∀k,T k=none->T' k=none):kZ w T' v l:=by
 obtain⟨A,k,e,b,L⟩:=h;exact⟨A,k,e,b,Lo.agree L a⟩
theorem fX.agree(U:fX w T o b sb lb h c su)(d:∀k,T k=none->T' k=none)(a:∀k o e cs,T k=some (.st o e cs)->e=215\/e=258\/e=262->T' k=some (.st o e cs)):fX w T' o b sb lb h c su:=by
 refine⟨a _ _ _ _ U.n (.inl rfl),?_,?_⟩
 ·obtain⟨v,hT,L⟩:=U.s;exact⟨v,a _ _ _ _ hT (.inr (.inl rfl)),L.agree d⟩
 ·obtain⟨vs,hT,f,g,i⟩:=U.l;exact⟨vs,a _ _ _ _ hT (.inr (.inr rfl)),f,g,λk v hv=>(i k v hv).agree d⟩
def waA(wb:Nat)(lv:Value)(d:Bool):Array Value:= #[ptr wb,lv,.bool d]
def waL(wb:Nat)(k:WaV)(lv:Value):List Value:=(waA wb lv k.done).toList
def waC(wb:Nat)(k:WaV):List fQ:= [.v (ptr wb),.gr 3 1 k.l.length (ints k.l),.v (.bool k.done)]
def waN(o wb:Nat)(k:WaV):Nod:= .st o 290 (waC wb k)
theorem waA_1{wb:Nat}{lv x:Value}{d:Bool}:(waA wb lv d).setIfInBounds (0+1) x=waA wb x d:=rfl
theorem waA_2{wb:Nat}{lv:Value}{d x:Bool}:(waA wb lv d).setIfInBounds (0+2) (.bool x)=waA wb lv x:=rfl
theorem wa_ok{wb:Nat}{lv:Value}{d:Bool}{t:TypeId}{j:Nat}(hb:hp w kb=some (.cells (waA wb lv d) t))(a:j<3):mX (hp w kb) (0+j+1)=true:=by
 rw[hb,aT];exact cj (by show 0+j+1<=3;omega)
structure WaF(w:World)(T:dN)(kb wb:Nat)(x:WaV)(A:Option Addr)(k:Nat):Prop where
 n:m7 w T kb 290 (waC wb x) (waL wb x (.slice A x.l.length k))
 own:w.ownsRow 0 3 1 (.slice A x.l.length k) x.l.length (ints x.l)
 ot:∀q,(Value.slice A x.l.length k).ownBlock=some q->T q=some (.own kb 1)
 rd:ed w A (ints x.l)
 hb:hp w kb=some (.cells (waA wb (.slice A x.l.length k) x.done) 290)
 f0:ao (hp w kb) (0+0)=some (ptr wb)
 f1:ao (hp w kb) (0+1)=some (.slice A x.l.length k)
 f2:ao (hp w kb) (0+2)=some (.bool x.done)
theorem wa_f{wb:Nat}{x:WaV}(R:Rel w T)(hT:T kb=some (waN o wb x)):∃A k,WaF w T kb wb x A k:=by
 obtain⟨vs,N⟩:=R.node _ _ _ _ hT;match vs,N.len,N with
 | [v0,v1,v2],_,N=>
  have b:v0=_:=N.each 0 _ _ rfl rfl;have c:v2=_:=N.each 2 _ _ rfl rfl;have a:=N.each 1 _ _ rfl rfl;subst b c;obtain⟨A,k,rfl,d,_⟩:=aG a.1;refine⟨A,k,N,a.1,a.2,d,N.hb,?_,?_,?_⟩<;>rw[N.hb]<;>rfl
theorem WaF.aw{A:Option Addr}{wb k:Nat}{x:WaV}(F:WaF w T kb wb x A k)(a:ad [] w w'):WaF w' T kb wb x A k:=
 ⟨⟨a.at F.n.hb (by simp),F.n.len,λj b v c d=>(F.n.each j b v c d).frame (aW.bV a _)⟩,eZ F.own a (λk _=>by simp),F.ot,F.rd.an a.below,a.at F.hb (by simp),lK a F.f0,lK a F.f1,lK a F.f2⟩
theorem WaF.put{A:Option Addr}{wb k:Nat}{x:WaV}(F:WaF w T kb wb x A k)(R:Rel w T)(hT:T kb=some (waN o wb x))(d:Bool):
  Gx (λq=>q=kb) w T (Ev.put w kb (waA wb (.slice A x.l.length k) d) 290) (iz T kb (waN o wb {x with done:=d})):=by
 refine Gx.put (vs':=waL wb {x with done:=d} (.slice A x.l.length k)) R hT rfl λj f v a b=>?_;have c:=(ce.1 a).1;have e:j=0\/j=1\/j=2:=by simp[waC]at c;omega
 rcases e with rfl|rfl|rfl<;>cases a<;>cases b
 ·rfl
 ·exact⟨F.own,F.ot⟩
 ·rfl
theorem WaF.grow{A:Option Addr}{wb k:Nat}{x:WaV}(F:WaF w T kb wb x A k)(R:Rel w T)(hT:T kb=some (waN o wb x))(x':WaV){lv:Value}(b:aW (λq=>(Value.slice A x.l.length k).ownBlock=some q) w w1)(c:iB w (.slice A x.l.length k) lv)(d:w1.ownsRow 0 3 1 lv x'.l.length (ints x'.l)):
  hp w1 kb=hp w kb/\∃T',T' kb=some (waN o wb x')/\Gx (λq=>q=kb) w T (Ev.put w1 kb (waA wb lv x'.done) 290) T':=by
 refine Gx.grow (vs':=waL wb x' lv) (cs':=waC wb x') R hT F.n (k:=1) rfl rfl b c d rfl rfl rfl λj m v e a f=>?_;have g:=(ce.1 a).1;have i:j=0\/j=2:=by simp[waC]at g;omega
 rcases i with rfl|rfl<;>cases a<;>cases f<;>rfl
def WaR(T:dN)(o kb:Nat)(h:Hm)(x:WaV):Prop:=T kb=some (waN o h.wb x)
theorem own_one{x:Int}{e:TypeId}:(w.alloc (.cells #[bS x] e)).ownsRow w.heap.size e 1 (.slice (some ⟨w.heap.size,0,none⟩) 1 1) 1 [bS x]:=by
 refine⟨rfl,.inr ⟨w.heap.size,1,#[bS x],rfl,cy _,?_,cy _,dz,rfl,rfl⟩⟩;show hp (w.alloc (.cells #[bS x] e)) w.heap.size=_;rw[af,bX rfl]
theorem rd_intp{A:Option Addr}{l:List Int}(L:ed w A (ints l)){i:Nat}{y:Int}(a:l[i]? =some y)(k:Nat):∃q f,ai prog (Instr.indexAt 22 (.slice A l.length k) (bS i))=some (.pointer (some ⟨q,f,none⟩))/\ao (hp w q) f=some (bS y)/\∃p,A=some p/\q=p.block:=by
 have g:=(ce.1 a).1;obtain⟨q,f,b,d,e⟩:=L.elem1 (P:=prog) (c:=k) (n:=l.length) (i:=(i:Int)) (j:= .i64) underlying22 aE (by simp[ints]) dy dy;exact⟨q,f,b,by rw[d,cq,ints,cM,a];rfl,e⟩
theorem c_Walk(R:Rel w T)(x:Int)(o:Nat):aa prog 196 [ptr h.wb,bS x] w λv w'=>∃kb T',v=ptr kb/\Gx (λ_=>False) w T w' T'/\WaR T' o kb h ⟨[x],false⟩:=by
 apply F196_ok;have d:∀a n k,ai prog (Instr.build 290 #[(0,ptr h.wb),(1,.slice a n k)])=some (.agg (waA h.wb (.slice a n k) false)):=λa n k=>bd_290_0_1;simp only[F196,d,bs_22_1,ak,au,ac];have f:ad [] w (w.alloc (.cells #[bS x] 3)):=(ad.refl _ _).alloc _;obtain⟨T',b,g⟩:=Gx.newg (S:=λ_=>False) (vs:=waL h.wb ⟨[x],false⟩ (.slice (some ⟨w.heap.size,0,none⟩) 1 1)) (cs:=waC h.wb ⟨[x],false⟩) (k:=1) R f (cy _) (own_one (x:=x) (e:=3)) o 290 rfl rfl rfl λj c u i b l=>by
  have m:=(ce.1 b).1;have p:j=0\/j=2:=by simp[waC]at m;omega
  rcases p with rfl|rfl<;>cases b<;>cases l<;>rfl
 exact⟨_,T',rfl,g,b⟩
structure WaOk(c:cP)(x:WaV):Prop where
 n:x.done=false->1<=x.l.length
 m:x.l.length<=10000
 l:tC (bP c) x.l
theorem c_WaStep{x:WaV}(N:gM c)(R:Rel w T)(H:dM T h c m)(V:o≠0)(M:eu c m)(K:WaR T o kb h x)(W:WaOk c x):
  aa prog 197 [ptr kb] w λv w'=>v= .bool (!x.done)/\∃T',Gx (SM h T o [290]) w T w' T'/\dM T' h c m/\WaR T' o kb h (ir c m x):=by
 apply F197_ok (D:=DM T h);have hT:T kb=some (waN o h.wb x):=K;obtain⟨A,k,F⟩:=wa_f R hT;cases E:x.done with
 |true=>
  have Fd:=F.f2;rw[E]at Fd;simp only[F197,ptr,ae,ac,fa_290_2,aB,Fd,zS];rw[ir,bX E];exact⟨by first|rfl|trivial,T,Gx.refl R,H,K⟩
 |false=>
 have Fd:=F.f2;rw[E]at Fd;have on:=W.n E;have om:=W.m;have b2:=N.b2;obtain⟨y,hy,X,y0,y1⟩:=W.l.at (i:=x.l.length-1) dy;have a6:y<cC c:=y1;obtain⟨q,f,iq,lq,p,rfl,rfl⟩:=rd_intp F.rd hy k;have ey:y=((y.toNat:Nat):Int):=dy;have Y:ao (hp w p.block) f=some (bS ((y.toNat:Nat):Int)):=by rw[<- ey];exact lq
 have G:kb≠h.mb:=H.tD hT V;have da:DM T h kb=False:=dn H hT G;have dw:DM T h h.wb=False:=dn H H.wT (by obtain⟨n,Z⟩:=H.mT;exact aA H.wT Z dz);have dp:DM T h p.block=False:=by
  have hp:=F.ot p.block rfl;simp only[DM,eq_iff_iff,iff_false,not_or];refine⟨λQ=>?_,λQ=>?_⟩
  ·obtain⟨n,Z⟩:=H.mT;rw[Q,Z]at hp;cases hp
  ·rw[hp]at Q;cases Q
 have cd:=(ad.refl [] w).drew;obtain⟨k6,k2,k7,_⟩:=m9 R H;have e2:((x.l.length:Int)-1)=((x.l.length-1:Nat):Int):=dy;simp(disch:=omega) only[F197,ptr,ae,ac,fa_290_0,se,fa_290_2,bR,fq,rP,aB,ag,gp,bD,mj,aH,Fd,F.f0,F.f1,k6,k7,zS,aK,aZ,e2,ap,iq,Y,p9,da,dw,dp,not_false_eq_true,true_and,m8 (w:=w.drew) (R.aw cd) H];refine(c_Link N (i:=y.toNat) dy).mono ?_;rintro _ w1 ⟨rfl,c1⟩;refine⟨bJ c1,?_⟩;have I:=cd.trans c1;refine(je (a:=aLk c y.toNat) (R.aw I) H (M.lk dy)).mono ?_;rintro _ w2 ⟨rfl,a1,T2,S,J⟩;refine⟨lR (a1.mono λk hk=> .inl hk),?_⟩;refine(c_Below S.rel J.pT (by show cC c<=1000000;omega) (iF M.u _)).step ?_;refine⟨bJ (ad.refl _ _),?_⟩;have b:=S.off kb _ hT G;have L:Gx (SM h T o [290]) w T w2 T2:=(Gx.bV R I).trans (SM.mem S);have B:=S.rel;obtain⟨A2,a7,C⟩:=wa_f B b;obtain⟨_,_,_⟩:=m9 B J;have O:ao (hp w2 h.wb) (0+0+1)=some (bS c.2.1):=by rw[B.kW J.wT];rfl
 have e0:ir c m x=(if gJ (bP c) (di m (aLk c y.toNat))<0\/x.l.length=cC c then{x with done:=true}else{x with l:=x.l++ [gJ (bP c) (di m (aLk c y.toNat))]}):=by rw[ir,bY (by rw[E];decide),X]
 have one:∀{w w':World} {T T':dN} {cs:List fQ},T kb=some (.st o 290 cs)->Gx (λq=>q=kb) w T w' T'->Gx (SM h T o [290]) w T w' T':=λhT g=>SO.toM (SO.one (es:= [290]) hT dz g) dz;generalize a8:gJ (bP c) (di m (aLk c y.toNat))=d at*;have j:=(ad.refl [] w2).drew;have t:(d<0\/x.l.length=cC c)->dE prog (Instr.storeAt 4 (.pointer (some ⟨kb,0+2,none⟩)) (.bool true)) w2.drew λw'=>P197_0 w' λv w'=>v= .bool true/\∃T',Gx (SM h T o [290]) w T w' T'/\dM T' h c m/\WaR T' o kb h (ir c m x):=λhq=>by
  have e:=C.aw j;rw[st_4 (o:=0+2) rfl rfl (wa_ok e.hb dy),e.hb,ay,ar,waA_2];apply L197_0_ok;rw[e0,bX hq];have g3:=e.put (B.aw j) b true;exact⟨rfl,_,SM.then L ((Gx.bV B j).trans (one b g3)) (λ_ h=>h),J.cL g3 b V,ax⟩
 have n2:=N.n2;by_cases r:d<0
 ·simp only[ac,zS,r];exact t (.inl r)
 ·by_cases P:x.l.length=cC c
  ·have hb:((x.l.length:Int)==c.2.1)=true:=by rw[n2,P];exact beq_self_eq_true _
   simp only[ptr,ae,ac,zS,r,fa_290_0,se,bR,jK,aH,ag,gp,aK,C.f0,C.f1,O,hb];exact t (.inr P)
  ·have hb:((x.l.length:Int)==c.2.1)=false:=cN dy;rw[bY dy]at e0;simp only[ptr,ae,ac,zS,r,fa_290_0,se,bR,jK,aH,ag,gp,aK,C.f0,C.f1,O,hb];have e:=C.aw j;have a2:=B.aw j;refine ps_22 (by simp) e.own dy (cX _) λU w5 o5 a3 a4=>?_;obtain⟨s,T5,a5,g5⟩:=e.grow a2 b {x with l:=x.l++ [d]} (lv:=U) (jF a3) a4 (by simpa [ints]using o5);have H5:=J.cL g5 b V;have s:=s.trans e.hb;have z:U.cells= #[U]/\U.oneCell'=true:=by obtain⟨A',k',rfl,_⟩:=aG o5;exact⟨rfl,rfl⟩
   try simp only[ptr,ae,ac,se]
   rw[sj (o:=0+1) z.1 z.2 (wa_ok s dy),s,ay,ar,waA_1];apply L197_0_ok;rw[e0];exact⟨rfl,T5,SM.then L ((Gx.bV B j).trans (one b g5)) (λ_ h=>h),H5,a5⟩
end
section
variable{w w0 w1 w2 w':World}{T T1 T2 T':dN}{h:Hm}{c:cP}{m m':bI}{o o' b sb lb k ab tb q kb fb:Nat}{es es':List TypeId}{su:lO}
theorem wa_plain{A:Option Addr}{wb:Nat}{x:WaV}(R:Rel w T)(hT:T kb=some (waN o wb x))(F:WaF w T kb wb x A k):∃T0:dN,Rel w T0/\
  T0 kb=some (.st o 290 ((waL wb x (.slice A x.l.length k)).map fQ.v))/\
  (∀ q,(Value.slice A x.l.length k).ownBlock=some q->∃vs:List Value,T0 q=some (.st 0 3 (vs.map fQ.v))/\vs.take x.l.length=ints x.l)/\
  ∀q,q≠kb->(Value.slice A x.l.length k).ownBlock≠some q->T0 q=T q:=by
 rcases F.own.2 with⟨e,U⟩|⟨g,L,m,e,_,M,O,_,P,G⟩
 ·obtain rfl:A=none:=by injection e
  refine⟨iz T kb (.st o 290 ((waL wb x (.slice none x.l.length k)).map fQ.v)),⟨λy o' Q H a=>?_,λy S a=>?_⟩,ax,λq t=>(by cases t),λq t _=>aD t⟩
  ·by_cases b:y=kb
   ·subst b;rw[ax]at a;cases a;exact⟨_,F.hb,by rw[List.length_map];rfl,λj c v d f=>cells_v j c v d f⟩
   ·rw[aD b]at a;obtain⟨us,N⟩:=R.node y _ _ _ a;refine⟨us,N.hb,N.len,λj c v d f=>?_⟩;have s:=N.each j c v d f;cases c with
    |v u=>exact s
    |gr e' z n us=>exact⟨s.1,λp hp=>by rw[aD (lP hT (s.2 p hp))];exact s.2 p hp⟩
  ·by_cases b:y=kb
   ·subst b;exact R.lt y _ hT
   ·rw[aD b]at a;exact R.lt y _ a
 ·cases e;have B:T g=some (.own kb 1):=F.ot g rfl;have I:g≠kb:=lP hT B;let T1:dN:=iz (iz T kb (.st o 290 ((waL wb x (.slice (some ⟨g,0,none⟩) x.l.length k)).map fQ.v))) g (.st 0 3 (m.toList.map fQ.v))
  have C:T1 kb=some (.st o 290 ((waL wb x (.slice (some ⟨g,0,none⟩) x.l.length k)).map fQ.v)):=by
   show iz _ _ _ kb=_;rw[aD (Ne.symm I),ax]
  have D:T1 g=some (.st 0 3 (m.toList.map fQ.v)):=ax;have r:∀q,q≠kb->q≠g->T1 q=T q:=λq d f=>by
   show iz _ _ _ q=_;rw[aD f,aD d]
  refine⟨T1,⟨λy o' Q H a=>?_,λy S a=>?_⟩,C,λq t=>?_,λq t J=>r q t λK=>J (by rw[K];rfl)⟩
  ·by_cases b:y=kb
   ·subst b;rw[C]at a;cases a;exact⟨_,F.hb,by rw[List.length_map];rfl,λj c v d f=>cells_v j c v d f⟩
   ·by_cases i:y=g
    ·subst i;rw[D]at a;cases a;exact⟨m.toList,by rw[Array.toArray_toList];exact M,by simp,λj c v d f=>cells_v j c v d f⟩
    ·rw[r y b i]at a;obtain⟨us,N⟩:=R.node y _ _ _ a;refine⟨us,N.hb,N.len,λj c v d f=>?_⟩;have s:=N.each j c v d f;cases c with
     |v u=>exact s
     |gr e' z n us=>
      refine⟨s.1,λp hp=>?_⟩;have E:=s.2 p hp;rw[r p (lP hT E) λK=>by rw[K,B]at E;cases E;exact b rfl];exact E
  ·by_cases b:y=kb
   ·subst b;exact R.lt y _ hT
   ·by_cases i:y=g
    ·subst i;exact R.lt y _ B
    ·rw[r y b i]at a;exact R.lt y _ a
  ·cases t;exact⟨m.toList,D,by simpa using G⟩
theorem c_RetireW{A:Option Addr}{wb:Nat}{x:WaV}(R:Rel w T)(U:fX w T o b sb lb h c su)(O:rn su)(tag:Int)(hT:T kb=some (waN o' wb x))(F:WaF w T kb wb x A k)(hl:x.l.length<=100000):
  aa prog 198 [ptr b,bS tag,.slice A x.l.length k] w λv w'=>∃T',Gx (SO T o suT) w T w' T'/\fX w' T' o b sb lb h c (oC su tag x.l):=by
 obtain⟨T0,R0,J,E,K⟩:=wa_plain R hT F;have B:∀q,q=kb\/(Value.slice A x.l.length k).ownBlock=some q->T q≠none/\∃(o:Nat) (e:TypeId) (vs:List Value),T0 q=some (.st o e (vs.map fQ.v))/\e∉suT/\e≠215:=by
  rintro q (rfl|hq)
  ·exact⟨by rw[hT];simp,_,_,_,J,dz,dz⟩
  ·obtain⟨vs,f,_⟩:=E q hq;exact⟨by rw[F.ot q hq];simp,_,_,_,f,dz,dz⟩
 have i:∀q,¬(q=kb\/(Value.slice A x.l.length k).ownBlock=some q)->T0 q=T q:=λq hq=>K q (λe=>hq (.inl e)) (λe=>hq (.inr e));have L:∀q o e cs,T q=some (.st o e cs)->e=215\/e=258\/e=262->T0 q=some (.st o e cs):=λq s e cs hq M=>by
  rw[i q ?_];·exact hq
  rintro(rfl|hh)
  ·rw[hT]at hq;cases hq;revert M;decide
  ·rw[F.ot q hh]at hq;cases hq
 have U0:fX w T0 o b sb lb h c su:=U.agree (λq hq=>by
  rw[i q λhh=>(B q hh).1 hq];exact hq) L
 have hx:SlX (λq=>q=lb) w T0 (.slice A x.l.length k) x.l:=by
  refine⟨A,k,rfl,λw' T' g=>?_⟩;cases A with
  |none=>
   have P:ints x.l= []:=by
    rcases F.own.2 with⟨_,P⟩|⟨g,Q,S,e,_⟩
    ·rw[List.length_eq_zero_iff.1 P];rfl
    ·cases e
   rw[P];exact ed.nil _ _
  |some p=>
   rcases F.own.2 with⟨e,_⟩|⟨g',Q,S,e,_,hg,a3,_,a4,a5⟩
   ·cases e
   ·cases e;obtain⟨vs,f,C⟩:=E g' rfl;obtain⟨_,V,_⟩:=U0.l;have r:=g.off g' _ f (aA f V dz);have D:=g.rel.kW r;intro j u G;refine⟨_,rfl,?_⟩;rw[eR,gi,D,aN];have t:(vs.take x.l.length)[j]? =some u:=by rw[C];exact G
    have W:=(ce.1 t).1;rw[List.length_take]at W;rw[List.getElem?_take_of_lt dy]at t;simpa using t
 refine(c_SuRetire R0 U0 O tag hx hl).mono ?_;rintro v w1 ⟨T1,Y,U1⟩;have Z:∀q,q=kb\/(Value.slice A x.l.length k).ownBlock=some q->¬SO T0 o suT q:=λq hq=>by
  obtain⟨_,s,H,d,f,C,_⟩:=B q hq;exact SO.un f (.inr C)
 obtain⟨T',g,tn,ty⟩:=Gx.plain (X:=λq=>q=kb\/(Value.slice A x.l.length k).ownBlock=some q) R R0 (λq hq=>by obtain⟨a,s,H,d,f,_⟩:=B q hq;exact⟨a,s,H,d,f⟩) i (λy s H a6 d j v e' z n us p hy m I G hv hp=>by
  rcases hy with rfl|hy
  ·rw[hT]at m;cases m;rw[F.hb]at I;have a1:d=waL wb x (.slice A x.l.length k):=by
    have:(waA wb (.slice A x.l.length k) x.done)=d.toArray:=by cases I;rfl
    rw[waL,this]
   subst a1;have a2:=(ce.1 G).1;have h7:j=0\/j=1\/j=2:=by simp[waC]at a2;omega
   rcases h7 with rfl|rfl|rfl
   ·cases G
   ·cases hv;exact .inr hp
   ·cases G
  ·rw[F.ot y hy]at m;cases m) Y Z
 refine⟨T',g.mono λq ⟨e,cs,f,C⟩=>⟨e,cs,?_,C⟩,U1.agree (λq hq=>?_) λq s e cs hq M=>?_⟩
 ·rw[<- i q λhh=>by obtain⟨_,s,H,d,r,D,_⟩:=B q hh;rw[f]at r;cases r;exact D C];exact f
 ·rw[tn q λhh=>by obtain⟨_,s,H,d,r,_⟩:=B q hh;rw[Y.off q _ r (Z q hh)]at hq;cases hq];exact hq
 ·rw[tn q λhh=>by
   obtain⟨_,o2,e2,vs2,r,D,h5⟩:=B q hh;rw[Y.off q _ r (Z q hh)]at hq;cases hq;rcases M with rfl|rfl|rfl
   ·exact h5 rfl
   ·exact D dz
   ·exact D dz]
  exact hq
end
end Go.Proofs.YtnpflajdbchghaaGreat
