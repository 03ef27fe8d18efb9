/- Good primes and their generators in the program and in the reference; rows of truth values; equality of elements. -/
import Derived.Test.YthkklilhjnpedaaGreatDoorUShelf
import Derived.Test.YthkklilhjnpedaaGreatDoorUOas
import Derived.Laws.CopyOwn
import Derived.Test.YthkklilhjnpedaaGreatDoorUQn0
import Derived.Test.YthkklilhjnpedaaGreatDoorUGch
import Derived.Test.YthkklilhjnpedaaGreatDoorUQa0
import Derived.Test.YthkklilhjnpedaaGreatDoorUSym0
import Derived.ChangeKeysEq
set_option maxHeartbeats 16000000
set_option maxRecDepth 8000
namespace Go.Proofs.YthkklilhjnpedaaGreatDoor
section
open Go.RowKit FF
attribute [local go_sem] Oper.semAt_some
def ZZ(c:Int)(k N:Nat):List Value:=List.replicate k (.int .i64 c)++List.replicate (N-k) (.int .i64 0)
theorem Zi2{c:Int}{k N:Nat}(h:k≤N):(ZZ c k N).length=N:=by simp[ZZ];omega
theorem Zhj(c:Int)(N:Nat):madeCells #[.int .i64 0] N=(ZZ c 0 N).toArray:=by
 have h:=UO (z:=#[.int .i64 0]) (by decide) N (0:Int)
 rw[show N*(#[Value.int .i64 0]:Array Value).size=N from Nat.mul_one N]at h
 apply Array.ext'
 rw[h]
 have:∀ n,Zk (List.replicate n ((0:Int),(#[Value.int .i64 0]:Array Value).toList))=List.replicate n (.int .i64 0):=by
  intro n
  induction n with
  | zero=>rfl
  | succ n ih=>rw[List.replicate_succ,List.replicate_succ,← ih];rfl
 rw[this]
 simp[ZZ]
theorem Zi3{c:Int}{k N j:Nat}(h:j<k):(ZZ c k N)[j]?=some (.int .i64 c):=by
 unfold ZZ
 rw[List.getElem?_append_left (by simpa using h)]
 simp[h]
theorem ZeL{c:Int}{k m N:Nat}(_h:k+m≤N):(ZZ c k N).take k++List.replicate m (.int .i64 c)++(ZZ c k N).drop (k+m)=ZZ c (k+m) N:=by
 unfold ZZ
 have e1:(List.replicate k (Value.int .i64 c)++List.replicate (N-k) (Value.int .i64 0)).take k=List.replicate k (.int .i64 c):=List.take_left' (by simp)
 have e2:(List.replicate k (Value.int .i64 c)++List.replicate (N-k) (Value.int .i64 0)).drop (k+m)=List.replicate (N-(k+m)) (.int .i64 0):=by
  rw[List.drop_append]
  simp
  omega
 rw[e1,e2,List.replicate_append_replicate]
theorem ZeM{c:Int}{k m N g cp cp2:Nat}{W:World}{ad:Addr}{n:Nat}(ty:TypeId)(hg:W.heap[g]?=some (.cells (ZZ c k N).toArray 3 (0,0)))(hm:m=min n (N-k))(hkN:k≤N)(hsrc:∀ j,j<m→W.cell? (ad.add j)=some (.int .i64 c)) :
  (Builtin.copy_ #[40,40] ty #[.slice (some ⟨g,k,none⟩) (N-k) cp,.slice (some ad) n cp2]).run Tryz.prog W=.ok (.int .i64 (m:Int)) (W.setRow g (ZZ c (k+m) N).toArray):=by
 obtain⟨i0,hi0,hz0,hz1,hz2⟩:=info_parts ZM
 have hle:k+m≤N:=by omega
 have h:=run_copy_row (P:=Tryz.prog) W 40 40 ty 3 g k (N-k) cp ad n cp2 _ 3 (List.replicate m (.int .i64 c)) Tryz.underlying40 (by rw[hi0,Option.map_some,hz1]) hg (by rw[List.length_replicate,hm])
  (fun j v hj => by
   have hj':=(List.getElem?_eq_some_iff.1 hj).1
   rw[List.length_replicate]at hj'
   rw[hsrc j hj']
   rw[List.getElem?_replicate,if_pos hj']at hj
   exact hj) (by rw[List.length_replicate,List.size_toArray,Zi2 hkN];exact hle) (fun v hv=>by rw[(List.mem_replicate.1 hv).2];rfl)
 rw[h,List.length_replicate,ZeL hle]
 rfl
theorem Zi4{c:Int}{k N g j:Nat}{W:World}(hg:W.heap[g]?=some (.cells (ZZ c k N).toArray 3 (0,0)))(hj:j<k):W.cell? ⟨g,j,none⟩=some (.int .i64 c):=by
 have:=Zi3 (N:=N) (c:=c) hj
 simp only[World.cell?,hg]
 rw[if_neg (by simp),List.getElem?_toArray,this]
theorem ZaM{W:World}{g:Nat}{cur:Array Value}{T:TypeId}(hg:W.heap[g]?=some (.cells cur T (0,0)))(new:Array Value):(W.setRow g new).heap[g]?=some (.cells new T (0,0)):=setRow_heap W g cur new T _ hg
theorem Yl.sliceV{P:Program}{a:Act}{W:World}{o:Oper}{T:TypeId}{x:Operand}{lo hi:Option Operand}{v u:Value}{l h:Option Value}(ho:o.op=.slice T x lo hi none)(hx:a.eval x=v)(hl:lo.map a.eval=l)(hh:hi.map a.eval=h)
  (hr:(Instr.sliceAt T v l h none).run P W=.ok u W):Yl P o a W (VC u):=
 .instr (s:=Instr.sliceAt T v l h none) (by simp only[execOp,ho,hx,hl,hh,Option.map_none]) hr rfl
theorem Zhk{N k g:Nat}(hk:k<N)(W:World):(Instr.sliceAt 40 (.slice (some ⟨g,0,none⟩) N N) (some (.int .i64 (k:Int))) none none).run Tryz.prog W=.ok (.slice (some ⟨g,k,none⟩) (N-k) (N-k)) W:=by
 obtain⟨i0,hi0,hz0,hz1,hz2⟩:=info_parts ZM
 have e1:(asIntOf (Value.int IntKind.i64 (k:Int))).run Tryz.prog W=.ok (.i64,(k:Int)) W:=rfl
 have hk':(k:Int)≤(N:Int):=by omega
 have hne:¬ N=k:=by omega
 simp[Instr.sliceAt,Instr.slice,Instr.sliceBounds,Instr.sliceBound,run_underlying Tryz.underlying40,sizeOf,typeInfo,hi0,hz1,e1,hk',Result.andThen,hne,Addr.add_lit]
theorem Zhl{N k g:Nat}(hk:k<N)(W:World):(Instr.sliceAt 40 (.slice (some ⟨g,0,none⟩) N N) none (some (.int .i64 (k:Int))) none).run Tryz.prog W=.ok (.slice (some ⟨g,0,none⟩) k N) W:=by
 obtain⟨i0,hi0,-⟩:=info_parts ZM
 have e1:(asIntOf (Value.int IntKind.i64 (k:Int))).run Tryz.prog W=.ok (.i64,(k:Int)) W:=rfl
 have hk':(k:Int)≤(N:Int):=by omega
 simp[Instr.sliceAt,Instr.slice,Instr.sliceBounds,Instr.sliceBound,run_underlying Tryz.underlying40,sizeOf,typeInfo,hi0,e1,hk',Result.andThen]
 intro _;rw[Addr.add_lit]
def exR(w1:World)(g:Nat)(c:Int)(k N:Nat):Nat→World→Prop
 | 0,W=>W.heap[g]?=some (.cells (ZZ c k N).toArray 3 (0,0))∧Below w1.heap.size w1 W
 | _,W=>W.heap[g]?=some (.cells (ZZ c (k+min k (N-k)) N).toArray 3 (0,0))∧Below w1.heap.size w1 W
theorem exR.z{w1 W:World}{g k N:Nat}{c:Int}(h:exR w1 g c k N 0 W):W.heap[g]?=some (.cells (ZZ c k N).toArray 3 (0,0))∧Below w1.heap.size w1 W:=h
theorem exR.o{w1 W:World}{g k N:Nat}{c:Int}(h:exR w1 g c k N 1 W):W.heap[g]?=some (.cells (ZZ c (k+min k (N-k)) N).toArray 3 (0,0))∧Below w1.heap.size w1 W:=h
theorem exR.keep{w1:World}{g k N:Nat}{c:Int}:∀ j,Keeps (fun _=>exR w1 g c k N j)
 | 0,_,_,_,⟨h1,h2⟩,hb=>⟨(hb.block g (Array.getElem?_eq_some_iff.1 h1).1).trans h1,h2.trans (hb.mono h2.size)⟩
 | _+1,_,_,_,⟨h1,h2⟩,hb=>⟨(hb.block g (Array.getElem?_eq_some_iff.1 h1).1).trans h1,h2.trans (hb.mono h2.size)⟩
theorem exR.done{w1 W:World}{g k N:Nat}{c:Int}(h:exR w1 g c k N 0 W)(hg:w1.heap.size≤g):exR w1 g c k N 1 (W.setRow g (ZZ c (k+min k (N-k)) N).toArray):=⟨ZaM h.1 _,below_setRow h.2 hg _⟩
theorem Ye.run{P:Program}{o:Oper}{a:Act}{W W':World}{q:Value→World→Prop}{x z:Operand}{t t':TypeId}{v u v':Value}(hr:(Builtin.copy_ #[t,t'] o.type #[v,u]).run P W=.ok v' W')(ho:o.op=.call { callee:=.builtin .copy,args:=#[x,z],argTypes:=#[t,t'] })(hx:a.eval x=v)(hz:a.eval z=u)(hq:q v' W'):Ye P o a W q:=by
 refine⟨fun K Q' hK=>?_⟩
 unfold Oper.wp execOp
 simp only[ho,resolve,invoke,builtin,Sem.run_bind,Sem.run_pure,Result.andThen_ok,List.map_toArray,List.map_cons,List.map_nil,hx,hz,hr]
 exact hK _ _ hq
theorem Zhm{b N:Nat}{c:Int}(h1:1≤N)(hN:N≤100000)(w:World)(hb:b<w.heap.size)(hc:w.cell? ⟨b,0,none⟩=some (.int .i64 c)) :
  Calls Tryz.prog 76 #[.slice (some ⟨b,0,none⟩) 1 1,.int .i64 (N:Int)] w
   (Zb (fun v W=>∃ g,v=.slice (some ⟨g,0,none⟩) N N∧w.heap.size≤g∧W.heap[g]?=some (.cells (List.replicate N (.int .i64 c)).toArray 3 (0,0))) w):=by
 go_enter Tryz.func76,Tryz.ntmps76
 have d0:decide ((N:Int)<0)=false:=deF (by omega)
 have HN1:=lhd h1;have HN:=lhd hN;have HC:=lhd hc;have HBb:=lhd hb
 clear h1 hN hc hb
 have hwr:IntKind.u64.wrap (N:Int)=(N:Int):=by simp[IntKind.wrap,IntKind.bits,IntKind.signed];have:=HN.out;omega
 have hwi:IntKind.i64.wrap (N:Int)=(N:Int):=by simp[IntKind.wrap,IntKind.bits,IntKind.signed];have:=HN.out;omega
 have HMul:=lhd (show Calls Tryz.prog 117 #[.int .u64 1,.int .u64 (N:Int)] w (fun e w'=>e=.returned (.tuple #[.int .u64 0,.int .u64 (N:Int)])∧w'=w) by
  have h:=Tryz.bits_Mul 1 N (by decide) (by have:=HN.out;omega) w
  rw[Nat.one_mul,Nat.div_eq_of_lt (by have:=HN.out;omega),Nat.mod_eq_of_lt (by have:=HN.out;omega)]at h
  exact h)
 have d1:decide ((9223372036854775807:Int)<(N:Int))=false:=deF (by have:=HN.out;omega)
 have hmk:=fun W=>KN 40 Tryz.underlying40 N (by have:=HN.out;omega) W
 go_wp2_with fail
 refine HMul.out.mono ?_
 rintro e w1 ⟨rfl,rfl⟩
 go_upto_region 7 with fail
 have hg0:=heap_alloc_new w1 (.cells (madeCells #[.int .i64 0] N) 3)
 have hA:=(brf w1.heap.size w1).alloc (nlr _) (.cells (madeCells #[.int .i64 0] N) 3)
 obtain⟨WA,hWA⟩:=nmx (w1.alloc (.cells (madeCells #[.int .i64 0] N) 3))
 obtain⟨g,hg⟩:=nmx (w1.heap.size)
 rw[← hWA]at hA hg0 ⊢
 rw[← hg]at hg0 ⊢
 rw[Zhj c N]at hg0
 have HGe:=lhd (show w1.heap.size≤g by omega)
 have hrc:=ZeM 3 (m:=1) (n:=1) (cp:=N) (cp2:=1) (ad:=⟨b,0,none⟩) hg0 (by have:=HN1.out;omega) (Nat.zero_le _) (fun j hj=>by
  obtain rfl:j=0:=by omega
  rw[Addr.add_lit,Nat.zero_add]
  exact(hA.cell (p:=⟨b,0,none⟩) HBb.out).trans HC.out)
 have hr1:(WA.setRow g (ZZ c (0+1) N).toArray).heap[g]?=some (.cells (ZZ c 1 N).toArray 3 (0,0)):=ZaM hg0 _
 have hb1:=below_setRow hA HGe.out (ZZ c (0+1) N).toArray
 obtain⟨WB,hWB⟩:=nmx (WA.setRow g (ZZ c (0+1) N).toArray)
 rw[← hWB]at hrc hr1 hb1
 rw[show N-0=N from Nat.sub_zero N]at hrc
 have HR1:=lhd hr1;have HB1:=lhd hb1
 clear hg0 hA hWA hg hr1 hb1 hWB hmk HMul
 go_wp2_with (at_builtin;refine Lib.wpList_copy_run _ rfl _ _ 40 40 rfl _ _ rfl rfl hrc ?_)
 clear hrc
 go_loopw [8] (fun s8 wr=>∃ k:Nat,s8=.int .i64 k∧1≤k∧k≤N∧wr.heap[g]?=some (.cells (ZZ c k N).toArray 3 (0,0))∧Below w1.heap.size w1 wr) (fun s8 _=>N-(intOf s8).toNat)
 case atStart=>exact⟨1,rfl,nlr _,HN1.out,HR1.out,HB1.out⟩
 case round =>
  obtain⟨k,rfl,hk1,hkN,hf,hbl⟩:=hrel
  have HF:=lhd hf;have HBl:=lhd hbl;have HK1:=lhd hk1
  clear hf hbl hk1
  rcases Nat.lt_or_ge k N with hlt | hge
  ·have dk:=deT (p:=(k:Int)<(N:Int)) (by omega)
   have HKlt:=lhd hlt
   clear hkN hlt
   go_wp2_with fail
   refine YD [7] [1,0,0,0,0,0,0,0,1,1] [(0,38,VC (.int .i64 (k:Int))),(1,39,VC (.slice (some ⟨g,0,none⟩) N N)),(2,40,VC (.int .i64 (k:Int))),(3,41,VC (.slice (some ⟨g,k,none⟩) (N-k) (N-k))),(4,42,VC (.slice (some ⟨g,0,none⟩) N N)),(5,43,VC (.int .i64 (k:Int))),(6,44,VC (.slice (some ⟨g,0,none⟩) k N)),(7,45,VC (.int .i64 ((min k (N-k):Nat):Int))),(8,46,VC (.int .i64 ((k+min k (N-k):Nat):Int))),(9,8,VC (.int .i64 ((k+min k (N-k):Nat):Int)))] (exR w1 g c k N) [38,39,40,41,42,43,44,45,46,8] (by kernel_rfl) (by kernel_rfl) (by kernel_rfl) (by kernel_rfl) (by kernel_rfl) (by decide) ⟨kv,kv,kv,kv,kv,kv,kv,kv,kv,kv,trivial⟩ exR.keep ⟨HF.out,HBl.out⟩ (Zl ⟨?_,?_,?_,?_,?_,?_,?_,?_,?_,?_,trivial⟩) (by kernel_rfl) ?_
   ·exact .yld rfl rfl rfl fun y W k hk hE hV hU=>.move rfl (KA (by kernel_rfl) (hU 8 (by kernel_rfl)) (by kernel_rfl)) rfl
   ·exact .yld rfl rfl rfl fun y W k hk hE hV hU=>.move rfl (fou (v:=.slice (some ⟨g,0,none⟩) N N)) rfl
   ·exact .yld rfl rfl rfl fun y W k hk hE hV hU=>.move rfl (KA (by kernel_rfl) (hU 8 (by kernel_rfl)) (by kernel_rfl)) rfl
   ·exact .yld rfl rfl rfl fun y W k hk hE hV hU=>Yl.sliceV rfl (fgt hV 1 rfl) (congrArg some (fgt hV 2 rfl)) rfl (Zhk HKlt.out W)
   ·exact .yld rfl rfl rfl fun y W k hk hE hV hU=>.move rfl (fou (v:=.slice (some ⟨g,0,none⟩) N N)) rfl
   ·exact .yld rfl rfl rfl fun y W k hk hE hV hU=>.move rfl (KA (by kernel_rfl) (hU 8 (by kernel_rfl)) (by kernel_rfl)) rfl
   ·exact .yld rfl rfl rfl fun y W k hk hE hV hU=>Yl.sliceV rfl (fgt hV 4 rfl) rfl (congrArg some (fgt hV 5 rfl)) (Zhl HKlt.out W)
   ·exact .chg 0 rfl rfl rfl fun y W hE hV hU=>Ye.run (ZeM _ (exR.z hE).1 rfl (Nat.le_of_lt HKlt.out) (fun j hj=>by rw[Addr.add_lit,Nat.zero_add];exact Zi4 (exR.z hE).1 (by omega))) rfl (fgt hV 3 rfl) (fgt hV 6 rfl) ⟨exR.done hE HGe.out,rfl,⟨.inr fun _ h=>h,.inr fun _ h=>h,.inr fun _ h=>h,.inr fun _ h=>h,.inr fun _ h=>h,.inr fun _ h=>h,.inr fun _ h=>h,.inl rfl,.inr fun _ h=>h,.inr fun _ h=>h,trivial⟩⟩
   ·exact .yld rfl rfl rfl fun y W k hk hE hV hU=>Yl.addN rfl (fgt hV 0 rfl) (fgt hV 7 rfl) (by have:=HN.out;have:=HKlt.out;omega)
   ·exact .yld rfl rfl rfl fun y W k hk hE hV hU=>.assign rfl (fgt hV 8 rfl) rfl
   intro y W9 hE9 hV9
   have e8:y 8=_:=hend hV9 9 rfl
   generalize hact:fr _ _ y=act
   simp only[fr,Zf,fC0,fN0,sA0,sZ0,sS0,e8]at hact
   subst hact
   have HE9:=lhd (exR.o hE9)
   clear e8 hE9 hV9
   go_wp2_with fail
   refine⟨⟨k+min k (N-k),rfl,by have:=HK1.out;omega,by have:=HKlt.out;omega,HE9.out.1,HE9.out.2⟩,?_⟩
   have:=HKlt.out;have:=HK1.out
   simp only[intOf]
   omega
  ·obtain rfl:k=N:=by omega
   have dk:=deF (p:=(k:Int)<(k:Int)) (by omega)
   have hfin:=HF.out
   have e0:ZZ c k k=List.replicate k (.int .i64 c):=by simp[ZZ]
   rw[e0]at hfin
   have HFin:=lhd hfin
   clear hfin e0 hge hkN
   go_wp2_with fail
   go_ret
   exact⟨_,rfl,⟨g,rfl,HGe.out,HFin.out⟩,HBl.out⟩
end
end Go.Proofs.YthkklilhjnpedaaGreatDoor
section
namespace FF
structure Hw where
 a:Int
 b:Int
 c:Int
 d:Int
instance:DecidableEq Hw:=fun x y=>if h:x.a=y.a∧x.b=y.b∧x.c=y.c∧x.d=y.d then isTrue (by cases x;cases y;simp_all) else isFalse (fun e=>h (by subst e;exact⟨rfl,rfl,rfl,rfl⟩))
instance:DecidableEq Qt:=fun x y=>if h:x.w=y.w∧x.x=y.x∧x.y=y.y∧x.z=y.z∧x.d=y.d then isTrue (by cases x;cases y;simp_all) else isFalse (fun e=>h (by subst e;exact⟨rfl,rfl,rfl,rfl,rfl⟩))
def qtm(x y:Hw):Hw:=⟨x.a*y.a-x.b*y.b-x.c*y.c-x.d*y.d,x.a*y.b+x.b*y.a+x.c*y.d-x.d*y.c,x.a*y.c+x.c*y.a+x.d*y.b-x.b*y.d,x.a*y.d+x.d*y.a+x.b*y.c-x.c*y.b⟩
def hsum(x:Hw):Int:=x.a*x.a+x.b*x.b+x.c*x.c+x.d*x.d
def upto(lo:Int)(n:Nat):List Int:=(List.range n).map fun (i:Nat)=>lo+(i:Int)
theorem Zi5(lo:Int)(n:Nat):upto lo (n+1)=upto lo n++[lo+n]:=by simp[upto,List.range_succ]
def sqUp(step r:Int):Nat→Int→Int
 | 0,z=>z
 | k+1,z=>if z*z<r then sqUp step r k (z+step) else z
theorem Zi6{s r z:Int}{k:Nat}(h:z*z<r):sqUp s r (k+1) z=sqUp s r k (z+s):=by rw[sqUp,if_pos h]
theorem Zi7{s r z:Int}{k:Nat}(h:¬ z*z<r):sqUp s r k z=z:=by
 cases k with
 | zero=>rfl
 | succ k=>rw[sqUp,if_neg h]
def YW(p w x y:Int):List Hw:=
 if y.tmod 2≠0∨p<w*w+x*x+y*y then [] else
 if (sqUp 2 (p-w*w-x*x-y*y) 1000 0)*(sqUp 2 (p-w*w-x*x-y*y) 1000 0)≠p-w*w-x*x-y*y then [] else
 (if 0<sqUp 2 (p-w*w-x*x-y*y) 1000 0 then [⟨w,x,y,-(sqUp 2 (p-w*w-x*x-y*y) 1000 0)⟩] else [])++[⟨w,x,y,sqUp 2 (p-w*w-x*x-y*y) 1000 0⟩]
def genX(p w x:Int):List Hw:=if x.tmod 2≠0∨p<w*w+x*x then [] else (upto (-p) (2*p+1).toNat).flatMap (YW p w x)
def genW(p w:Int):List Hw:=(upto (-p) (2*p+1).toNat).flatMap (genX p w)
def genF(p:Int):Nat→Int→List Hw
 | 0,_=>[]
 | k+1,w=>if w*w≤p then genW p w++genF p k (w+2) else []
def genL(p:Int):List Hw:=genF p 100 1
def g1(x:Hw):Qt:=⟨x.a,x.b,x.c,x.d,1⟩
end FF
end
namespace Go.Proofs.YthkklilhjnpedaaGreatDoor
section
open Go.RowKit FF
def hcs(x:Hw):List Value:=[.int .i64 x.a,.int .i64 x.b,.int .i64 x.c,.int .i64 x.d]
def qcs(x:Qt):List Value:=[.int .i64 x.w,.int .i64 x.x,.int .i64 x.y,.int .i64 x.z,.int .i64 x.d]
def eQt:El Qt where
 T:=37
 n:=5
 bytes:=40
 z:=.agg #[.int .i64 0,.int .i64 0,.int .i64 0,.int .i64 0,.int .i64 0]
 E:=fun x cs _=>cs=qcs x
 Bad:=fun _=>False
 pos:=by decide
 small:=by decide
 zn:=rfl
 zg:=fun _ _ h=>h
 len:=by rintro x cs W rfl;rfl
 one:=by
  rintro x cs W rfl y hy
  simp only[qcs,List.mem_cons,List.not_mem_nil,or_false]at hy
  rcases hy with rfl | rfl | rfl | rfl | rfl <;> exact⟨rfl,fun h=>h⟩
 alt:=fun h _ _=>h
theorem ZcM:(Tryz.prog.info? 37).map (fun i=>(i.zero,i.size,i.bytes))=some (some (.agg #[.int .i64 0,.int .i64 0,.int .i64 0,.int .i64 0,.int .i64 0]),5,40):=by kernel_rfl
theorem qcs_new(y:Qt)(W:World)(T:TypeId):∀ d u,(qcs y)[d]?=some u→(W.alloc (.cells #[.int .i64 y.w,.int .i64 y.x,.int .i64 y.y,.int .i64 y.z,.int .i64 y.d] T)).cell? ((⟨W.heap.size,0,none⟩:Addr).add d)=some u:=fun d u hd=>by
 rw[Addr.add_lit,Nat.zero_add,Xs]
 rw[← hd]
 rcases d with _ | _ | _ | _ | _ | d <;> rfl
section
variable {ops:Array Oper}{rest:List Oper}{o:Oper}{a:Act}{Q:Exit→Act→World→Prop}{w W:World}{v:Value}
theorem ZaN{rs:List (Qt × List Value)}(hgd:o.guard=none)(s x:Operand)(t:TypeId)(ho:o.op=.call { callee:=.builtin .append,args:=#[s,x],argTypes:=#[t,t] })(ht:Tryz.prog.underlying t=some (.slice 37))
  (h:Own eQt w v rs W) (y:Qt) (T:TypeId) (R c:Nat) (hR:W.heap.size=R) (hs:a.eval s=v) (hx:a.eval x=.slice (some ⟨R,0,none⟩) 1 c) (hl:rs.length≤1000000)
  (K:∀ v' W',Own eQt w v' (rs++[(y,qcs y)]) W'→wpList Tryz.prog ops Q rest (a.put o.dst v') W'):wpList Tryz.prog ops Q (o::rest) a (W.alloc (.cells #[.int .i64 y.w,.int .i64 y.x,.int .i64 y.y,.int .i64 y.z,.int .i64 y.d] T)):=by
 subst hR
 obtain⟨i0,hi,hz0,hz1,hz2⟩:=info_parts ZcM
 exact ZB hgd s x t ho i0 ht hi hz0 hz1 hz2 (h.keep ((brf _ _).alloc (nlr _) _)) (y:=y) (cs:=qcs y) rfl _ c hs hx (qcs_new y W T) hl K
end
theorem qt_at{l:List Qt}{A:Option Addr}{n c:Nat}{W:World}(h:Sl eQt l (.slice A n c) W){i:Nat}{z:Qt}(hi:l[i]?=some z):∃ b o,A=some ⟨b,o,none⟩∧b<W.heap.size ∧
  W.cell? ⟨b,o+i*5,none⟩=some (.int .i64 z.w)∧W.cell? ⟨b,o+i*5+1,none⟩=some (.int .i64 z.x)∧W.cell? ⟨b,o+i*5+2,none⟩=some (.int .i64 z.y)∧W.cell? ⟨b,o+i*5+3,none⟩=some (.int .i64 z.z)∧W.cell? ⟨b,o+i*5+4,none⟩=some (.int .i64 z.d):=by
 obtain⟨b,o,cs,e,hb,hE,hc⟩:=Sl.at h hi
 obtain rfl:cs=qcs z:=hE
 exact⟨b,o,e,hb,hc 0 _ rfl,hc 1 _ rfl,hc 2 _ rfl,hc 3 _ rfl,hc 4 _ rfl⟩
theorem KV{f:Int→List Hw}{m:Nat}:∀ {l:List Int},(∀ x∈l,(f x).length≤m)→(l.flatMap f).length≤l.length*m
 | [],_=>by simp
 | x::l,h=>by
  have h1:=h x lm0
  have h2:=KV (f:=f) (m:=m) (l:=l) (fun y hy=>h y (List.mem_cons_of_mem _ hy))
  rw[List.flatMap_cons,List.length_append,List.length_cons,Nat.succ_mul];omega
theorem ZbP(lo:Int)(n:Nat):(upto lo n).length=n:=by simp[upto]
theorem Zi8{α:Type}(f:Int→List α)(lo:Int)(n:Nat):(upto lo (n+1)).flatMap f=(upto lo n).flatMap f++f (lo+n):=by rw[Zi5,List.flatMap_append,List.flatMap_singleton]
theorem sq_lt{z m:Int}(h0:0≤z)(hm:0≤m)(h:z*z<m*m):z<m:=by
 apply bCo
 intro hn
 have:=Int.mul_le_mul (show m≤z by omega) (show m≤z by omega) hm h0
 omega
theorem sqb{z m:Int}(h:-m≤z∧z≤m):0≤z*z∧z*z≤m*m:=⟨by rcases Int.le_total 0 z with h1 | h1;exact Int.mul_nonneg h1 h1;exact Int.mul_nonneg_of_nonpos_of_nonpos h1 h1,(mulb h h).2⟩
theorem Zgv{acc acc2:List Hw}{f:Int→List Hw}{lo:Int}{k B m N:Nat}(h:acc2=acc++(upto lo k).flatMap f)(hf:∀ y,(f y).length≤m)(ha:acc.length≤B)(hk:B+k*m≤N):acc2.length≤N:=by
 rw[h,List.length_append]
 have h3:=KV (f:=f) (m:=m) (l:=upto lo k) (fun y _=>hf y)
 rw[ZbP]at h3
 omega
end
section
open Go.RowKit FF
theorem Zdr(p u x t:Int):(YW p u x t).length≤2:=by
 unfold YW
 split
 ·simp
 ·split
  ·simp
  ·split <;> simp
theorem ZeN(p u x:Int)(h:p≤100):(genX p u x).length≤402:=by
 unfold genX
 split
 ·simp
 ·refine Nat.le_trans (KV (m:=2) (fun t _=>Zdr p u x t)) ?_
  rw[ZbP];omega
theorem genW_len(p u:Int)(h:p≤100):(genW p u).length≤80802:=by
 unfold genW
 refine Nat.le_trans (KV (m:=402) (fun x _=>ZeN p u x h)) ?_
 rw[ZbP];omega
theorem Xj{acc:List Hw}{f:Int→List Hw}{lo:Int}{n:Nat}:(acc++(upto lo (n+1)).flatMap f).map g1=(acc++(upto lo n).flatMap f++f (lo+n)).map g1:=by rw[Zi8,List.append_assoc]
theorem map_len{α:Type}{rs:List (Qt × α)}{l:List Hw}{N:Nat}(h:rs.map (·.1)=l.map g1)(hl:l.length≤N):rs.length≤N:=by
 have h1:=congrArg List.length h
 rw[List.length_map,List.length_map]at h1
 omega
theorem Ky(p:Int)(w:World)(h1:1≤p)(h2:p≤100):Calls Tryz.prog 19 #[.int .i64 p] w (Zb (Sl eQt ((genL p).map g1)) w):=by
 have HG:=lhd (show genL p=genF p 100 1 from rfl)
 generalize genL p=G at *
 go_enter Tryz.func19,Tryz.ntmps19
 go_upto_region 3 with fail
 go_loopw [3,4,5,6,7,8,9,10,11,12,13,14,15,16,17,18,19,20,21,22,23,24,25,26,27,28,29,30,31,32,33,34,35,36,37,38,39,40,41,42,43,44,45,46,47,48,49,50,51,52,53,54,55,56,57,58,59,60,61,62,63,64,65,66,67,68,69,70,71,72,73,74,75,76,77,78,79,80,81,82,83,84,85,86,87,88,89,90,91,92,93,94,95,96,97,98,99,100,101,102,103,104,105] (fun s3 s4 _ _ _ _ _ _ _ _ _ _ _ _ _ _ _ _ _ _ _ _ _ _ _ _ _ _ _ _ _ _ _ _ _ _ _ _ _ _ _ _ _ _ _ _ _ _ _ _ _ _ _ _ _ _ _ _ _ _ _ _ _ _ _ _ _ _ _ _ _ _ _ _ _ _ _ _ _ _ _ _ _ _ _ _ _ _ _ _ _ _ _ _ _ _ _ _ _ _ _ _ _ wr=>∃ (k:Nat) (u:Int) (acc:List Hw) (rs:List (Qt × List Value)),s4=.int .i64 u∧u+2*k=201∧1≤u∧u≤12∧acc++genF p k u=G∧rs.map (·.1)=acc.map g1∧(acc.length:Int)≤40401*(u-1)∧Own eQt w s3 rs wr) (fun _ s4 _ _ _ _ _ _ _ _ _ _ _ _ _ _ _ _ _ _ _ _ _ _ _ _ _ _ _ _ _ _ _ _ _ _ _ _ _ _ _ _ _ _ _ _ _ _ _ _ _ _ _ _ _ _ _ _ _ _ _ _ _ _ _ _ _ _ _ _ _ _ _ _ _ _ _ _ _ _ _ _ _ _ _ _ _ _ _ _ _ _ _ _ _ _ _ _ _ _ _ _ _ _=>(100-(intOf s4).toNat))
 case atStart=>exact⟨100,1,[],[],rfl,by omega,by omega,by omega,HG.out.symm,rfl,by simp,Own.start eQt (Below.refl _ _)⟩
 case round =>
  obtain⟨k,u,acc,rs,rfl,hku,hu1,hu2,hF,hrs,hal,hO⟩:=hrel
  have HO:=lhd hO;have HR:=lhd hrs;have HF:=lhd hF;have HA:=lhd hal;have HK:=lhd hku
  obtain⟨m1,m2⟩:=sqb (m:=12) (z:=u) (by omega)
  obtain⟨k',hk'⟩:∃ k',k=k'+1:=⟨k-1,by omega⟩
  clear hO hrs hF hal hku HG
  by_cases hlt:u*u≤p
  ·have hti:=deT (p:=u*u≤p) hlt
   have hu3:=sq_lt (z:=u) (m:=11) (by omega) (by omega) (by omega)
   have HF2:=lhd (show acc++(genW p u++genF p k' (u+2))=G by rw[← HF.out,hk',genF,if_pos hlt])
   have HK2:=lhd (show(u+2)+2*(k':Int)=201 by have:=HK.out;omega)
   clear hlt hk' HF HK
   go_upto_region 6 with fail
   clear hti
   obtain⟨W9,hW9⟩:∃ W9:World,W9=wr:=⟨_,rfl⟩
   subst hW9
   have HR0:=HR;have HO0:=HO
   clear HR HO
   go_loopw [3,5,6,7,8,18,19,20,21,22,23,24,25,26,27,28,29,30,31,32,33,34,35,36,37,38,39,40,41,42,43,44,45,46,47,48,49,50,51,52,53,54,55,56,57,58,59,60,61,62,63,64,65,66,67,68,69,70,71,72,73,74,75,76,77,78,79,80,81,82,83,84,85,86,87,88,89,90,91,92,93,94,95,96,97,98,99,100,101,102,103,104,105] (fun s3 s5 _ _ _ _ _ _ _ _ _ _ _ _ _ _ _ _ _ _ _ _ _ _ _ _ _ _ _ _ _ _ _ _ _ _ _ _ _ _ _ _ _ _ _ _ _ _ _ _ _ _ _ _ _ _ _ _ _ _ _ _ _ _ _ _ _ _ _ _ _ _ _ _ _ _ _ _ _ _ _ _ _ _ _ _ _ _ _ _ _ _ _ wr=>∃ (j:Nat) (rs:List (Qt × List Value)),s5=.int .i64 (-p+(j:Int))∧j≤(2*p+1).toNat∧rs.map (·.1)=(acc++(upto (-p) j).flatMap (genX p u)).map g1∧Own eQt w s3 rs wr) (fun _ s5 _ _ _ _ _ _ _ _ _ _ _ _ _ _ _ _ _ _ _ _ _ _ _ _ _ _ _ _ _ _ _ _ _ _ _ _ _ _ _ _ _ _ _ _ _ _ _ _ _ _ _ _ _ _ _ _ _ _ _ _ _ _ _ _ _ _ _ _ _ _ _ _ _ _ _ _ _ _ _ _ _ _ _ _ _ _ _ _ _ _ _ _=>(300-(intOf s5+150).toNat))
   case atStart=>exact⟨0,rs,by simp,Nat.zero_le _,by rw[HR0.out];simp[upto],HO0.out⟩
   case round =>
    clear HR0 HO0 rs
    obtain⟨j,rs,rfl,hjl,hrs,hO⟩:=hrel
    have HO:=lhd hO;have HR:=lhd hrs
    obtain⟨x,hx⟩:=nmx (-p+(j:Int))
    have HX:=lhd hx
    rw[← hx]
    have hxb:-101≤x∧x≤101:=by omega
    obtain⟨hx1,hx2⟩:=hxb
    obtain⟨p1,p2⟩:=sqb (m:=101) (z:=x) (by omega)
    have HJl:=lhd hjl
    clear hO hrs hjl hx
    by_cases hxu:x≤p
    ·have hti:=deT (p:=x≤p) hxu
     have HXU:=lhd hxu
     clear hxu
     rcases Decidable.em (x.tmod 2≠0) with c1 | c1
     ·have t2:(x.tmod 2 == 0)=false:=by simpa using c1
      have t3:(x.tmod 2 != 0)=true:=by simpa using c1
      have HAt:=lhd (show genX p u x=[] by unfold genX;rw[if_pos (.inl c1)])
      go_wp2_with fail
      refine⟨⟨j+1,rs,by rw[HX.out];push_cast;rw[Int.add_assoc],by have:=HX.out;have:=HXU.out;omega,?_,HO.out⟩,by simp only[intOf];omega⟩
      rw[Xj,← HX.out,HAt.out,List.append_nil,HR.out]
     have c1':=Decidable.not_not.1 c1
     rcases Decidable.em (p<u*u+x*x) with c2 | c2
     ·have t4:=deT (p:=p<u*u+x*x) c2
      have HAt:=lhd (show genX p u x=[] by unfold genX;rw[if_pos (.inr c2)])
      go_wp2_with fail
      refine⟨⟨j+1,rs,by rw[HX.out];push_cast;rw[Int.add_assoc],by have:=HX.out;have:=HXU.out;omega,?_,HO.out⟩,by simp only[intOf];omega⟩
      rw[Xj,← HX.out,HAt.out,List.append_nil,HR.out]
     have t4:=deF (p:=p<u*u+x*x) c2
     have HAt:=lhd (show genX p u x=(upto (-p) (2*p+1).toNat).flatMap (YW p u x) by unfold genX;rw[if_neg (fun h=>h.elim c1 c2)])
     have HC2:=lhd c2
     clear c1 c2
     go_upto_region 10 with fail
     clear c1' t4 hti
     obtain⟨acc2,hacc⟩:=nmx (acc++(upto (-p) j).flatMap (genX p u))
     have HA2:=lhd hacc
     have HAL2:=lhd (Zgv (N:=600000) (B:=500000) hacc (fun y=>ZeN p u y h2) (by have:=HA.out;omega) (by have:=HJl.out;omega))
     have HR0:=lhd (show rs.map (·.1)=acc2.map g1 by rw[HR.out,hacc])
     have HO0:=HO
     clear HR HO hacc
     obtain⟨W8,hW8⟩:∃ W8:World,W8=wr:=⟨_,rfl⟩
     subst hW8
     go_loopw [3,6,7,8,39,40,41,42,43,44,45,46,47,48,49,50,51,52,53,54,55,56,57,58,59,60,61,62,63,64,65,66,67,68,69,70,71,72,73,74,75,76,77,78,79,80,81,82,83,84,85,86,87,88,89,90,91,92,93,94,95,96,97,98,99,100,101,102,103,104,105] (fun s3 s6 _ _ _ _ _ _ _ _ _ _ _ _ _ _ _ _ _ _ _ _ _ _ _ _ _ _ _ _ _ _ _ _ _ _ _ _ _ _ _ _ _ _ _ _ _ _ _ _ _ _ _ _ _ _ _ _ _ _ _ _ _ _ _ _ _ _ _ _ _ wr=>∃ (j:Nat) (rs:List (Qt × List Value)),s6=.int .i64 (-p+(j:Int))∧j≤(2*p+1).toNat∧rs.map (·.1)=(acc2++(upto (-p) j).flatMap (YW p u x)).map g1∧Own eQt w s3 rs wr) (fun _ s6 _ _ _ _ _ _ _ _ _ _ _ _ _ _ _ _ _ _ _ _ _ _ _ _ _ _ _ _ _ _ _ _ _ _ _ _ _ _ _ _ _ _ _ _ _ _ _ _ _ _ _ _ _ _ _ _ _ _ _ _ _ _ _ _ _ _ _ _ _ _=>(300-(intOf s6+150).toNat))
     case atStart=>exact⟨0,rs,by simp,Nat.zero_le _,by rw[HR0.out];simp[upto],HO0.out⟩
     case round =>
      clear HR0 HO0 rs
      obtain⟨j3,rs,rfl,hjl,hrs,hO⟩:=hrel
      have HO:=lhd hO;have HR:=lhd hrs
      obtain⟨t,hy⟩:=nmx (-p+(j3:Int))
      have HY:=lhd hy
      rw[← hy]
      have hyb:-101≤t∧t≤101:=by omega
      obtain⟨hy1,hy2⟩:=hyb
      obtain⟨q1,q2⟩:=sqb (m:=101) (z:=t) (by omega)
      have HJ3:=lhd hjl
      clear hO hrs hjl hy
      by_cases hyu:t≤p
      ·have hti:=deT (p:=t≤p) hyu
       have HYU:=lhd hyu
       clear hyu
       rcases Decidable.em (t.tmod 2≠0) with c1 | c1
       ·have t2:(t.tmod 2 == 0)=false:=by simpa using c1
        have t3:(t.tmod 2 != 0)=true:=by simpa using c1
        have HAt:=lhd (show YW p u x t=[] by unfold YW;rw[if_pos (.inl c1)])
        go_wp2_with fail
        refine⟨⟨j3+1,rs,by rw[HY.out];push_cast;rw[Int.add_assoc],by have:=HY.out;have:=HYU.out;omega,?_,HO.out⟩,by simp only[intOf];omega⟩
        rw[Xj,← HY.out,HAt.out,List.append_nil,HR.out]
       have c1':=Decidable.not_not.1 c1
       rcases Decidable.em (p<u*u+x*x+t*t) with c2 | c2
       ·have t4:=deT (p:=p<u*u+x*x+t*t) c2
        have HAt:=lhd (show YW p u x t=[] by unfold YW;rw[if_pos (.inr c2)])
        go_wp2_with fail
        refine⟨⟨j3+1,rs,by rw[HY.out];push_cast;rw[Int.add_assoc],by have:=HY.out;have:=HYU.out;omega,?_,HO.out⟩,by simp only[intOf];omega⟩
        rw[Xj,← HY.out,HAt.out,List.append_nil,HR.out]
       have t4:=deF (p:=p<u*u+x*x+t*t) c2
       obtain⟨r,hr⟩:=nmx (p-u*u-x*x-t*t)
       have HRr:=lhd hr
       have hrb:0≤r∧r≤100:=by omega
       obtain⟨hr1,hr2⟩:=hrb
       have HAt:=lhd (show YW p u x t=if (sqUp 2 r 1000 0)*(sqUp 2 r 1000 0)≠r then [] else (if 0<sqUp 2 r 1000 0 then [⟨u,x,t,-(sqUp 2 r 1000 0)⟩] else [])++[⟨u,x,t,sqUp 2 r 1000 0⟩] by
        unfold YW;rw[if_neg (fun h=>h.elim c1 c2),← hr])
       clear c1 c2 hr
       go_upto_region 15 with fail
       rw[← HRr.out]
       clear c1' t4 hti
       obtain⟨W7,hW7⟩:∃ W7:World,W7=wr:=⟨_,rfl⟩
       subst hW7
       go_loopw [8,75,76,77,78,79,80,81] (fun s8 _ _ _ _ _ _ _ wr=>∃ (k:Nat) (q:Int),s8=.int .i64 q∧sqUp 2 r k q=sqUp 2 r 1000 0∧q+2*k=2000∧0≤q∧q≤12∧W7=wr) (fun s8 _ _ _ _ _ _ _ _=>(2000-(intOf s8).toNat))
       case atStart=>exact⟨1000,0,rfl,rfl,by omega,by omega,by omega,rfl⟩
       case round =>
        obtain⟨k5,q,rfl,hk,hqk,hq0,hq1,rfl⟩:=hrel
        obtain⟨z1,z2⟩:=sqb (m:=12) (z:=q) (by omega)
        by_cases hlt:q*q<r
        ·have hti:=deT (p:=q*q<r) hlt
         have hz10:=sq_lt (m:=10) hq0 (by omega) (by omega)
         obtain⟨k',rfl⟩:∃ k',k5=k'+1:=⟨k5-1,by omega⟩
         have HKs:=lhd hk;have HLt:=lhd hlt
         clear hk hlt
         go_wp2_with fail
         refine⟨⟨k',q+2,rfl,by rw[← HKs.out,Zi6 (by have:=HLt.out;omega)],by omega,by omega,by omega,trivial⟩,?_⟩
         simp only[intOf];omega
        ·have hti:=deF (p:=q*q<r) hlt
         have hqS:sqUp 2 r 1000 0=q:=by rw[← hk,Zi7 hlt]
         rw[hqS]at HAt
         clear hk hlt hqS hqk
         rcases Decidable.em (q*q≠r) with c1 | c1
         ·have t2:(q*q == r)=false:=by simpa using c1
          have t3:(q*q != r)=true:=by simpa using c1
          have HAt:=lhd (HAt.out.trans (if_pos c1))
          go_wp2_with fail
          refine⟨⟨j3+1,rs,by rw[HY.out];push_cast;rw[Int.add_assoc],by have:=HY.out;have:=HYU.out;omega,?_,HO.out⟩,by simp only[intOf];omega⟩
          rw[Xj,← HY.out,HAt.out,List.append_nil,HR.out]
         have c1':=Decidable.not_not.1 c1
         have t1:(q*q != r)=false:=by simpa using c1'
         have t2:(q*q == r)=true:=by simpa using c1'
         have HAt:=lhd (HAt.out.trans (if_neg c1))
         have HLn:=lhd (map_len HR.out (Zgv (N:=610000) (B:=600000) rfl (fun y=>Zdr p u x y) HAL2.out (by have:=HJ3.out;omega)))
         clear c1 c1'
         by_cases hp:0<q
         ·have tp:=deT (p:=0<q) hp
          have HAt:=lhd (HAt.out.trans (by rw[if_pos hp]))
          go_wp2_with (at_builtin;(first | (refine ZaN rfl (.tmp 89) (.tmp 96) 26 rfl Tryz.underlying26 HO.out (g1 ⟨u,x,t,-q⟩) _ W7.heap.size 1 rfl rfl rfl (by have:=HLn.out;omega) ?_;intro v1 w1 hg1;have HG1:=lhd hg1;clear hg1) | (refine ZaN rfl (.tmp 98) (.tmp 104) 26 rfl Tryz.underlying26 HG1.out (g1 ⟨u,x,t,q⟩) _ w1.heap.size 1 rfl rfl rfl (by have:=HLn.out;simp;omega) ?_;intro v2 w2 hg2;have HG2:=lhd hg2;clear hg2)))
          refine⟨⟨j3+1,_,by rw[HY.out];push_cast;rw[Int.add_assoc],by have:=HY.out;have:=HYU.out;omega,?_,HG2.out⟩,by simp only[intOf];omega⟩
          rw[Xj,← HY.out,HAt.out];simp only[List.map_append,HR.out,List.map_cons,List.map_nil,List.append_assoc,List.cons_append,List.nil_append]
         ·have tp:=deF (p:=0<q) hp
          have HAt:=lhd (HAt.out.trans (by rw[if_neg hp]))
          go_wp2_with (at_builtin;refine ZaN rfl (.tmp 98) (.tmp 104) 26 rfl Tryz.underlying26 HO.out (g1 ⟨u,x,t,q⟩) _ W7.heap.size 1 rfl rfl rfl (by have:=HLn.out;omega) ?_;intro v2 w2 hg2;have HG2:=lhd hg2;clear hg2)
          refine⟨⟨j3+1,_,by rw[HY.out];push_cast;rw[Int.add_assoc],by have:=HY.out;have:=HYU.out;omega,?_,HG2.out⟩,by simp only[intOf];omega⟩
          rw[Xj,← HY.out,HAt.out];simp only[List.map_append,HR.out,List.map_cons,List.map_nil,List.append_assoc,List.nil_append]
      ·have hti:=deF (p:=t≤p) hyu
       have hfin:rs.map (·.1)=(acc2++genX p u x).map g1:=by
        rw[HR.out,HAt.out,show j3=(2*p+1).toNat by have:=HY.out;have:=HJ3.out;omega]
       have HFi:=lhd hfin
       clear hfin hyu
       go_wp2_with fail
       refine⟨⟨j+1,rs,by rw[HX.out];push_cast;rw[Int.add_assoc],by have:=HX.out;have:=HXU.out;omega,?_,HO.out⟩,by simp only[intOf];omega⟩
       rw[Xj,← HX.out,HFi.out,HA2.out,List.append_assoc]
    ·have hti:=deF (p:=x≤p) hxu
     have hfin:rs.map (·.1)=(acc++genW p u).map g1:=by
      rw[HR.out,show j=(2*p+1).toNat by have:=HX.out;have:=HJl.out;omega];rfl
     have HFi:=lhd hfin
     clear hfin hxu
     go_wp2_with fail
     refine⟨⟨k',u+2,acc++genW p u,rs,rfl,HK2.out,by omega,by omega,by rw[List.append_assoc];exact HF2.out,HFi.out,by rw[List.length_append];have:=genW_len p u h2;have:=HA.out;omega,HO.out⟩,by simp only[intOf];omega⟩
  ·have hti:=deF (p:=u*u≤p) hlt
   have hfin:acc=G:=by rw[← HF.out,hk',genF,if_neg hlt,List.append_nil]
   have HFi:=lhd (show rs.map (·.1)=G.map g1 by rw[HR.out,hfin])
   clear hlt hk' hfin
   go_wp2_with fail
   go_ret
   exact⟨_,rfl,by rw[← HFi.out];exact HO.out.sl,HO.out.below⟩
def gdB(p:Int):Bool:=isPB p && p.tmod 4 == 1
theorem ZbQ(p:Int)(w:World)(h:gdB p=true):Calls Tryz.prog 18 #[.int .i64 p] w (Zb (VC (.bool true)) w):=by
 have HP:=lhd (fun W=>Kl p W)
 unfold gdB at h
 rw[Bool.and_eq_true]at h
 obtain⟨h1,h2⟩:=h
 rw[h1]at HP
 clear h1
 go_enter Tryz.func18,Tryz.ntmps18
 go_wp2_with fail
 refine(HP.out _).mono ?_
 rintro e w1 ⟨rfl,n,rfl⟩
 go_wp2_with fail
 go_ret
 exact⟨_,rfl,rfl,Zi (brf _ _) _⟩
theorem ZcN(p:Int)(w:World)(h:gdB p=true)(h1:1≤p)(h2:p≤100):Calls Tryz.prog 5 #[.int .i64 p] w (Zb (fun r W=>∃ v,r=.tuple #[v,.int .i64 0]∧Sl eQt ((genL p).map g1) v W) w):=by
 have HG:=lhd (fun W=>ZbQ p W h)
 have HN:=lhd (fun W=>Ky p W h1 h2)
 have t1:=deF (p:=400≤p) (by omega)
 clear h h1 h2
 go_enter Tryz.func5,Tryz.ntmps5
 go_wp2_with fail
 refine(HG.out _).mono ?_
 rintro e w1 ⟨_,rfl,rfl,hb⟩
 have HB:=lhd hb
 clear hb
 go_wp2_with fail
 refine(HN.out _).mono ?_
 rintro e w2 ⟨v,rfl,hv,hb⟩
 have HB2:=lhd (HB.out.trans (hb.mono HB.out.size));have HV:=lhd hv
 clear hb hv
 go_wp2_with fail
 go_ret2
 exact⟨_,rfl,⟨_,rfl,HV.out⟩,HB2.out⟩
theorem Zhn:(Tryz.prog.info? 4).map (fun i=>(i.zero,i.size,i.bytes))=some (some (.bool false),1,1):=by kernel_rfl
theorem Zi9(N:Nat)(hN:N≤1000000)(W:World):(Instr.makeSlice 161 (.int .i64 (N:Int)) (.int .i64 (N:Int))).run Tryz.prog W =
  .ok (.slice (some ⟨W.heap.size,0,none⟩) N N) (W.alloc (.cells (madeCells #[.bool false] N) 4)):=
 run_make_row' (P:=Tryz.prog) 161 4 (.bool false) 1 Tryz.underlying161 Zhn rfl .i64 .i64 N (by omega) (by omega) W
theorem Yl.loadQ{a:Act}{w W:World}{o:Oper}{g k:Nat}{x:Operand}{h:Qt}(hB:Below w.heap.size w W)(hg:g<w.heap.size)(hC:∀ d u,(qcs h)[d]?=some u→w.cell? ⟨g,k+d,none⟩=some u)(ho:o.op=.load 37 x)(hx:a.eval x=.pointer (some ⟨g,k,none⟩)):Yl Tryz.prog o a W (VC (qv h)):=by
 refine .loadL (us:=qcs h) ho hx (fun d u hd=>?_) rfl Tryz.underlying37 rfl (by kernel_rfl) rfl
 rw[hB.cell (p:=⟨g,k+d,none⟩) hg]
 exact hC d u hd
end
end Go.Proofs.YthkklilhjnpedaaGreatDoor
