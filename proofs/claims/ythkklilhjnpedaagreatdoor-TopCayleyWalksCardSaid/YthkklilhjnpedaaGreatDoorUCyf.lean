/- Lists of bytes that came in; Booleans. -/
import Derived.Test.YthkklilhjnpedaaGreatDoorUAtn
import Derived.Test.YthkklilhjnpedaaGreatDoorUCyl
import Derived.Test.YthkklilhjnpedaaGreatDoorUQf0
import Derived.Test.YthkklilhjnpedaaGreatDoorUGch
import Derived.Test.YthkklilhjnpedaaGreatDoorUEci
import Derived.Test.YthkklilhjnpedaaGreatDoorUCrt0
import Derived.Test.YthkklilhjnpedaaGreatDoorUBck
import Derived.Test.YthkklilhjnpedaaGreatDoorUOpen0
import Derived.Lib.SmallJoins
import Derived.Deep.SlicePairs
set_option maxHeartbeats 16000000
set_option maxRecDepth 8000
namespace Go.Proofs.YthkklilhjnpedaaGreatDoor
section
open Go.RowKit FF
theorem gq_one(x:Hw):gq (g1 x)=1:=by
 unfold gq g1
 exact Int.gcd_one_right ..
theorem nrm_one(x:Hw):nrm (g1 x)=g1 x:=by
 have h:gs (g1 x)=1:=by
  unfold gs
  rw[gq_one,if_neg (by show ¬ (1:Int)<0;decide)];rfl
 unfold nrm
 rw[h]
 simp[g1]
theorem Zau{x:Hw}(h:Hb 1000000 x):qB (g1 x)=true:=Yh.2 ⟨h.1,h.2.1,h.2.2.1,h.2.2.2,by show(1:Int)≤1∧(1:Int)≤1000000;decide⟩
theorem Zbb{x:Hw}(h:Hb 1000000 x):fitQ (g1 x)=g1 x∧fitE (g1 x)=0:=by
 unfold fitQ fitE
 rw[nrm_one,if_pos (Zau h),if_pos (Zau h)]
 exact⟨rfl,rfl⟩
theorem mulQ_one(x y:Hw):mulQ (-1) (-1) (g1 x) (g1 y)=g1 (qtm x y):=by
 unfold mulQ g1 qtm
 simp only[Qt.mk.injEq]
 refine⟨?_,?_,?_,?_,rfl⟩ <;> grind
theorem ZhX(x:Hw):XH (g1 x)=g1 (qcj x):=rfl
theorem Zd6{x y:Hw}(w:World)(hx:Hb 1000000 x)(hy:Hb 1000000 y)(hxy:Hb 1000000 (qtm x y)) :
  Calls Tryz.prog 9 #[.agg #[.int .i64 (-1),.int .i64 (-1)],qv (g1 x),qv (g1 y)] w (Zb (VC (.tuple #[qv (g1 (qtm x y)),.int .i64 0])) w):=by
 have h:=qMul_ok (-1) (-1) (g1 x) (g1 y) w (Zau hx) (Zau hy) (by decide)
 rw[mulQ_one,(Zbb hxy).1,(Zbb hxy).2]at h
 exact h.mono fun _ _ h=>⟨_,h.1,rfl,h.2⟩
theorem ZhY{x:Hw}(w:World)(hx:Hb 1000000 x):Calls Tryz.prog 10 #[qv (g1 x)] w (Zb (VC (.tuple #[qv (g1 (qcj x)),.int .i64 0])) w):=by
 have h:=ZiU x.a x.b x.c x.d 1 w
 have hc:Hb 1000000 (qcj x):=by
  obtain⟨h0,h1,h2,h3⟩:=hx
  exact⟨h0,by simp only[qcj];omega,by simp only[qcj];omega,by simp only[qcj];omega⟩
 rw[show(⟨x.a,x.b,x.c,x.d,1⟩:Qt)=g1 x from rfl,ZhX,Zgt.2 (Zau hx)]at h
 unfold resQ resE at h
 rw[if_pos rfl,if_pos rfl,(Zbb hc).1,(Zbb hc).2]at h
 exact h.mono fun _ _ h=>⟨_,h.1,rfl,h.2⟩
theorem okG13:okG Xl (ZU 13)=true:=by decide +kernel
theorem okG17:okG Xl (ZU 17)=true:=by decide +kernel
def q5(x:Hw):Array Value:=#[.int .i64 x.a,.int .i64 x.b,.int .i64 x.c,.int .i64 x.d,.int .i64 1]
def QB(R:Nat)(x:Hw)(W:World):Prop:=W.heap[R]?=some (.cells (q5 x) 37 (0,0))
section
variable {R:Nat}{x:Hw}{W W':World}
theorem QB.lt(h:QB R x W):R<W.heap.size:=(Array.getElem?_eq_some_iff.1 h).1
theorem QB.alt{row:Option Nat}(h:QB R x W)(ha:Alt row W W')(hn:row≠some R):QB R x W':=(ha.block R h.lt (fun e=>hn e.symm)).trans h
theorem QB.keep(h:QB R x W)(hb:Below W.heap.size W W'):QB R x W':=h.alt (.below hb) (fun e=>by cases e)
theorem QB.cells(h:QB R x W):Cells W R (q5 x):=⟨h.lt,fun i _=>by simp only[World.cell?,show W.heap[R]?=_ from h];rw[if_neg (by simp)],fun i=>by simp[World.frozen?,show W.heap[R]?=_ from h]⟩
theorem QB.five(h:QB R x W):W.cell? ⟨R,0,none⟩=some (.int .i64 x.a)∧W.cell? ⟨R,1,none⟩=some (.int .i64 x.b)∧W.cell? ⟨R,2,none⟩=some (.int .i64 x.c)∧W.cell? ⟨R,3,none⟩=some (.int .i64 x.d)∧W.cell? ⟨R,4,none⟩=some (.int .i64 1)∧∀ i,W.frozen? ⟨R,i,none⟩=false:=
 ⟨h.cells.2.1 0 (by show 0<5;decide),h.cells.2.1 1 (by show 1<5;decide),h.cells.2.1 2 (by show 2<5;decide),h.cells.2.1 3 (by show 3<5;decide),h.cells.2.1 4 (by show 4<5;decide),h.cells.2.2⟩
theorem Zc2(cs us:Array Value)(h:cs.size=us.size):Yz cs 0 us.toList=us:=by
 apply Array.ext_getElem?
 intro j
 by_cases hj:j<us.size
 ·have:=ZbO us.toList cs 0 j us[j] (by simp;omega) (by simp[hj])
  rw[Nat.zero_add]at this
  rw[this,Array.getElem?_eq_getElem hj]
 ·rw[Array.getElem?_eq_none (by rw[KP];omega),Array.getElem?_eq_none (by omega)]
theorem QB.set(h:QB R x W)(y:Hw):QB R y (((((W.setCell ⟨R,0,none⟩ (.int .i64 y.a)).setCell ⟨R,1,none⟩ (.int .i64 y.b)).setCell ⟨R,2,none⟩ (.int .i64 y.c)).setCell ⟨R,3,none⟩ (.int .i64 y.d)).setCell ⟨R,4,none⟩ (.int .i64 1)):=by
 have:=YA (q5 y).toList 0 W (q5 x) h
 rw[Zc2 (q5 x) (q5 y) rfl]at this
 exact this
theorem only5(R:Nat)(a b c d e:Value)(W:World):Only R W (((((W.setCell ⟨R,0,none⟩ a).setCell ⟨R,1,none⟩ b).setCell ⟨R,2,none⟩ c).setCell ⟨R,3,none⟩ d).setCell ⟨R,4,none⟩ e):=
 ((((Only.setCell W R 0 a).trans (Only.setCell _ R 1 b)).trans (Only.setCell _ R 2 c)).trans (Only.setCell _ R 3 d)).trans (Only.setCell _ R 4 e)
end
def BoxQ(N:Nat):Value→World→Prop:=fun v W=>∃ R cs,v=.pointer (some ⟨R,0,none⟩)∧N≤R∧W.heap[R]?=some (.cells cs 37 (0,0))∧cs.size=5
theorem Keeps.boxQ(N:Nat):Keeps (BoxQ N):=by
 rintro v W W' ⟨R,cs,h1,h2,h3,h4⟩ hb
 exact⟨R,cs,h1,h2,(hb.block R (Array.getElem?_eq_some_iff.1 h3).1).trans h3,h4⟩
section
variable {a:Act}{w W:World}{o:Oper}
theorem Yl.allocQ{N:Nat}(hN:N≤W.heap.size)(ho:o.op=.alloc 37):Yl Tryz.prog o a W (BoxQ N):=by
 refine⟨fun K Q' hK=>?_⟩
 have hr:(execOp a.eval o).run Tryz.prog W=.ok (.value (.pointer (some ⟨W.heap.size,0,none⟩))) (W.alloc (.cells #[.int .i64 0,.int .i64 0,.int .i64 0,.int .i64 0,.int .i64 0] 37)):=by
  simp[execOp,ho,go_sem]
 unfold Oper.wp;rw[hr]
 exact hK _ _ ((brf _ _).alloc (nlr _) _) ⟨W.heap.size,_,rfl,hN,heap_alloc_new W _,rfl⟩
theorem Ye.stoQ{q:Value→World→Prop}{x z:Operand}{R:Nat}{cs:Array Value}{y:Hw}(ho:o.op=.store 37 x z)(hx:a.eval x=.pointer (some ⟨R,0,none⟩))(hz:a.eval z=.agg (q5 y))(hc:W.heap[R]?=some (.cells cs 37 (0,0)))(hs:cs.size=5)
  (hq:∀ W',QB R y W'→Only R W W'→q undef W'):Ye Tryz.prog o a W q:=by
 refine⟨fun K Q' hK=>?_⟩
 obtain⟨i0,hi,-,hz1,-⟩:=info_parts ZcM
 have hcell:∀ j,j<cs.size→(W.cell? ⟨R,j,none⟩).isSome=true∧W.frozen? ⟨R,j,none⟩=false:=fun j hj=>by
  simp only[World.cell?,World.frozen?,hc]
  rw[if_neg (by simp),Array.getElem?_eq_getElem hj]
  exact⟨rfl,by simp⟩
 refine wp_store_mid 37 x z ho R 0 (q5 y) hx hz (fun j hj=>?_) (by rw[hi,Option.map_some,hz1];rfl) (by simp[q5,Value.oneCell']) (hK _ _ (hq _ ?_ (Only.setCells ..)))
 ·rw[Nat.zero_add];exact hcell j (by have h5:(q5 y).size=5:=rfl;omega)
 ·have:=YA (q5 y).toList 0 W cs hc
  rw[Zc2 cs (q5 y) (by rw[hs];rfl)]at this
  exact this
theorem Yl.buildOwn{x:Operand}{z:Int}(hB:Below w.heap.size w W)(ho:o.op=.buildSlice 40 1 #[(0,x)])(hx:a.eval x=.int .i64 z):Yl Tryz.prog o a W (fun v X=>Own eNum w v [(z,[.int .i64 z])] X):=by
 refine⟨fun K Q' hK=>?_⟩
 obtain⟨i0,hi,hz0,hz1,-⟩:=info_parts ZM
 refine wp_buildSlice 40 3 1 #[(0,x)] ho #[.int .i64 z] i0 _ Tryz.underlying40 hi hz0 (by rw[hz1];decide) (by rw[hz1];decide) ?_ ?_
 ·rw[hz1]
  simp only[List.map_toArray,List.map_cons,List.map_nil,hx]
  kernel_rfl
 ·exact hK _ _ ((brf W.heap.size W).alloc (nlr _) _) (Own.one (e:=eNum) hB rfl)
theorem Zgc{x:Int}(h0:0≤x)(h1:x<256)(W:World):(convert 5 3 (.int .u8 x)).run Tryz.prog W=.ok (.int .i64 x) W:=by
 have:IntKind.i64.wrap x=x:=by simp[IntKind.wrap,IntKind.bits,IntKind.signed];omega
 simp[go_sem,this]
theorem Yl.remK{S D:TypeId}{x z:Operand}{p:Int}{m k:Nat}(ho:o.op=.binOp .rem S x z D)(hx:a.eval x=.int .i64 p)(hz:a.eval z=.int .i64 (m:Int))(h0:0≤p∧p<256)(hm:0<m)(hk:p.toNat % m=k):Yl Tryz.prog o a W (VC (.int .i64 (k:Int))):=by
 have h:=Yl.remI (P:=Tryz.prog) (a:=a) (W:=W) (o:=o) ho hx hz ⟨h0.1,by omega⟩ (by omega:(0:Int)<(m:Int))
 rw[Int.tmod_eq_emod_of_nonneg h0.1]at h
 have e:p % (m:Int)=(k:Int):=by
  rw[← hk]
  have:((p.toNat:Nat):Int)=p:=by omega
  rw[← this];simp
 rw[e]at h
 exact h
end
end
section
open Go.RowKit FF
def eU8:El Int where
 T:=5
 n:=1
 bytes:=1
 z:=.int .u8 0
 E:=fun x cs _=>cs=[.int .u8 x]
 Bad:=fun _=>False
 pos:=by decide
 small:=by decide
 zn:=rfl
 zg:=fun _ _ h=>h
 len:=by rintro x cs W rfl;rfl
 one:=by
  rintro x cs W rfl y hy
  obtain rfl:=List.mem_singleton.1 hy
  exact⟨rfl,fun h=>h⟩
 alt:=fun h _ _=>h
theorem u8_at{l:List Int}{A:Option Addr}{n c:Nat}{W:World}(h:Sl eU8 l (.slice A n c) W){i:Nat}{z:Int}(hi:l[i]?=some z):∃ b o,A=some ⟨b,o,none⟩∧b<W.heap.size∧W.cell? ⟨b,o+i,none⟩=some (.int .u8 z):=by
 obtain⟨b,o,cs,e,hb,hcs,hc⟩:=Sl.at h hi
 obtain rfl:cs=[.int .u8 z]:=hcs
 have:=hc 0 _ rfl
 rw[show o+i*eU8.n+0=o+i from by show o+i*1+0=o+i;omega]at this
 exact⟨b,o,e,hb,this⟩
theorem info_u8:(Tryz.prog.info? 5).map (fun i=>(i.zero,i.size,i.bytes))=some (some (.int .u8 0),1,1):=by kernel_rfl
structure TC(p:Int)(L:List Int)(m n:Nat)(vl vi a b:Value)(R6 R9:Nat)(W:World):Prop where
 al:Cells W R6 #[.int .i64 (-1),.int .i64 (-1)]
 gr:GB R9 a b W
 gens:Sl eQt ((genL p).map g1) vl W
 gv:GV Xl (ZU p) a b W
 inp:Sl eU8 L vi W
section
variable {p:Int}{L:List Int}{m n:Nat}{vl vi a b:Value}{R6 R9:Nat}{W W':World}
theorem TC.keep(h:TC p L m n vl vi a b R6 R9 W)(hb:Below W.heap.size W W'):TC p L m n vl vi a b R6 R9 W':=⟨h.al.keep hb,h.gr.keep hb,h.gens.keep hb,h.gv.keep hb,h.inp.keep hb⟩
end
def gsL(p:Int)(L:List Int)(m:Nat):List Hw:=L.map fun x=>(genL p).getD (x.toNat % m) oneH
theorem gsL_ok{p:Int}{L:List Int}{m:Nat}(hm:(genL p).length=m)(h0:0<m)(h4:L.length≤4):GsOk p (gsL p L m) L.length:=
 ⟨by simp [gsL], h4, fun g hg => by
  obtain⟨x,-,rfl⟩:=List.mem_map.1 hg
  have hl:x.toNat % m<(genL p).length:=by rw[hm];exact Nat.mod_lt _ h0
  rw[gDg,gEe hl]
  exact List.getElem_mem hl⟩
theorem gsL_at{p:Int}{L:List Int}{m:Nat}(hm:(genL p).length=m)(h0:0<m){i:Nat}{x:Int}(hi:L[i]?=some x):(genL p)[x.toNat % m]?=some ((gsL p L m).getD i oneH):=by
 have hl:x.toNat % m<(genL p).length:=by rw[hm];exact Nat.mod_lt _ h0
 have:(gsL p L m)[i]?=some ((genL p).getD (x.toNat % m) oneH):=by rw[gsL,List.getElem?_map,hi];rfl
 rw[gDg (l:=gsL p L m),this]
 show _=some ((genL p).getD (x.toNat % m) oneH)
 rw[gDg,gEe hl];rfl
theorem qt_cells{l:List Qt}{A:Option Addr}{n c:Nat}{W:World}(h:Sl eQt l (.slice A n c) W){i:Nat}{z:Qt}(hi:l[i]?=some z):∃ b o,A=some ⟨b,o,none⟩∧b<W.heap.size∧∀ d u,(qcs z)[d]?=some u→W.cell? ⟨b,o+i*5+d,none⟩=some u:=by
 obtain⟨b,o,cs,e,hb,hE,hc⟩:=Sl.at h hi
 obtain rfl:cs=qcs z:=hE
 exact⟨b,o,e,hb,hc⟩
section
variable {w W:World}{o:Oper}{a:Act}{x:Operand}
theorem QB.qcs{R:Nat}{z:Hw}(h:QB R z W):∀ d u,(qcs (g1 z))[d]?=some u→W.cell? ⟨R,0+d,none⟩=some u:=fun d u hd=>by
 have hl:=(List.getElem?_eq_some_iff.1 hd).1
 rw[Nat.zero_add,h.cells.2.1 d hl,← hd]
 rcases d with _ | _ | _ | _ | _ | d <;> rfl
theorem Yl.loadB{R:Nat}{z:Hw}(hB:Below w.heap.size w W)(h:QB R z w)(ho:o.op=.load 37 x)(hx:a.eval x=.pointer (some ⟨R,0,none⟩)):Yl Tryz.prog o a W (VC (qv (g1 z))):=
 .loadQ hB h.lt h.qcs ho hx
theorem Yl.loadGr{R:Nat}{v u:Value}(hB:Below w.heap.size w W)(h:GB R v u w)(ho:o.op=.load 33 x)(hx:a.eval x=.pointer (some ⟨R,0,none⟩)):Yl Tryz.prog o a W (VC (.agg #[v,u])):=by
 have h':=h.keep hB
 exact .loadAll ho hx (show Cells W R #[v,u] from⟨h'.lt,fun i hi=>by rcases i with _ | _ | i;exact h'.c0;exact h'.c1;exact absurd hi (by simp),h'.f⟩) rfl Tryz.underlying33 rfl (by kernel_rfl) rfl
theorem Yl.loadAl{R:Nat}(hB:Below w.heap.size w W)(h:Cells w R #[.int .i64 (-1),.int .i64 (-1)])(ho:o.op=.load 25 x)(hx:a.eval x=.pointer (some ⟨R,0,none⟩)):Yl Tryz.prog o a W (VC (.agg #[.int .i64 (-1),.int .i64 (-1)])):=
 .loadAll ho hx (h.keep hB) rfl Tryz.underlying25 rfl (by kernel_rfl) rfl
theorem Yl.loadU{g k:Nat}{z:Int}(hB:Below w.heap.size w W)(hg:g<w.heap.size)(h:w.cell? ⟨g,k,none⟩=some (.int .u8 z))(ho:o.op=.load 5 x)(hx:a.eval x=.pointer (some ⟨g,k,none⟩)):Yl Tryz.prog o a W (VC (.int .u8 z)):=
 .load1 ho hx (Za Tryz.underlying5 rfl ((hB.cell (p:=⟨g,k,none⟩) hg).trans h)) rfl
end
theorem Own.neQ{w W:World}{v:Value}{rs:List (Int × List Value)}(h:Own eNum w v rs W){R:Nat}{x:Hw}(hq:QB R x W):v.ownBlock≠some R:=fun e1=>by
 obtain⟨c,k⟩:=h.tag e1
 rw[show W.heap[R]?=_ from hq]at k
 injection k with k
 injection k with _ k
 exact absurd k (by decide)
theorem Own.setQ{w W W':World}{v:Value}{rs:List (Int × List Value)}(h:Own eNum w v rs W){R:Nat}{x:Hw}(hq:QB R x W)(ho:Only R W W')(hb:Below w.heap.size w W'):Own eNum w v rs W':=
 h.aside (.only ho) hb (fun _ e1 e2=>h.neQ hq (e1.trans e2.symm)) (fun _ _ _ _ _ hh=>hh)
theorem below5{w W:World}(h:Below w.heap.size w W){R:Nat}(hR:w.heap.size≤R)(a b c d e:Value):Below w.heap.size w (((((W.setCell ⟨R,0,none⟩ a).setCell ⟨R,1,none⟩ b).setCell ⟨R,2,none⟩ c).setCell ⟨R,3,none⟩ d).setCell ⟨R,4,none⟩ e):=
 ((((h.setCell hR _).setCell hR _).setCell hR _).setCell hR _).setCell hR _
theorem Zd7{p:Int}(hok:okG Xl (ZU p)=true){m:Hw}(hm:m∈clsL):Xl[cidx m]?=some (ZX m)∧∀ i,i<cidx m→Xl[i]?≠some (ZX m):=by
 have h1:Xl[cidx m]?=some (ZX m):=by unfold Xl;rw[List.getElem?_map,Zd0 hm];rfl
 have hd:YM Xl=true:=by
  unfold okG at hok
  simp only[Bool.and_eq_true]at hok
  exact hok.1.2
 exact⟨h1,fun i hi he=>Kk hd he h1 hi rfl⟩
theorem ZbZ:Xl.length=120:=by unfold Xl;rw[List.length_map,XU]
theorem KK(p:Int):(ZU p).length=120:=by unfold ZU;rw[List.length_map,XU]
theorem Zb0{p:Int}{r:List Int}(h:r∈ZU p):∃ m,m∈clsL∧r=nbrs p m:=by
 unfold ZU at h
 obtain⟨m,hm,rfl⟩:=List.mem_map.1 h
 exact⟨m,hm,rfl⟩
theorem Zav{p:Int}(hp:p=13∨p=17):∀ r∈ZU p,r.length≤100:=fun r hr=>by
 obtain⟨m,-,rfl⟩:=Zb0 hr
 rw[nbrs_len];exact Zd8 hp
theorem Zh1{p:Int}(hp:p=13∨p=17):ZaU (ZU p) 120:=
 ⟨KK p, by omega, fun l hl => ⟨by have := Zav hp l hl; omega, by
  obtain⟨m,hm,rfl⟩:=Zb0 hl
  exact nbrs_in hp hm⟩⟩
theorem okGC{p:Int}(hp:p=13∨p=17):okG Xl (ZU p)=true:=by
 rcases hp with rfl | rfl
 ·exact okG13
 ·exact okG17
theorem genL_n{p:Int}(hp:p=13∨p=17):((genL p).length:Int)=p+1:=by rcases hp with rfl | rfl <;> decide +kernel
theorem ZcB{p:Int}(hp:p=13∨p=17){a b:Value}{w:World}{x:Hw}(hg:GV Xl (ZU p) a b w)(hx:vtx x∈clsL) :
  Calls Tryz.prog 7 #[.agg #[a,b],.string ⟨(ZX (vtx x)).toArray⟩] w (Zb (VC (.int .i64 (cidx (vtx x):Int))) w):=
 ZhN hg (by rw[ZbZ];omega) (Zd7 (okGC hp) hx).1 (Zd7 (okGC hp) hx).2
theorem KL{p:Int}(hp:p=13∨p=17){gs:List Hw}{n t:Nat}(h:GsOk p gs n)(ht:t≤2*n):Hb 1000000 (wv gs n t):=wv_bnd hp h ht
theorem wf_in{p:Int}(hp:p=13∨p=17){gs:List Hw}{n t:Nat}(h:GsOk p gs n)(ht:t≤2*n):0≤wf gs n t∧wf gs n t<120:=by
 have:=UQ (Yr hp h ht)
 unfold wf;omega
theorem BoxQ.sto{N R:Nat}{x:Hw}{u:Value}{W W':World}(h:BoxQ N u W)(ho:Only R W W')(hq:QB R x W'):BoxQ N u W':=by
 obtain⟨R2,cs,h1,h2,h3,h4⟩:=h
 by_cases e:R2=R
 ·subst e
  exact⟨R2,q5 x,h1,h2,hq,rfl⟩
 ·exact⟨R2,cs,h1,h2,(ho.block R2 e).trans h3,h4⟩
def exQ(w:World)(s:Nat)(x:Hw)(k:Nat)(y:Nat→Value)(W:World):Prop:=Below w.heap.size w W∧(0<k→∃ R,y s=.pointer (some ⟨R,0,none⟩)∧w.heap.size≤R∧QB R x W)
theorem exQ.keep(w:World)(s:Nat)(x:Hw):∀ k y,Keeps (fun _=>exQ w s x k y):=fun _ _ _ _ _ ⟨h1,h2⟩ hb =>
 ⟨h1.trans (hb.mono h1.size), fun h0 => by
  obtain⟨R,e1,e2,e3⟩:=h2 h0
  exact⟨R,e1,e2,e3.keep hb⟩⟩
theorem exQ.cg(w:World)(s:Nat)(x:Hw):∀ (k:Nat) (y y':Nat→Value) (W:World),(∀ t∈(if k=0 then [] else [s]),y' t=y t)→exQ w s x k y W→exQ w s x k y' W:=fun k _ _ _ h ⟨h1,h2⟩ =>
 ⟨h1, fun h0 => by
  obtain⟨R,e1,e2,e3⟩:=h2 h0
  exact⟨R,(h s (by rw[if_neg (by omega)];simp)).trans e1,e2,e3⟩⟩
theorem exQ.sto{w W W':World}{s k R:Nat}{x z:Hw}{y:Nat→Value}(h:exQ w s x k y W)(e:y s=.pointer (some ⟨R,0,none⟩))(hR:w.heap.size≤R)(ho:Only R W W')(hq:QB R z W')(hz:z=x):exQ w s x (k+1) y W':=
 ⟨ho.below h.1 hR,fun _=>⟨R,e,hR,hz ▸ hq⟩⟩
def CwR(wB:World)(R11:Nat)(gs:List Hw)(n t:Nat)(v:Value)(W:World):Prop:=
 ∃ rs:List (Int × List Value),rs.map (·.1)=Ym gs n (t+1)∧Own eNum wB v rs W∧QB R11 (wv gs n t) W
theorem wv_go{gs:List Hw}{n i:Nat}(h:i<n):wv gs n (i+1)=qtm (wv gs n i) (gs.getD i oneH):=by
 rw[wv,stg,if_pos h]
theorem wv_bk{gs:List Hw}{n j:Nat}(h:j<n):wv gs n (n+(n-1-j)+1)=qtm (wv gs n (n+(n-1-j))) (qcj (gs.getD j oneH)):=by
 rw[wv,stg,if_neg (by omega)]
 congr 3;omega
theorem np_shows{l:List Int}{A:Option Addr}{n c:Nat}{W:World}(h:NP l (.slice A n c) W):ShowsI W A l:=fun h0=>by
 obtain⟨b,o,e,hb,-⟩:=Zv h (i:=0) (gEe h0)
 refine⟨b,o,e,hb,fun i hi=>?_⟩
 obtain⟨b2,o2,e2,-,hc⟩:=Zv h (i:=i) (gEe hi)
 rw[e]at e2
 injection e2 with e2
 injection e2 with e3 e4
 subst e3 e4
 rw[hc,gDg,gEe hi];rfl
section
variable {p:Int}{gs:List Hw}{n:Nat}{W:World}{a b:Value}
theorem hasC(hp:p=13∨p=17)(hG:GsOk p gs n){A:Option Addr}{c:Nat}(h:NP (Ym gs n (2*n+1)) (.slice A (2*n+1) c) W):Calls Tryz.prog 11 #[.slice A (2*n+1) c,.int .i64 (-1)] W (Zb (VC (.bool false)) W):=by
 have h1:Calls Tryz.prog 11 #[.slice A (Ym gs n (2*n+1)).length c,.int .i64 (-1)] W (Zb (VC (.bool (decide ((-1:Int)∈Ym gs n (2*n+1))))) W):=
  (bHas_any A (Ym gs n (2*n+1)) c (-1) W (np_shows h) (by rw[XO];unfold maxLen;have:=hG.n4;omega)).mono fun _ _ h=>⟨_,h.1,rfl,h.2.elim fun m hm=>hm ▸ Zi (brf _ _) m⟩
 rw[XO,deF (fun hm=>by
  obtain⟨t,ht,e⟩:=List.mem_map.1 hm
  have:=(wf_in hp hG (t:=t) (by have:=List.mem_range.1 ht;omega)).1
  omega)]at h1
 exact h1
theorem checkC(hp:p=13∨p=17)(hG:GsOk p gs n){u:Value}(hg:GV Xl (ZU p) a b W)(h:NP (Ym gs n (2*n+1)) u W):Calls Tryz.prog 12 #[.agg #[a,b],u] W (Zb (VC (.int .i64 0)) W):=by
 refine ZdE hg (okGC hp) h (by rw[XO];omega) (by rw[XO];have:=hG.n4;omega) (fun r hr=>by have:=Zav hp r hr;omega) (fun x hx=>?_) (fun i x y hx hy=>?_)
 ·obtain⟨t,ht,rfl⟩:=List.mem_map.1 hx
  rw[KK]
  exact wf_in hp hG (by have:=List.mem_range.1 ht;omega)
 ·have hl:=(List.getElem?_eq_some_iff.1 hy).1
  rw[XO]at hl
  rw[Kc (by omega)]at hx hy
  have ex:=oSi hx
  have ey:=oSi hy
  have hm:=Yr hp hG (t:=i) (by omega)
  have e2:x=cidx (vtx (wv gs n i)):=by unfold wf at ex;omega
  rw[e2]
  exact⟨_,ZcX hm,by rw[← ey];exact Zf6 hp hG (by omega)⟩
theorem pathC(hp:p=13∨p=17)(hG:GsOk p gs n):∃ N:Nat,1≤N∧N≤n+1∧∀ (a b:Value) (W:World),GV Xl (ZU p) a b W→Calls Tryz.prog 13 #[.agg #[a,b],.int .i64 (wf gs n 0),.int .i64 (wf gs n n)] W (Zb (fun r _=>∃ A c,r=.tuple #[.slice A N c,.int .i64 0]) W):=by
 have ht:=UQ (Yr hp hG (t:=n) (by omega))
 have hf:=UQ (Yr hp hG (t:=0) (by omega))
 have hE:=Zh1 hp
 have hdst:Dst (natL (ZU p)) (cidx (vtx (wv gs n n))) (ZW (Xn (natL (ZU p))) (cidx (vtx (wv gs n n)))):=dst_of (by rw[XW,hE.1];exact ht) (fun v x hx=>by
  rw[gDg,natL,List.getElem?_map]at hx
  cases hv:(ZU p)[v]? with
  | none=>rw[hv]at hx;cases hx
  | some l =>
   rw[hv]at hx
   obtain⟨y,hy,rfl⟩:=List.mem_map.1 hx
   have:=(hE.2.2 l (mGe hv)).2 y hy
   rw[XW,hE.1];omega)
 have hd:=ZhP hp hG hdst rfl rfl
 refine⟨((ZW (Xn (natL (ZU p))) (cidx (vtx (wv gs n n)))).getD (cidx (vtx (wv gs n 0))) (-1)).toNat+1,by omega,by omega,fun _ _ _ hg=>path_any hg (okGC hp) hE (fun l hl=>by have:=Zav hp l hl;omega) (by omega) hf ht hd.1⟩
end
theorem Yl.subK{P:Program}{a:Act}{W:World}{o:Oper}{S D:TypeId}{x z:Operand}{p q r:Int}(ho:o.op=.binOp .sub S x z D)(hx:a.eval x=.int .i64 p)(hz:a.eval z=.int .i64 q)(h:-4000000000000000000≤p-q∧p-q≤4000000000000000000)(e:p-q=r):Yl P o a W (VC (.int .i64 r)):=by
 subst e
 exact .subI ho hx hz h
end
section
open Go.RowKit Go.WideShapes Go.ChangeShapes Go.Joins Go.Deep FF
section
variable {H:Type}{enc:TypeId × Value→H}{P:Program}{w:World}{base:Nat}{spare:Nat→Bool}{held:Bool}
theorem u8_of_wf{a:Int}(h:(Lit.int .u8 a).wf=true):0≤a∧a<256:=by
 simp[Lit.wf,IntKind.min,IntKind.max,IntKind.bits,IntKind.signed]at h
 exact⟨by omega,by omega⟩
theorem ZgI{a:Addr}{v:Value}(h:w.cell? (a.add 0)=some v):∃ b o,a=⟨b,o,none⟩∧b<w.heap.size:=by
 obtain⟨b,o,spot⟩:=a
 have hspot:spot=none:=by simpa[Addr.add] using World.cell?_spot h
 subst hspot
 exact⟨b,o,rfl,Zg7 (by rwa [Go.WideShapes.add_plain]at h)⟩
theorem ZdD{t ti:TypeId}{fuel:Nat}{v:Value}{x:DataW H × List MemPlace}(ht:P.underlying t=some (.slice ti))(hc:P.cellsOf ti=1)(hi:P.underlying ti=some (.int .u8))(h:DataW.trod enc P w base spare held fuel t [v]=some x) :
  ∃ (A:Option Addr) (L:List Int) (c:Nat),v=.slice A L.length c∧Sl eU8 L (.slice A L.length c) w∧(∀ x∈L,0≤x∧x<256)∧L.length≤maxLen:=by
 rcases open_slice1 ht hc h with⟨hcs,_⟩ | ⟨a,len,cap,m,n,V,D,Pl,hcs,_,hl,hm,hmm,_,hx⟩
 ·simp only[List.cons.injEq,and_true]at hcs
  exact⟨none,[],0,hcs,⟨none,0,rfl,Nat.le_refl _,by unfold maxLen;omega,fun h0=>absurd h0 (by simp)⟩,(fun x hx=>by cases hx),by unfold maxLen;simp⟩
 ·have hlm:len≤m:=by rw[hmm];split <;> omega
  simp only[List.cons.injEq,and_true]at hcs
  have each:∀ i,i<len→∃ q:Int,w.cell? (a.add i)=some (.int .u8 q)∧0≤q∧q<256:=by
   intro i hi'
   obtain⟨h0,h1⟩:=hx i (by omega)
   obtain⟨a0,g0,_,w0⟩:=DataW.trod_int hi h1
   injection g0 with g0
   exact⟨a0,by rw[h0,g0],u8_of_wf w0⟩
  obtain⟨q,hq⟩:=choose_lt each
  have hlen:((List.range len).map q).length=len:=by simp
  refine⟨some a,(List.range len).map q,cap,by rw[hlen];exact hcs,⟨some a,cap,rfl,by rw[hlen];omega,hm,fun hp=>?_⟩,fun x hx=>?_,by rw[hlen];omega⟩
  ·rw[hlen]at hp
   obtain⟨b,o,rfl,hb⟩:=ZgI (hq 0 hp).1
   refine⟨b,o,rfl,hb,fun i z hz=>?_⟩
   have hi':=(List.getElem?_eq_some_iff.1 hz).1
   rw[hlen]at hi'
   rw[List.getElem?_map,List.getElem?_range hi']at hz
   have hz':q i=z:=oSi hz
   refine⟨[.int .u8 z],rfl,fun d u hd=>?_⟩
   have hd0:d=0:=by have:=(List.getElem?_eq_some_iff.1 hd).1;simpa using this
   subst hd0
   have hu:u=.int .u8 z:=by simpa using hd.symm
   rw[hu,← hz',← (hq i hi').1,Go.WideShapes.add_plain]
   show w.cell? ⟨b,o+i*1+0,none⟩=_
   rw[Nat.mul_one];rfl
  ·obtain⟨i,hi',rfl⟩:=List.mem_map.1 hx
   exact(hq i (List.mem_range.1 hi')).2
theorem ZgJ{t ti:TypeId}{v:Value}{d:DataW H}{p:List MemPlace}(ht:P.underlying t=some (.slice ti))(hc:P.cellsOf ti=1)(hi:P.underlying ti=some (.int .u8)){r:Reach}{b0:Nat}(hv:Value.okWide P w r b0 t v)(h:DataW.Trod enc P w base spare held t v d p) :
  ∃ (A:Option Addr) (L:List Int) (c:Nat),v=.slice A L.length c∧Sl eU8 L (.slice A L.length c) w∧(∀ x∈L,0≤x∧x<256)∧L.length≤maxLen:=by
 obtain⟨va,vl,vc,rfl⟩:=okWide_slice ht hv
 obtain⟨fuel,hf⟩:=h
 exact ZdD ht hc hi hf
end
end
end Go.Proofs.YthkklilhjnpedaaGreatDoor
