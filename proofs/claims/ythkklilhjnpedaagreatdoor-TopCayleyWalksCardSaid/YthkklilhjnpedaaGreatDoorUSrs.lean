/- Distances in a graph, in the program. -/
import Derived.Test.YthkklilhjnpedaaGreatDoorUOas
import Derived.Test.YthkklilhjnpedaaGreatDoorURep
import Derived.Test.YthkklilhjnpedaaGreatDoorUMdk
set_option maxHeartbeats 16000000
set_option maxRecDepth 8000
namespace Go.Proofs.YthkklilhjnpedaaGreatDoor
section
open Go.RowKit FF
attribute [local go_sem] Oper.semAt_some
def RowN(g:Nat)(l:List Int)(W:World):Prop:=W.heap[g]?=some (.cells (l.map (Value.int .i64)).toArray 3 (0,0))
def RowB(g:Nat)(l:List Bool)(W:World):Prop:=W.heap[g]?=some (.cells (l.map Value.bool).toArray 4 (0,0))
def BoxSl(R:Nat)(v:Value)(W:World):Prop:=W.heap[R]?=some (.cells #[v] 40 (0,0))
section
variable {g R:Nat}{l:List Int}{s:List Bool}{v:Value}{W W':World}
theorem RowN.lt(h:RowN g l W):g<W.heap.size:=(Array.getElem?_eq_some_iff.1 h).1
theorem RowB.lt(h:RowB g s W):g<W.heap.size:=(Array.getElem?_eq_some_iff.1 h).1
theorem BoxSl.lt(h:BoxSl R v W):R<W.heap.size:=(Array.getElem?_eq_some_iff.1 h).1
theorem RowN.cell(h:RowN g l W){i:Nat}{z:Int}(hz:l[i]?=some z):W.cell? ⟨g,i,none⟩=some (.int .i64 z):=by
 simp only[World.cell?,show W.heap[g]?=_ from h]
 rw[if_neg (by simp),List.getElem?_toArray,List.getElem?_map,hz];rfl
theorem RowN.cellD(h:RowN g l W){i:Nat}(hi:i<l.length):W.cell? ⟨g,i,none⟩=some (.int .i64 (l.getD i 0)):=h.cell (by rw[gEe hi,gDg,gEe hi];rfl)
theorem RowN.f(h:RowN g l W)(i:Nat):W.frozen? ⟨g,i,none⟩=false:=by simp[World.frozen?,show W.heap[g]?=_ from h]
theorem RowB.cell(h:RowB g s W){i:Nat}{z:Bool}(hz:s[i]?=some z):W.cell? ⟨g,i,none⟩=some (.bool z):=by
 simp only[World.cell?,show W.heap[g]?=_ from h]
 rw[if_neg (by simp),List.getElem?_toArray,List.getElem?_map,hz];rfl
theorem RowB.f(h:RowB g s W)(i:Nat):W.frozen? ⟨g,i,none⟩=false:=by simp[World.frozen?,show W.heap[g]?=_ from h]
theorem BoxSl.c0(h:BoxSl R v W):W.cell? ⟨R,0,none⟩=some v:=by simp[World.cell?,show W.heap[R]?=_ from h]
theorem RowN.set(h:RowN g l W)(i:Nat)(z:Int):RowN g (l.set i z) (W.setCell ⟨g,i,none⟩ (.int .i64 z)):=by
 have hh:W.heap[g]?=_:=h
 unfold RowN
 simp[World.setCell,Array.getElem?_modify,hh,List.map_set]
theorem RowB.set(h:RowB g s W)(i:Nat)(z:Bool):RowB g (s.set i z) (W.setCell ⟨g,i,none⟩ (.bool z)):=by
 have hh:W.heap[g]?=_:=h
 unfold RowB
 simp[World.setCell,Array.getElem?_modify,hh,List.map_set]
theorem RowN.alt{row:Option Nat}(h:RowN g l W)(ha:Alt row W W')(hn:row≠some g):RowN g l W':=(ha.block g h.lt (fun e=>hn e.symm)).trans h
theorem RowB.alt{row:Option Nat}(h:RowB g s W)(ha:Alt row W W')(hn:row≠some g):RowB g s W':=(ha.block g h.lt (fun e=>hn e.symm)).trans h
theorem BoxSl.alt{row:Option Nat}(h:BoxSl R v W)(ha:Alt row W W')(hn:row≠some R):BoxSl R v W':=(ha.block R h.lt (fun e=>hn e.symm)).trans h
theorem RowN.keep(h:RowN g l W)(hb:Below W.heap.size W W'):RowN g l W':=h.alt (.below hb) (fun e=>by cases e)
theorem RowB.keep(h:RowB g s W)(hb:Below W.heap.size W W'):RowB g s W':=h.alt (.below hb) (fun e=>by cases e)
theorem BoxSl.keep(h:BoxSl R v W)(hb:Below W.heap.size W W'):BoxSl R v W':=h.alt (.below hb) (fun e=>by cases e)
end
theorem Yj{W:World}{g g':Nat}{c c':Array Value}{T T':TypeId}(h:W.heap[g]?=some (.cells c T (0,0)))(h':W.heap[g']?=some (.cells c' T' (0,0)))(hT:T≠T'):g≠g':=fun e=>by
 subst e
 rw[h]at h'
 injection h' with h'
 injection h' with _ k
 exact hT k
structure VsS(w0:World)(gO R5 n:Nat)(out:List Int)(W:World):Prop where
 below:Below w0.heap.size w0 W
 o:RowN gO out W
 b:BoxSl R5 (.slice (some ⟨gO,0,none⟩) n n) W
 ge:w0.heap.size≤gO
 ge5:w0.heap.size≤R5
 lo:out.length=n
structure SrS(w0:World)(gO gS gQ R5 n:Nat)(out:List Int)(s:List Bool)(q:List (Nat × Nat))(qv:Value)(W:World):Prop where
 vs:VsS w0 gO R5 n out W
 rs:RowB gS s W
 q:QuP w0.heap.size gQ qv q W
 geS:w0.heap.size≤gS
 ls:s.length=n
section
variable {w0 W W':World}{gO gS gQ R5 n:Nat}{out:List Int}{s:List Bool}{q:List (Nat × Nat)}{qv:Value}
theorem VsS.keep(h:VsS w0 gO R5 n out W)(hb:Below W.heap.size W W'):VsS w0 gO R5 n out W':=⟨h.below.trans (hb.mono h.below.size),h.o.keep hb,h.b.keep hb,h.ge,h.ge5,h.lo⟩
theorem SrS.keep(h:SrS w0 gO gS gQ R5 n out s q qv W)(hb:Below W.heap.size W W'):SrS w0 gO gS gQ R5 n out s q qv W':=⟨h.vs.keep hb,h.rs.keep hb,h.q.keep hb,h.geS,h.ls⟩
theorem VsS.put(h:VsS w0 gO R5 n out W)(i:Nat)(z:Int):VsS w0 gO R5 n (out.set i z) (W.setCell ⟨gO,i,none⟩ (.int .i64 z)):=by
 have ha:Alt (some gO) W (W.setCell ⟨gO,i,none⟩ (.int .i64 z)):=.only (Only.setCell W gO i _)
 refine⟨h.below.setCell h.ge _,h.o.set i z,h.b.alt ha (fun e=>?_),h.ge,h.ge5,by rw[List.length_set,h.lo]⟩
 exact Yj h.o h.b (by decide) (oSi e)
theorem SrS.put(h:SrS w0 gO gS gQ R5 n out s q qv W)(i:Nat)(z:Int):SrS w0 gO gS gQ R5 n (out.set i z) s q qv (W.setCell ⟨gO,i,none⟩ (.int .i64 z)):=by
 have ha:Alt (some gO) W (W.setCell ⟨gO,i,none⟩ (.int .i64 z)):=.only (Only.setCell W gO i _)
 obtain⟨c,hc⟩:=h.q.tag
 exact⟨h.vs.put i z,h.rs.alt ha (fun e=>Yj h.vs.o h.rs (by decide) (oSi e)),h.q.alt ha (fun e=>Yj h.vs.o hc (by decide) (oSi e)),h.geS,h.ls⟩
theorem SrS.mark(h:SrS w0 gO gS gQ R5 n out s q qv W)(i:Nat)(z:Bool):SrS w0 gO gS gQ R5 n out (s.set i z) q qv (W.setCell ⟨gS,i,none⟩ (.bool z)):=by
 have ha:Alt (some gS) W (W.setCell ⟨gS,i,none⟩ (.bool z)):=.only (Only.setCell W gS i _)
 obtain⟨c,hc⟩:=h.q.tag
 refine⟨⟨h.vs.below.setCell h.geS _,h.vs.o.alt ha (fun e=>?_),h.vs.b.alt ha (fun e=>?_),h.vs.ge,h.vs.ge5,h.vs.lo⟩,h.rs.set i z,h.q.alt ha (fun e=>Yj h.rs hc (by decide) (oSi e)),h.geS,by rw[List.length_set,h.ls]⟩
 ·exact Yj h.rs h.vs.o (by decide) (oSi e)
 ·exact Yj h.rs h.vs.b (by decide) (oSi e)
theorem SrS.push{gQ':Nat}{q':List (Nat × Nat)}{qv':Value}(h:SrS w0 gO gS gQ R5 n out s q qv W)(hg:W.grownBy W' (some gQ))(hq:QuP w0.heap.size gQ' qv' q' W'):SrS w0 gO gS gQ' R5 n out s q' qv' W':=by
 have ha:Alt (some gQ) W W':=.grown hg
 obtain⟨c,hc⟩:=h.q.tag
 refine⟨⟨Below.grown h.vs.below hg h.vs.below.size (fun g e=>by injection e with e;have:=h.q.ge;omega),h.vs.o.alt ha (fun e=>?_),h.vs.b.alt ha (fun e=>?_),h.vs.ge,h.vs.ge5,h.vs.lo⟩,h.rs.alt ha (fun e=>Yj hc h.rs (by decide) (oSi e)),hq,h.geS,h.ls⟩
 ·exact Yj hc h.vs.o (by decide) (oSi e)
 ·exact Yj hc h.vs.b (by decide) (oSi e)
def exV(w0:World)(gO gS gQ R5 n:Nat)(out:List Int)(s:List Bool)(q:List (Nat × Nat))(qv:Value)(i:Nat)(z:Int):Nat→World→Prop
 | 0,W=>SrS w0 gO gS gQ R5 n out s q qv W
 | _,W=>SrS w0 gO gS gQ R5 n (out.set i z) s q qv W
theorem exV.zS{i:Nat}{z:Int}{k:Nat}(hk:k≤0)(h:exV w0 gO gS gQ R5 n out s q qv i z k W):SrS w0 gO gS gQ R5 n out s q qv W:=by
 obtain rfl:k=0:=by omega
 exact h
theorem exV.o{i:Nat}{z:Int}(h:exV w0 gO gS gQ R5 n out s q qv i z 1 W):SrS w0 gO gS gQ R5 n (out.set i z) s q qv W:=h
theorem exV.keep{i:Nat}{z:Int}:∀ j,Keeps (fun _=>exV w0 gO gS gQ R5 n out s q qv i z j)
 | 0,_,_,_,h,hb=>SrS.keep h hb
 | _+1,_,_,_,h,hb=>SrS.keep h hb
theorem K3{P:Program}{a:Act}{o:Oper}{b i:Nat}(h:Yl P o a W (VC (.pointer (some ⟨b,0+i*1,none⟩)))):Yl P o a W (VC (.pointer (some ⟨b,i,none⟩))):=by
 rw[Nat.zero_add,Nat.mul_one]at h
 exact h
end
theorem Zjp{w0 w:World}{gO gS gQ R3 R5 n frm:Nat}{out:List Int}{s:List Bool}{q:List (Nat × Nat)}{qv:Value}{e:Nat × Nat}(h:SrS w0 gO gS gQ R5 n out s q qv w)(h3:w0.cell? ⟨R3,0,none⟩=some (.int .i64 (frm:Int)))(h3l:R3<w0.heap.size)
  (he:e.2<n) (he1:e.2≠frm→e.1<n) (hbo:∀ x∈out,-1≤x∧x≤1000000) (hn:n≤100000) :
  Calls Tryz.prog 78 #[.int .i64 (e.2:Int),.int .i64 (e.1:Int),.pointer (some ⟨R3,0,none⟩),.pointer (some ⟨R5,0,none⟩)] w fun x W=>x=.returned (.bool true)∧SrS w0 gO gS gQ R5 n (out.set e.2 (pend frm out e)) s q qv W:=by
 go_enter Tryz.func78,Tryz.ntmps78
 have q3:w.cell? ⟨R3,0,none⟩=some (.int .i64 (frm:Int)):=(h.vs.below.cell (p:=⟨R3,0,none⟩) h3l).trans h3
 have q5:=h.vs.b.c0
 have HS:=lhd h;have HBo:=lhd hbo;have HL2:=lhd he;have HL2O:=lhd (show e.2<out.length by rw[h.vs.lo];exact he);have HNn:=lhd hn;have HE1:=lhd he1
 clear h h3 h3l hbo hn he1
 by_cases hf:e.2=frm
 ·have df:((e.2:Int) == (frm:Int))=true:=by simp[hf]
  have hp:pend frm out e=0:=by unfold pend;rw[if_pos hf]
  rw[hp]
  have c0:=HS.out.vs.o.cellD HL2O.out
  have f0:=HS.out.vs.o.f e.2
  have dl:(e.2:Int)<(n:Int):=by omega
  clear hf hp
  go_wp2_with fail
  go_ret
  exact⟨rfl,HS.out.put e.2 0⟩
 ·have df:((e.2:Int) == (frm:Int))=false:=by simp;omega
  have hp:pend frm out e=out.getD e.1 (-1)+1:=by unfold pend;rw[if_neg hf]
  have hlt:=HE1.out hf
  obtain⟨zo,hzo⟩:∃ z,out[e.1]?=some z:=⟨_,gEe (by rw[HS.out.vs.lo];exact hlt)⟩
  have hz2:out.getD e.1 (-1)=zo:=by rw[gDg,hzo];rfl
  rw[hp,hz2]
  have hbz:=HBo.out zo (mGe hzo)
  have HL1:=lhd hlt;have HZ:=lhd hzo;have HZb:=lhd (show -4000000000000000000≤zo+1∧zo+1≤4000000000000000000 by omega)
  obtain⟨i0,hi0,-,hz1,-⟩:=info_parts ZM
  clear hf hp hlt hzo hz2 hbz he
  go_wp2_with fail
  refine YD [8] [0,0,0,0,0,0,0,0,0] [(0,13,VC (.slice (some ⟨gO,0,none⟩) n n)),(1,14,VC (.int .i64 (e.2:Int))),(2,15,VC (.slice (some ⟨gO,0,none⟩) n n)),(3,16,VC (.int .i64 (e.1:Int))),(4,17,VC (.pointer (some ⟨gO,e.1,none⟩))),(5,18,VC (.int .i64 zo)),(6,19,VC (.int .i64 (zo+1))),(7,20,VC (.pointer (some ⟨gO,e.2,none⟩)))] (exV w0 gO gS gQ R5 n out s q qv e.2 (zo+1)) [13,14,15,16,17,18,19,20] (by kernel_rfl) (by kernel_rfl) (by kernel_rfl) (by kernel_rfl) (by kernel_rfl) (by decide) ⟨kv,kv,kv,kv,kv,kv,kv,kv,trivial⟩ exV.keep HS.out (Zl ⟨?_,?_,?_,?_,?_,?_,?_,?_,?_,trivial⟩) (by kernel_rfl) ?_
  ·exact .yld rfl rfl rfl fun y W k hk hE hV hU=>.load1 rfl (fou (v:=.pointer (some ⟨R5,0,none⟩))) (Za Tryz.underlying40 rfl (exV.zS hk hE).vs.b.c0) rfl
  ·exact .yld rfl rfl rfl fun y W k hk hE hV hU=>.move rfl (fou (v:=.int .i64 (e.2:Int))) rfl
  ·exact .yld rfl rfl rfl fun y W k hk hE hV hU=>.load1 rfl (fou (v:=.pointer (some ⟨R5,0,none⟩))) (Za Tryz.underlying40 rfl (exV.zS hk hE).vs.b.c0) rfl
  ·exact .yld rfl rfl rfl fun y W k hk hE hV hU=>.move rfl (fou (v:=.int .i64 (e.1:Int))) rfl
  ·exact .yld rfl rfl rfl fun y W k hk hE hV hU=>K3 (Yl.rowAt Tryz.underlying40 hi0 hz1 rfl (fgt hV 2 rfl) (fgt hV 3 rfl) HL1.out)
  ·exact .yld rfl rfl rfl fun y W k hk hE hV hU=>.load1 rfl (fgt hV 4 rfl) (Za Tryz.underlying3 rfl ((exV.zS hk hE).vs.o.cell HZ.out)) rfl
  ·exact .yld rfl rfl rfl fun y W k hk hE hV hU=>Yl.addI rfl (fgt hV 5 rfl) rfl HZb.out
  ·exact .yld rfl rfl rfl fun y W k hk hE hV hU=>K3 (Yl.rowAt Tryz.underlying40 hi0 hz1 rfl (fgt hV 0 rfl) (fgt hV 1 rfl) HL2.out)
  ·exact .sto 0 rfl rfl rfl rfl fun y W hE hV hU=>Ye.store rfl (fgt hV 7 rfl) (fgt hV 6 rfl) rfl Tryz.sizeOf3 ((exV.zS (nlr _) hE).vs.o.cellD HL2O.out) ((exV.zS (nlr _) hE).vs.o.f _) ⟨(exV.zS (nlr _) hE).put e.2 (zo+1),⟨.inr fun _ h=>h,.inr fun _ h=>h,.inr fun _ h=>h,.inr fun _ h=>h,.inr fun _ h=>h,.inr fun _ h=>h,.inr fun _ h=>h,.inr fun _ h=>h,trivial⟩⟩
  intro y W9 hE9 hV9
  generalize hact:fr _ _ y=act
  simp only[fr,Zf,fC0,fN0,sA0,sZ0,sS0]at hact
  subst hact
  have HE9:=lhd (exV.o hE9)
  clear hE9 hV9
  go_wp2_with fail
  go_ret
  exact⟨rfl,HE9.out⟩
end
section
open Go.RowKit FF
attribute [local go_sem] Oper.semAt_some
theorem K4(v w:Nat):∀ (l:List Nat) (s:List Bool) (q:List (Nat × Nat)),ZR v (l++[w]) s q=if (ZR v l s q).1.getD w true then ZR v l s q else ((ZR v l s q).1.set w true,(ZR v l s q).2++[(v,w)])
 | [],s,q=>by
  simp only[List.nil_append,ZR]
  rfl
 | x::l,s,q=>by
  simp only[List.cons_append,ZR]
  split
  ·exact K4 v w l s q
  ·exact K4 v w l _ _
theorem ZaT{v:Nat}{x:Nat × Nat}:∀ {l:List Nat} {s:List Bool} {q:List (Nat × Nat)},x∈(ZR v l s q).2→x∈q∨(x.1=v∧x.2∈l)
 | [],_,_,h=>.inl h
 | w::l,s,q,h=>by
  unfold ZR at h
  split at h
  ·rcases ZaT h with h1 | ⟨h1,h2⟩
   ·exact .inl h1
   ·exact .inr ⟨h1,List.mem_cons_of_mem _ h2⟩
  ·rcases ZaT h with h1 | ⟨h1,h2⟩
   ·rcases List.mem_append.1 h1 with h3 | h3
    ·exact .inl h3
    ·obtain rfl:=List.mem_singleton.1 h3
     exact .inr ⟨rfl,List.mem_cons_self ..⟩
   ·exact .inr ⟨h1,List.mem_cons_of_mem _ h2⟩
def natL(edges:List (List Int)):List (List Nat):=edges.map fun l=>l.map Int.toNat
theorem XW(edges:List (List Int)):(natL edges).length=edges.length:=List.length_map ..
theorem ZbS{edges:List (List Int)}{i:Nat}{l:List Int}(h:edges[i]?=some l):(natL edges).getD i []=l.map Int.toNat:=by
 rw[gDg,natL,List.getElem?_map,h];rfl
def ZaU(edges:List (List Int))(n:Nat):Prop:=edges.length=n∧n≤100000∧∀ l∈edges,l.length≤100000∧∀ v∈l,0≤v∧v<(n:Int)
def SrhR(nx:List (List Nat))(frm n:Nat)(w0:World)(gO gS R5:Nat)(gk:Nat)(v:Value)(W:World):Prop:=
 ∃ s q out gQ,bfsL nx frm gk s q out=ZW nx frm∧SrS w0 gO gS gQ R5 n out s q v W∧gk=s.count false+q.length+1∧gk≤100001∧(∀ e∈q,e.2<n∧(e.2≠frm→e.1<n))∧∀ x∈out,-1≤x∧x+gk≤200000
theorem Zbi{l:List (List Int)}{b o n c:Nat}{W:World}(h:Sl eRow l (.slice (some ⟨b,o,none⟩) n c) W){i:Nat}{z:List Int}(hi:l[i]?=some z):∃ u,W.cell? ⟨b,o+i,none⟩=some u∧NP z u W∧b<W.heap.size:=by
 obtain⟨b',o',u,e,h1,h2,h3⟩:=ZP h hi
 injection e with e
 injection e with e1 e2
 subst e1 e2
 exact⟨u,h2,h3,h1⟩
theorem Ze0{P:Program}{a:Act}{W:World}{o:Oper}{b i:Nat}(h:Yl P o a W (VC (.pointer (some ⟨b,i+0*2,none⟩)))):Yl P o a W (VC (.pointer (some ⟨b,i,none⟩))):=by
 rw[Nat.zero_mul,Nat.add_zero]at h
 exact h
theorem Ye.callC {P : Program} {W : World} {o : Oper} {a : Act} {q : Value → World → Prop} {c : Call} {f : FuncId} {fn : Func} {b : Code} {x : Operand} {bs args caps : Array Value} (hf : P.funcs[f]? = some fn) (hname : (fn.name == "runtime.NumGoroutine") = false) (hb : fn.body = some b) (ho : o.op = .call c) (hc : c.callee = .value x)
  (hx:a.eval x=.func (.func f) #[] caps) (ha:c.args.map a.eval=bs) (hargs:bs++caps=args) (hq:Calls P f args W fun e W'=>∃ v,e=.returned v∧q v W'):Ye P o a W q:=by
 refine⟨fun K Q' hK=>?_⟩
 have h1:(callFunc f args).run P W=.ok (.enter f args) W:=by
  unfold callFunc
  have hn : ¬ fn.name = "runtime.NumGoroutine" := by simpa using hname
  simp[hf,hn,hb]
 have h2:(execOp a.eval o).run P W=.ok (.enter f args) W:=by
  subst hargs ha
  simp[execOp,ho,resolve,hc,hx,Deferred.ofValue,invoke,h1]
 unfold Oper.wp;rw[h2]
 show Calls P f args W _
 refine hq.mono ?_
 rintro e w' ⟨v,rfl,hv⟩
 exact hK v w' hv
theorem Zhx(N:Nat):madeCells #[.bool false] N=((List.replicate N false).map Value.bool).toArray:=by
 have h:=UO (z:=#[.bool false]) (by decide) N (false:Bool)
 rw[show N*(#[Value.bool false]:Array Value).size=N from Nat.mul_one N]at h
 apply Array.ext'
 rw[h]
 have:∀ n,Zk (List.replicate n (false,(#[Value.bool false]:Array Value).toList))=List.replicate n (.bool false):=by
  intro n
  induction n with
  | zero=>rfl
  | succ n ih=>rw[List.replicate_succ,List.replicate_succ,← ih];rfl
 rw[this]
 simp
theorem Zjq{n frm:Nat}(h:frm<n):((List.replicate n false).set frm true).count false+1=n:=by
 have h3:=List.count_set (l:=List.replicate n false) (a:=true) (b:=false) (i:=frm) (by simpa using h)
 rw[List.count_replicate_self]at h3
 simp at h3
 omega
theorem Zhy{w0 w:World}{gO R3 R5 n frm:Nat}{edges:List (List Int)}{bN oN cN:Nat}(hv:VsS w0 gO R5 n (List.replicate n (-1)) w)(h3:w0.cell? ⟨R3,0,none⟩=some (.int .i64 (frm:Int)))(h3l:R3<w0.heap.size)
  (hn:Sl eRow edges (.slice (some ⟨bN,oN,none⟩) n cN) w0) (hok:ZaU edges n) (hf:frm<n) :
  Calls Tryz.prog 77 #[.slice (some ⟨bN,oN,none⟩) n cN,.int .i64 (frm:Int),.func (.func 78) #[] #[.pointer (some ⟨R3,0,none⟩),.pointer (some ⟨R5,0,none⟩)]] w fun x W=>x=.returned (.tuple #[])∧VsS w0 gO R5 n (ZW (natL edges) frm) W:=by
 go_enter Tryz.func77,Tryz.ntmps77
 have hmk:=Zi9 n (by have:=hok.2.1;omega) w
 have HV:=lhd hv;have H3:=lhd h3;have H3l:=lhd h3l;have HN:=lhd hn;have HOk:=lhd hok;have HF:=lhd hf;have HNn:=lhd hok.2.1
 clear hv h3 h3l hn hok
 go_upto_region 1 with fail
 have hA:=(brf w.heap.size w).alloc (nlr _) (.cells (madeCells #[.bool false] n) 4)
 have hg0:=heap_alloc_new w (.cells (madeCells #[.bool false] n) 4)
 obtain⟨WA,hWA⟩:=nmx (w.alloc (.cells (madeCells #[.bool false] n) 4))
 obtain⟨gS,hgS⟩:=nmx (w.heap.size)
 rw[← hWA]at hA hg0 ⊢
 rw[← hgS]at hg0 ⊢
 rw[Zhx]at hg0
 have HVA:=lhd (HV.out.keep hA);have HRA:=lhd (show RowB gS (List.replicate n false) WA from hg0)
 have HgS:=lhd (show w0.heap.size≤gS by have:=HV.out.below.size;omega)
 have hcs:WA.cell? ⟨gS,frm,none⟩=some (.bool false):=HRA.out.cell (by rw[List.getElem?_replicate,if_pos HF.out])
 have hfs:=HRA.out.f frm
 clear hA hg0 hWA hgS hmk
 go_upto_region 2 with fail
 have ha1:Alt (some gS) WA (WA.setCell ⟨gS,frm,none⟩ (.bool true)):=.only (Only.setCell WA gS frm _)
 have hv1:VsS w0 gO R5 n (List.replicate n (-1)) (WA.setCell ⟨gS,frm,none⟩ (.bool true)):=
  ⟨HVA.out.below.setCell HgS.out _,HVA.out.o.alt ha1 (fun e=>Yj HRA.out HVA.out.o (by decide) (oSi e)),HVA.out.b.alt ha1 (fun e=>Yj HRA.out HVA.out.b (by decide) (oSi e)),HVA.out.ge,HVA.out.ge5,HVA.out.lo⟩
 have hr1:=HRA.out.set frm true
 obtain⟨WB,hWB⟩:=nmx (WA.setCell ⟨gS,frm,none⟩ (.bool true))
 rw[← hWB]at hv1 hr1 ⊢
 have HVB:=lhd hv1;have HRB:=lhd hr1
 clear ha1 hv1 hr1 hWB hcs hfs hf
 go_upto_region 3 with fail
 have hA:=(brf WB.heap.size WB).alloc (nlr _) (.cells #[.int .i64 (frm:Int),.int .i64 (frm:Int)] 163)
 have hq:=QuP.new (w:=WB) (frm,frm) HVB.out.below.size
 obtain⟨WC,hWC⟩:=nmx (WB.alloc (.cells #[.int .i64 (frm:Int),.int .i64 (frm:Int)] 163))
 obtain⟨gQ0,hgQ0⟩:∃ gQ,gQ=WB.heap.size:=⟨_,rfl⟩
 rw[← hWC]at hA hq ⊢
 rw[← hgQ0]at hq ⊢
 have HSC:=lhd (show SrS w0 gO gS gQ0 R5 n (List.replicate n (-1)) ((List.replicate n false).set frm true) [(frm,frm)] (.slice (some ⟨gQ0,0,none⟩) 1 1) WC from⟨HVB.out.keep hA,HRB.out.keep hA,hq,HgS.out,by rw[List.length_set,List.length_replicate]⟩)
 clear hA hq hWC hgQ0
 have HLn:=lhd (show(natL edges).length=n by rw[XW];exact HOk.out.1)
 go_loopg [7] (n+1) (fun gk s7 wr=>SrhR (natL edges) frm n w0 gO gS R5 gk s7 wr)
 case atStart =>
  refine⟨_,_,_,gQ0,?_,HSC.out,?_,by have:=HNn.out;omega,?_,?_⟩
  ·unfold ZW;rw[HLn.out]
  ·have:=Zjq HF.out;rw[List.length_singleton];omega
  ·intro e he;obtain rfl:=List.mem_singleton.1 he;exact⟨HF.out,fun h=>absurd rfl h⟩
  ·intro x hx;rw[(List.mem_replicate.1 hx).2];have:=HNn.out;omega
 case round =>
  obtain⟨s,q,out,gQ,hbf,hS,hgk,hgb,hq,ho⟩:=hrel
  obtain⟨off,cap,rfl,hc1,hc2⟩:=hS.q.form
  rcases q with _ | ⟨e,q⟩
  ·have HS:=lhd hS
   have hd:out=ZW (natL edges) frm:=by
    rw[← hbf]
    cases gk <;> rfl
   have HD:=lhd hd
   clear hd hbf hS hgk hgb hq ho hc1 hc2
   go_wp2_with fail
   go_end0
   exact⟨rfl,by rw[← HD.out];exact HS.out.vs⟩
  ·obtain⟨k,rfl⟩:∃ k,gk=k+1:=⟨gk-1,by omega⟩
   have hbf2:bfsL (natL edges) frm k (ZR e.2 ((natL edges).getD e.2 []) s q).1 (ZR e.2 ((natL edges).getD e.2 []) s q).2 (out.set e.2 (pend frm out e))=ZW (natL edges) frm:=hbf
   have he:=hq e lm0
   obtain⟨er,her⟩:∃ er,edges[e.2]?=some er:=⟨_,gEe (by rw[HOk.out.1];exact he.1)⟩
   have hnl:=ZbS her
   rw[hnl]at hbf2
   obtain⟨hel,hev⟩:=HOk.out.2.2 er (mGe her)
   have HBf:=lhd hbf2;have HE2:=lhd he.1;have HE1:=lhd he.2;have HEr:=lhd her;have HEl:=lhd hel;have HEv:=lhd hev
   have HBo:=lhd (show ∀ x∈out,-1≤x∧x≤1000000 from fun x hx=>by have:=ho x hx;omega)
   have HOo:=lhd ho;have HQ:=lhd (fun x (hx:x∈q)=>hq x (List.mem_cons_of_mem _ hx));have HGk:=lhd hgk;have HGb:=lhd hgb
   obtain⟨nq,hnq⟩:=nmx ((e::q).length)
   rw[← hnq]at hS ⊢
   have HS:=lhd hS;have HNq:=lhd (show 0<nq by rw[hnq,List.length_cons];omega);have HNe:=lhd hnq
   have d3:=deT HNq.out
   have d4:decide ((0:Int)<(nq:Int))=true:=deT (by have:=HNq.out;omega)
   obtain⟨ie,hie,-,hze,-⟩:=info_parts ZaJ
   clear hbf hbf2 he her hnl hel hev ho hq hgk hgb hnq hS hc1 hc2
   go_wp2_with fail
   refine YD [9] [0,0,0,0,0,0,0,0,0,0,1] [(0,25,VC (.func (.func 78) #[] #[.pointer (some ⟨R3,0,none⟩),.pointer (some ⟨R5,0,none⟩)])),(1,26,VC (.slice (some ⟨gQ,off,none⟩) nq cap)),(2,27,VC (.pointer (some ⟨gQ,off,none⟩))),(3,28,VC (.pointer (some ⟨gQ,off+1,none⟩))),(4,29,VC (.int .i64 (e.2:Int))),(5,30,VC (.slice (some ⟨gQ,off,none⟩) nq cap)),(6,31,VC (.pointer (some ⟨gQ,off,none⟩))),(7,32,VC (.pointer (some ⟨gQ,off,none⟩))),(8,33,VC (.int .i64 (e.1:Int))),(9,34,VC (.bool true)),(10,35,VC (.bool false))] (exV w0 gO gS gQ R5 n out s (e::q) (.slice (some ⟨gQ,off,none⟩) nq cap) e.2 (pend frm out e)) [25,26,27,28,29,30,31,32,33,34,35] (by kernel_rfl) (by kernel_rfl) (by kernel_rfl) (by kernel_rfl) (by kernel_rfl) (by decide) ⟨kv,kv,kv,kv,kv,kv,kv,kv,kv,kv,kv,trivial⟩ exV.keep HS.out (Zl ⟨?_,?_,?_,?_,?_,?_,?_,?_,?_,?_,?_,trivial⟩) (by kernel_rfl) ?_
   ·exact .yld rfl rfl rfl fun y W k hk hE hV hU=>.move rfl (fou (v:=.func (.func 78) #[] #[.pointer (some ⟨R3,0,none⟩),.pointer (some ⟨R5,0,none⟩)])) rfl
   ·exact .yld rfl rfl rfl fun y W k hk hE hV hU=>.move rfl (fou (v:=.slice (some ⟨gQ,off,none⟩) nq cap)) rfl
   ·exact .yld rfl rfl rfl fun y W k hk hE hV hU=>Ze0 (Yl.rowAt Tryz.underlying164 hie hze rfl (fgt hV 1 rfl) (j:=.const (.int .i64 0)) (k:=0) rfl HNq.out)
   ·exact .yld rfl rfl rfl fun y W k hk hE hV hU=>.fieldAddr rfl (fgt hV 2 rfl) (by kernel_rfl) rfl
   ·exact .yld rfl rfl rfl fun y W k hk hE hV hU=>.load1 rfl (fgt hV 3 rfl) (Za Tryz.underlying3 rfl (exV.zS hk hE).q.head.2) rfl
   ·exact .yld rfl rfl rfl fun y W k hk hE hV hU=>.move rfl (fou (v:=.slice (some ⟨gQ,off,none⟩) nq cap)) rfl
   ·exact .yld rfl rfl rfl fun y W k hk hE hV hU=>Ze0 (Yl.rowAt Tryz.underlying164 hie hze rfl (fgt hV 5 rfl) (j:=.const (.int .i64 0)) (k:=0) rfl HNq.out)
   ·exact .yld rfl rfl rfl fun y W k hk hE hV hU=>.fieldAddr rfl (fgt hV 6 rfl) (by kernel_rfl) rfl
   ·exact .yld rfl rfl rfl fun y W k hk hE hV hU=>.load1 rfl (fgt hV 7 rfl) (Za Tryz.underlying3 rfl (exV.zS hk hE).q.head.1) rfl
   ·exact .chg 0 rfl rfl rfl fun y W hE hV hU=>Ye.callC Tryz.func78 (by kernel_rfl) rfl rfl rfl (fgt hV 0 rfl) (Zg (fgt hV 4 rfl) (fgt hV 8 rfl)) rfl ((Zjp (exV.zS (nlr _) hE) H3.out H3l.out HE2.out HE1.out HBo.out HNn.out).mono fun x W2 h=>⟨_,h.1,⟨h.2,rfl,⟨.inr fun _ h=>h,.inr fun _ h=>h,.inr fun _ h=>h,.inr fun _ h=>h,.inr fun _ h=>h,.inr fun _ h=>h,.inr fun _ h=>h,.inr fun _ h=>h,.inr fun _ h=>h,.inl rfl,.inr fun _ h=>h,trivial⟩⟩⟩)
   ·exact .yld rfl rfl rfl fun y W k hk hE hV hU=>.unOp rfl (fgt hV 9 rfl) rfl rfl
   intro y W5 hE5 hV5
   have e10:y 35=_:=hend hV5 10 rfl
   generalize hact:fr _ _ y=act
   simp only[fr,Zf,fC0,fN0,sA0,sZ0,sS0,e10]at hact
   subst hact
   have hs5:=exV.o hE5
   have hbf3:=HBf.out
   obtain⟨out2,hout2⟩:∃ o,o=out.set e.2 (pend frm out e):=⟨_,rfl⟩
   obtain⟨nr,hnr⟩:∃ r,r=er.map Int.toNat:=⟨_,rfl⟩
   rw[← hout2]at hs5 hbf3
   rw[← hnr]at hbf3
   have HS5:=lhd hs5;have HBf3:=lhd hbf3;have HO2:=lhd hout2;have HNr:=lhd hnr
   clear e10 hE5 hV5 d3 d4 hie hze hs5 hbf3 hout2 hnr HBf
   have q1:=HS5.out.q.head.2
   obtain⟨u,hu0,hnp,hbl⟩:=Zbi HN.out HEr.out
   have hu:=(HS5.out.vs.below.cell (p:=⟨bN,oN+e.2,none⟩) hbl).trans hu0
   obtain⟨Au,cu,rfl,-,-⟩:=Sl.len hnp
   have hlt2:=HE2.out
   obtain⟨lu,hlu⟩:=nmx (er.length)
   rw[← hlu]at hu hnp
   have HNP:=lhd hnp
   have HLu:=lhd hlu;have HLuB:=lhd (show lu≤100000 by rw[hlu];exact HEl.out)
   clear hnp hlu hu0 hbl
   go_wp2_with fail
   go_loopw [7,44] (fun s7 s44 wr=>∃ (j gQ2:Nat),s44=.int .i64 j∧j≤lu∧SrS w0 gO gS gQ2 R5 n out2 (ZR e.2 (nr.take j) s q).1 (e::(ZR e.2 (nr.take j) s q).2) s7 wr) (fun _ s44 _=>lu-(intOf s44).toNat)
   case atStart=>exact⟨0,gQ,rfl,Nat.zero_le _,HS5.out⟩
   case round =>
    obtain⟨j,gQ2,rfl,hj,hS⟩:=hrel
    obtain⟨off2,cap2,rfl,-,hcm⟩:=hS.q.form
    obtain⟨s2,hs2⟩:=nmx ((ZR e.2 (nr.take j) s q).1)
    obtain⟨q2,hq2⟩:=nmx ((ZR e.2 (nr.take j) s q).2)
    rw[← hs2,← hq2]at hS
    rw[← hq2]
    have HS2:=lhd hs2;have HQ2:=lhd hq2;have HSr:=lhd hS;have HCm:=lhd hcm
    clear hs2 hq2 hS hcm hu q1 hlt2
    rcases Nat.lt_or_ge j lu with hlt | hge
    ·have dj:=deT (p:=(j:Int)<(lu:Int)) (by omega)
     have HJ:=lhd hlt
     obtain⟨z,hz⟩:∃ z,er[j]?=some z:=⟨_,gEe (by rw[← HLu.out];exact hlt)⟩
     obtain⟨hz0,hz1⟩:=HEv.out z (mGe hz)
     obtain⟨x,hx⟩:∃ x:Nat,z=(x:Int):=⟨z.toNat,by omega⟩
     subst hx
     have hxn:nr[j]?=some x:=by rw[HNr.out,List.getElem?_map,hz];rfl
     have HX:=lhd hxn
     have hxl:x<n:=by omega
     have HXl:=lhd hxl
     obtain⟨bE,oE,rfl,hbE,hcE⟩:=Zv (Sl.keep HNP.out HSr.out.vs.below) hz
     obtain⟨bv,hbv⟩:∃ bv,s2[x]?=some bv:=⟨_,gEe (by rw[HSr.out.ls];exact hxl)⟩
     have hcs:=HSr.out.rs.cell hbv;have hfs:=HSr.out.rs.f x
     have HBv:=lhd (show s2.getD x true=bv by rw[gDg,hbv];rfl)
     have HTk:=lhd (show nr.take (j+1)=nr.take j++[x] by rw[List.take_add_one,hxn];rfl)
     have HSn:=lhd (show ZR e.2 (nr.take (j+1)) s q=if s2.getD x true then ZR e.2 (nr.take j) s q else (s2.set x true,q2++[(e.2,x)]) by rw[HTk.out,K4,← HS2.out,← HQ2.out])
     clear hz hz0 hz1 hbv hbE hxn hj
     cases bv with
     | true =>
      go_wp2_with fail
      have h9:=HSn.out
      rw[HBv.out,if_pos rfl]at h9
      refine⟨⟨j+1,gQ2,by rw[Zc HJ.out (by have:=HLuB.out;omega)],HJ.out,?_⟩,by rw[Zc HJ.out (by have:=HLuB.out;omega)];simp only[intOf];have:=HJ.out;omega⟩
      rw[h9,← HS2.out,← HQ2.out]
      exact HSr.out
     | false =>
      go_upto_region 11 with fail
      have hm:=HSr.out.mark x true
      obtain⟨WM,hWM⟩:=nmx (wr.setCell ⟨gS,x,none⟩ (.bool true))
      rw[← hWM]at hm ⊢
      have HM:=lhd hm
      have q1:=hm.q.head.2
      have hlen:=hm.q.form
      have hl0:0<(e::q2).length:=by rw[List.length_cons];omega
      have HQl:=lhd (show(e::q2).length≤1000000 by
       have h1:=(Yu e.2 (nr.take j) s q (fun w hw=>by
        have h2:=List.mem_of_mem_take hw
        rw[HNr.out]at h2
        obtain⟨y,hy,rfl⟩:=List.mem_map.1 h2
        have:=HEv.out y hy
        have:=HS.out.ls;omega)).1
       rw[← HQ2.out]at h1
       have h3:=HGk.out;have h4:=HGb.out
       rw[List.length_cons]at h3 ⊢;omega)
      clear hm hWM hcs hfs hcE hlen dj hlt hxl
      go_wp2_with (at_builtin;refine Zbk rfl (.tmp 56) (.tmp 63) rfl HM.out.q HM.out.vs.below.size (e.2,x) 1 rfl rfl HQl.out ?_;intro v1 W3 g3 hq3 hg3;obtain⟨off3,cap3,rfl,-,-⟩:=hq3.form;have HS3:=lhd ((HM.out.keep ((brf _ _).alloc (nlr _) _)).push hg3 hq3);clear hq3 hg3)
      have h9:=HSn.out
      rw[HBv.out,if_neg Bool.false_ne_true]at h9
      refine⟨⟨j+1,g3,by rw[Zc HJ.out (by have:=HLuB.out;omega)],HJ.out,?_⟩,by rw[Zc HJ.out (by have:=HLuB.out;omega)];simp only[intOf];have:=HJ.out;omega⟩
      rw[h9]
      have hs3:=HS3.out
      rw[List.length_append,List.length_singleton,List.length_cons]at hs3
      exact hs3
    ·obtain rfl:j=lu:=by omega
     have dj:=deF (p:=(j:Int)<(j:Int)) (by omega)
     have htk:nr.take j=nr:=tOl (by rw[HNr.out,List.length_map,← HLu.out];exact nlr _)
     have hs2:=HS2.out;have hq2:=HQ2.out
     rw[htk]at hs2 hq2
     have HS2':=lhd hs2;have HQ2':=lhd hq2
     have hcnt:=Yu e.2 nr s q (fun w hw=>by
      rw[HNr.out]at hw
      obtain⟨y,hy,rfl⟩:=List.mem_map.1 hw
      have:=HEv.out y hy
      have:=HS.out.ls;omega)
     rw[← hs2,← hq2]at hcnt
     have HCnt:=lhd hcnt.1
     have hcap:q2.length+1≤cap2:=by
      obtain⟨o5,c5,e5,h5,-⟩:=HSr.out.q.form
      injection e5 with _ _ e5
      subst e5
      rw[List.length_cons]at h5;exact h5
     obtain⟨o4,ho4,hsl⟩:=ZiJ (g:=gQ2) (off:=off2) hcap HCm.out
     have hqt:=HSr.out.q.tail ho4
     have HS4:=lhd (show SrS w0 gO gS gQ2 R5 n out2 s2 q2 (.slice (some ⟨gQ2,o4,none⟩) q2.length (cap2-1)) wr from⟨HSr.out.vs,HSr.out.rs,hqt,HSr.out.geS,HSr.out.ls⟩)
     have HPm:=lhd (show ∀ y∈q2,y.2<n∧(y.2≠frm→y.1<n) from fun y hy=>by
      rw[hq2]at hy
      rcases ZaT hy with h1 | ⟨h1,h2⟩
      ·exact HQ.out y h1
      ·rw[HNr.out]at h2
       obtain⟨z,hz,hzx⟩:=List.mem_map.1 h2
       have:=HEv.out z hz
       have:=HE2.out
       exact⟨by omega,fun _=>by omega⟩)
     have HPo:=lhd (show ∀ x∈out2,-1≤x∧x+(k:Int)≤200000 from fun x hx=>by
      rw[HO2.out]at hx
      have hg1:=HGb.out
      rcases List.mem_or_eq_of_mem_set hx with h1 | h1
      ·have:=HOo.out x h1;omega
      ·rw[h1]
       unfold pend
       split
       ·omega
       ·rw[gDg]
        cases ho:out[e.1]? with
        | none=>simp;omega
        | some z=>have:=HOo.out z (List.mem_of_getElem? ho);simp;omega)
     clear htk hs2 hq2 hcnt hcap ho4 hqt hge hj
     go_wp2_with fail
     go_roundg k
     case measure=>omega
     case rel =>
      refine⟨s2,q2,out2,gQ2,?_,HS4.out,?_,by have:=HGb.out;omega,HPm.out,HPo.out⟩
      ·have:=HBf3.out
       rw[← HS2'.out,← HQ2'.out]at this
       exact this
      ·have h1:=HGk.out;have h2:=HCnt.out
       rw[List.length_cons]at h1;omega
attribute [local go_sem] Oper.semAt_some
theorem ZdP{w:World}{n frm:Nat}{edges:List (List Int)}{bN oN cN:Nat}(hn:Sl eRow edges (.slice (some ⟨bN,oN,none⟩) n cN) w)(hok:ZaU edges n)(hf:frm<n) :
  Calls Tryz.prog 44 #[.slice (some ⟨bN,oN,none⟩) n cN,.int .i64 (frm:Int)] w (Zb (fun v W=>∃ g,v=.slice (some ⟨g,0,none⟩) n n∧RowN g (ZW (natL edges) frm) W) w):=by
 go_enter Tryz.func44,Tryz.ntmps44
 have HN:=lhd hn;have HOk:=lhd hok;have HF:=lhd hf;have HNn:=lhd hok.2.1
 clear hn hok hf
 go_upto_region 1 with fail
 have hA:=(brf w.heap.size w).alloc (nlr _) (.cells #[.int .i64 (frm:Int)] 3)
 have h3:(w.alloc (.cells #[.int .i64 (frm:Int)] 3)).cell? ⟨w.heap.size,0,none⟩=some (.int .i64 (frm:Int)):=by simp[go_sem]
 have h3l:w.heap.size<(w.alloc (.cells #[.int .i64 (frm:Int)] 3)).heap.size:=by simp
 obtain⟨W0,hW0⟩:=nmx (w.alloc (.cells #[.int .i64 (frm:Int)] 3))
 obtain⟨R3,hR3⟩:=nmx (w.heap.size)
 rw[← hW0]at hA h3 h3l ⊢
 rw[← hR3]at h3 h3l ⊢
 have HA:=lhd hA;have H3:=lhd h3;have H3l:=lhd h3l;have HN0:=lhd (HN.out.keep hA)
 clear hA h3 h3l hW0 hR3
 go_wp2_with fail
 have hB1:=(brf W0.heap.size W0).alloc (nlr _) (.cells #[.int .i64 (-1)] 3)
 refine(Zhm (b:=W0.heap.size) (c:=-1) (by have:=HF.out;omega) HNn.out _ (by simp) (by simp[go_sem])).mono ?_
 rintro e W1 ⟨_,rfl,⟨gO,rfl,hge,hcell⟩,hb⟩
 have hb1:Below W0.heap.size W0 W1:=hB1.trans (hb.mono hB1.size)
 have hge0:W0.heap.size≤gO:=by simp at hge;omega
 have hA:=(brf W1.heap.size W1).alloc (nlr _) (.cells #[.slice (some ⟨gO,0,none⟩) n n] 40)
 have hvs:VsS W0 gO W1.heap.size n (List.replicate n (-1)) (W1.alloc (.cells #[.slice (some ⟨gO,0,none⟩) n n] 40)):=
  ⟨hb1.trans (hA.mono hb1.size),RowN.keep (show RowN gO (List.replicate n (-1)) W1 by unfold RowN;rw[List.map_replicate];exact hcell) hA,heap_alloc_new W1 _,hge0,hb1.size,List.length_replicate⟩
 have HVs:=lhd hvs
 clear hB1 hge hcell hb hb1 hge0 hA hvs
 go_upto_region 2 with fail
 obtain⟨WA,hWA⟩:=nmx (W1.alloc (.cells #[.slice (some ⟨gO,0,none⟩) n n] 40))
 obtain⟨R5,hR5⟩:=nmx (W1.heap.size)
 rw[← hWA,← hR5]at HVs
 rw[← hWA,← hR5]
 have q3:=(HVs.out.below.cell (p:=⟨R3,0,none⟩) H3l.out).trans H3.out
 clear hWA hR5
 go_wp2_with fail
 refine(Zhy HVs.out H3.out H3l.out HN0.out HOk.out HF.out).mono ?_
 rintro e W3 ⟨rfl,hv3⟩
 have q5:=hv3.b.c0
 have HV3:=lhd hv3
 clear hv3 q3
 go_wp2_with fail
 go_ret
 exact⟨_,rfl,⟨gO,rfl,HV3.out.o⟩,HA.out.trans (HV3.out.below.mono HA.out.size)⟩
end
end Go.Proofs.YthkklilhjnpedaaGreatDoor
