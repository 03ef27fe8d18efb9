/- Polynomials: each coefficient changed (each), at its closures. -/
import Derived.Test.YthkklilhjnpedaaGreatDoorUUnits0
import Derived.BigRegion
import Derived.Test.YthkklilhjnpedaaGreatDoorUGsl
import Derived.Laws.MakeOwn
set_option maxHeartbeats 16000000
set_option maxRecDepth 8000
namespace Go.Proofs.YthkklilhjnpedaaGreatDoor
section
open Go.RowKit FF
theorem wrap_nat{n:Nat}(h:n≤2000000):wrap64 (n:Int)=n:=by unfold wrap64;omega
def lenOf:Value→Nat
 | .slice _ n _=>n
 | _=>0
theorem ZhH{v:Value}{l:List Int}{k:Nat}{w:World}(hv:VP l v w)(hk:∀ x∈l,Wn k x)(hk4:k≤300)(hl:l.length≤1000000):Calls Tryz.prog 130 #[v] w (Zb (fun r W=>∃ rs,OwnN w r rs W∧rs.map (fun x=>x.1)=Zj l) w):=by
 obtain⟨i0,hi,hz0,hz1,hz2⟩:=info_parts Xw
 have HI:=lhd hi;have HZ0:=lhd hz0;have HZ1:=lhd hz1;have HZ2:=lhd hz2
 clear hi hz0 hz1 hz2
 obtain⟨A,c,rfl,h1,h2⟩:=hv.len
 have HV:=lhd hv;have HK:=lhd hk
 clear hv hk
 have hN:=lhd (fun (W:World) (u u':Value) (z:Int) (h:IC W u u' z) (hz:Wn k z)=>ZcS h hz (by omega))
 go_enter Tryz.func130,Tryz.ntmps130
 go_wp2_with fail
 go_loopw [3,5,8] (fun s3 _ s8 wr=>∃ (i:Nat) (rs:List IRef),s8=.int .i64 i∧i≤l.length∧rs.map (fun x=>x.1)=l.take i∧OwnN w s3 rs wr) (fun _ _ s8 _=>(l.length-(intOf s8).toNat))
 case atStart=>exact⟨0,[],rfl,Nat.zero_le _,rfl,OwnN.start (brf _ _)⟩
 case round =>
  obtain⟨i,rs,rfl,hil,hrs,hG⟩:=hrel
  have HG:=lhd hG;have HR:=lhd hrs
  clear hG hrs
  by_cases hlt:i<l.length
  ·have hti:=deT (p:=((i:Nat):Int)<((l.length:Nat):Int)) (by omega)
   obtain⟨z,hz⟩:∃ z,l[i]?=some z:=⟨_,gEe hlt⟩
   obtain⟨b,o,s,A',m,c',rfl,q0,q1,g,hb⟩:=(HV.out.keep (HG.out.1.2.1)).at hz
   have GI:=lhd g
   clear g
   go_wp2_with fail
   have BA:=(brf wr.heap.size wr).alloc (nlr _) (.cells #[.bool s,.slice A' m c'] 57)
   refine(hN.out _ _ _ z (GI.out.keep BA) (HK.out z (mGe hz))).mono ?_
   rintro e w1 ⟨_,rfl,⟨p,q,rfl,h⟩,hb1⟩
   obtain⟨y,rfl,rfl,rfl,hy⟩:=h.ref
   have HG1:=lhd (HG.out.keep (BA.trans (hb1.mono (by simp))))
   have HY:=lhd hy
   clear BA hb1 hy h q0 q1 GI HG hb
   go_wp2_with (at_builtin;refine Zbm rfl (.tmp 12) (.tmp 15) 126 rfl i0 Tryz.underlying126 HI.out HZ0.out HZ1.out HZ2.out (HG1.out.keep ((Below.refl _ _).alloc (Nat.le_refl _) _)) y (HY.out.keep ((Below.refl _ _).alloc (Nat.le_refl _) _)) ⟨w1.heap.size,0,none⟩ 1 rfl rfl (by simp[go_sem]) (by simp[go_sem]) (by have:=congrArg List.length HR.out;simp at this;omega) ?_;intro v' w2 hg2 hgr;have HG2:=lhd hg2;clear hg2 hgr)
   refine⟨⟨i+1,rs++[y],by push_cast;rfl,hlt,?_,HG2.out⟩,?_⟩
   ·rw[List.map_append,HR.out,List.take_add_one,hz];rfl
   ·show l.length-((i:Int)+1).toNat<l.length-(i:Int).toNat
    omega
  ·have hti:=deF (p:=((i:Nat):Int)<((l.length:Nat):Int)) (by omega)
   have hS:Zj (rs.map fun x=>x.1)=Zj l:=by rw[HR.out,tOl (by omega)]
   have HS:=lhd hS
   have hlen:rs.length≤1000000:=by have:=congrArg List.length HR.out;simp at this;omega
   clear hS HR hN HK HV HI HZ0 HZ1 HZ2
   obtain⟨W6,hW6⟩:∃ W6:World,W6=wr:=⟨_,rfl⟩
   subst hW6
   go_wp2_with fail
   go_loopw [3] (fun s3 wr=>∃ rs:List IRef,OwnN w s3 rs wr∧Zj (rs.map fun x=>x.1)=Zj l∧rs.length≤1000000) (fun s3 _=>lenOf s3)
   case atStart=>exact⟨rs,HG.out,HS.out,hlen⟩
   case round =>
    obtain⟨rs2,hG2,hS2,hl2⟩:=hrel
    rcases List.eq_nil_or_concat rs2 with rfl | ⟨rs3,y,rfl⟩
    ·obtain⟨A2,c2,rfl,-,-⟩:=hG2.1.vp.len
     have HG2:=lhd hG2;have HS2:=lhd hS2
     clear hG2 hS2
     go_wp2_with fail
     go_ret
     exact⟨_,rfl,⟨[],HG2.out,HS2.out⟩,HG2.out.1.2.1⟩
    ·rw[List.concat_eq_append]at hG2 hS2 hl2
     have hl3:(rs3++[y]).length=rs3.length+1:=by simp
     obtain⟨g,cap,hv,hc1,hc2,hlt⟩:=hG2.form (by omega)
     rw[hl3]at hv
     subst hv
     obtain⟨q0,q1,hy⟩:=hG2.cell hl3.symm (i:=rs3.length) (x:=y) (by simp)
     rw[hl3]at hl2 hc1
     rw[List.map_append]at hS2
     simp only[List.map_cons,List.map_nil]at hS2
     have HG2:=lhd hG2;have HS2:=lhd hS2;have HY:=lhd hy
     clear hG2 hS2 hl3 hy
     rw[Nat.zero_add]at q0 q1
     obtain⟨n,hn⟩:=nmx (rs3.length)
     have HN:=lhd hn
     rw[← hn]at q0 q1 hl2 hc1 HG2 ⊢
     clear hn hc2
     have hw:=wrap_nat (n:=n) (Nat.le_trans (Nat.le_of_succ_le hl2) (by decide))
     have hcap:n≤cap:=Nat.le_of_succ_le hc1
     have hn1:n≤1000000:=Nat.le_of_succ_le hl2
     have HL:=lhd hn1
     clear hl2 hc1 hn1
     go_wp2_with fail
     refine(Zdv HY.out.ic).mono ?_
     rintro e w1 ⟨rfl,hb1⟩
     have HG3:=lhd (HG2.out.keep hb1)
     by_cases h0:y.1=0
     ·have hd:=deT h0
      have hS3:=HS2.out
      rw[h0,ZfS]at hS3
      have HS3:=lhd hS3
      clear hS3
      obtain hnn:=HN.out
      have HP:=lhd (OwnN.pop (rs:=rs3) (y:=y) (w:=w) (W:=w1) (g:=g) (cap:=cap) (by rw[← hnn];exact HG3.out))
      rw[← hnn]at HP
      clear hnn
      go_wp2_with fail
      exact⟨⟨rs3,HP.out,HS3.out,by have:=HN.out;have:=HL.out;omega⟩,Nat.lt_succ_self n⟩
     ·have hd:=deF h0
      have hS3:=HS2.out
      rw[Zjt _ h0]at hS3
      have HS3:=lhd hS3
      clear hS3
      go_wp2_with fail
      go_ret
      exact⟨_,rfl,⟨rs3++[y],HG3.out,by rw[List.map_append];exact HS3.out⟩,HG3.out.1.2.1⟩
section
variable {α:Type}{e:El α}{w W W':World}{v:Value}{l:List α}{rs:List (α × List Value)}
theorem UO{z:Array Value}(hz:0<z.size)(N:Nat)(x:α):(madeCells z (N*z.size)).toList=Zk (List.replicate N (x,z.toList)):=by
 have hl:∀ y∈List.replicate N (x,z.toList),y.2.length=z.size:=fun y hy=>by rw[(List.mem_replicate.1 hy).2];simp
 apply List.ext_getElem?
 intro i
 by_cases h:i<N*z.size
 ·have h1:i / z.size<N:=(Nat.div_lt_iff_lt_mul hz).2 h
  have h2:i % z.size<z.size:=Nat.mod_lt _ hz
  have h3:i=i / z.size*z.size+i % z.size:=by rw[Nat.mul_comm];exact(Nat.div_add_mod i z.size).symm
  have hg:=YS hl (i:=i / z.size) (x:=(x,z.toList)) (by rw[List.getElem?_replicate,if_pos h1]) h2
  rw[← h3]at hg
  rw[hg]
  simp[madeCells,h,h2]
 ·rw[List.getElem?_eq_none (by simp[madeCells];omega),List.getElem?_eq_none (by rw[ZN hl];simp;omega)]
theorem Own.made{N:Nat}{x:α}(hx:∀ W,e.E x e.z.cells.toList W)(hB:Below w.heap.size w W)(hN:N≤maxLen) :
  Own e w (.slice (some ⟨W.heap.size,0,none⟩) N N) (List.replicate N (x,e.z.cells.toList)) (W.alloc (.cells (madeCells e.z.cells (N*e.n)) e.T)):=by
 have hl:∀ y∈List.replicate N (x,e.z.cells.toList),y.2.length=e.n:=fun y hy=>by rw[(List.mem_replicate.1 hy).2];simp[e.zn]
 have hc:(madeCells e.z.cells (N*e.n)).toList=Zk (List.replicate N (x,e.z.cells.toList)):=by rw[← e.zn];exact UO (by rw[e.zn];exact e.pos) N x
 refine⟨⟨ZN hl,.inr ⟨W.heap.size,N,madeCells e.z.cells (N*e.n),by rw[List.length_replicate],hB.size,heap_alloc_new W _,by rw[List.length_replicate];exact nlr _,hN,by rw[size_madeCells],?_⟩⟩,hB.alloc hB.size _,fun y hy=>?_,fun g hg=>?_⟩
 ·rw[hc,tOl (by rw[ZN hl];exact nlr _)]
 ·rw[(List.mem_replicate.1 hy).2];exact hx _
 ·have:g=W.heap.size:=by simp[Value.ownBlock]at hg;exact hg.symm
  subst this
  refine Clean.cells (heap_alloc_new W _) fun u hu=>?_
  rw[hc]at hu
  obtain⟨y,hy,huy⟩:=List.mem_flatMap.1 (show u∈(List.replicate N (x,e.z.cells.toList)).flatMap (·.2) from hu)
  rw[(List.mem_replicate.1 hy).2]at huy
  exact e.zg u huy
theorem ZcV{P:Program}(t ty:TypeId)(i:TypeInfo)(ht:P.underlying t=some (.slice e.T))(hi:P.info? e.T=some i)(hz:i.zero=some e.z)
  (hsize:i.size=e.n) (hby:i.bytes=e.bytes) (h:Own e w v rs W) {ys:List (α × List Value)} (hy:∀ y∈ys,e.E y.1 y.2 W) (h0y:0<ys.length) (a:Addr) (c:Nat) (h0:∀ d u,(Zk ys)[d]?=some u→W.cell? (a.add d)=some u) (hl:rs.length+ys.length≤1000000) :
  ∃ v' W',(Builtin.append_ #[t,t] ty #[v,.slice (some a) ys.length c]).run P W=.ok v' W'∧Own e w v' (rs++ys) W'∧W.grownBy W' v.ownBlock:=by
 have hly:∀ y∈ys,y.2.length=e.n:=fun y h=>e.len (hy y h)
 have hcl:(Zk ys).length=ys.length*e.n:=ZN hly
 have hall:∀ u∈Zk ys,u.oneCell'=true∧¬ e.Bad u:=fun u hu=>by
  obtain⟨y,hm,hu⟩:=List.mem_flatMap.1 (show u∈ys.flatMap (·.2) from hu)
  exact e.one (hy y hm) u hu
 have hone:∀ u∈Zk ys,u.oneCell'=true:=fun u hu=>(hall u hu).1
 have hnn:∀ u∈Zk ys,¬ e.Bad u:=fun u hu=>(hall u hu).2
 have hzc:∀ q,∀ u∈(Builtin.zeroCells e.z.cells q).toList,¬ e.Bad u:=by
  intro q u hu
  rw[Array.mem_toList_iff]at hu
  obtain⟨j,hj,he⟩:=Array.mem_iff_getElem.1 hu
  have hjm:j % e.z.cells.size<e.z.cells.size:=Nat.mod_lt _ (by rw[e.zn];exact e.pos)
  refine e.zg u ?_
  rw[← he,Array.mem_toList_iff]
  simp only[Builtin.zeroCells]
  have:e.z.cells.getD (j % e.z.cells.size) undef=e.z.cells[j % e.z.cells.size]:=by simp[Array.getD,hjm]
  first
  | exact this ▸ Array.getElem_mem hjm
  | (simp[hjm])
 have hb3:(rs.length+ys.length)*e.bytes≤1000001*1000:=Nat.mul_le_mul (by omega) e.small
 have hb4:ys.length*e.bytes≤1000001*1000:=Nat.mul_le_mul (by omega) e.small
 obtain⟨v',W',hr,k1,k2,-⟩:=run_append_own (P:=P) W w.heap.size t ty e.T i _ e.n e.bytes ht hi hz hsize hby e.zn e.pos v rs.length _ h.1 a ys.length c (Zk ys) hcl h0 hone (by unfold maxLen;omega) (by omega) h.2.1.size
 have hk:∀ x cs',e.E x cs' W→e.E x cs' W':=fun x cs' hx=>e.alt hx (.grown k2) h.2.2.2
 refine⟨v',W',hr,⟨?_,Below.grown h.2.1 k2 h.2.1.size h.row_ge,fun x hx=>?_,fun g hg=>?_⟩,k2⟩
 ·have e2:Zk (rs++ys)=Zk rs++Zk ys:=by simp[Zk]
  rw[List.length_append,e2];exact k1
 ·rcases List.mem_append.1 hx with hx | hx
  ·exact hk _ _ (h.2.2.1 x hx)
  ·exact hk _ _ (hy x hx)
 ·have hxs:=ZN h.lens
  rcases h.1.2 with⟨rfl,hn⟩ | ⟨g',cap,cur,rfl,hbg,hg',hnc,hcm,hcs,htake⟩
  ·have hr2:=run_append_nil (P:=P) W t ty e.T i _ ht hi hz a ys.length c (Zk ys) (by rw[hsize,hcl]) h0 h0y (by omega) (by rw[hby];omega)
   rw[hr]at hr2
   injection hr2 with e1 e2
   subst e1 e2
   cases hg
   refine Clean.cells (heap_alloc_new W.drew _) fun u hu=>?_
   rw[Array.toList_append]at hu
   rcases List.mem_append.1 hu with h1 | h1
   ·exact hnn u h1
   ·exact hzc _ u h1
  ·by_cases hroom:rs.length+ys.length≤cap
   ·have hr2:=run_append_room (P:=P) W t ty e.T i ht hi g' rs.length cap cur hg' a ys.length c (Zk ys) (by rw[hsize,hcl]) h0 hone hroom (by
     rw[hsize,hcs,hcl]
     have:=Nat.mul_le_mul_right e.n hroom
     rw[Nat.add_mul]at this;exact this)
    rw[hr]at hr2
    injection hr2 with e1 e2
    subst e1 e2
    cases hg
    have hold:=Clean.row hg' (h.2.2.2 g' rfl)
    refine Clean.cells (setRow_heap W g' cur _ e.T _ hg') fun u hu=>?_
    rcases List.mem_append.1 hu with h1 | h1
    ·rcases List.mem_append.1 h1 with h2 | h2
     ·exact hold u (List.mem_of_mem_take h2)
     ·exact hnn u h2
    ·exact hold u (List.mem_of_mem_drop h1)
   ·have holds:∀ j u,(Zk rs)[j]?=some u→W.cell? ((⟨g',0,none⟩:Addr).add j)=some u:=h.1.cells (g:=g') rfl
    have hr2:=run_append_grow (P:=P) W t ty e.T i _ ht hi hz ⟨g',0,none⟩ rs.length cap (Zk rs) (by rw[hsize];exact hxs) holds a ys.length c (Zk ys) (by rw[hsize,hcl]) h0 (by omega) (by omega) (growslice_fits (by omega) (by rw[hby];omega))
    rw[hr]at hr2
    injection hr2 with e1 e2
    subst e1 e2
    cases hg
    refine Clean.cells (heap_alloc_new W.drew _) fun u hu=>?_
    rw[Array.toList_append,Array.toList_append]at hu
    rcases List.mem_append.1 hu with h1 | h1
    ·rcases List.mem_append.1 h1 with h2 | h2
     ·obtain⟨x,hx,hux⟩:=List.mem_flatMap.1 (show u∈rs.flatMap (·.2) from h2)
      exact(e.one (h.2.2.1 x hx) u hux).2
     ·exact hnn u h2
    ·exact hzc _ u h1
theorem Yq{P:Program}{ops:Array Oper}{rest:List Oper}{o:Oper}{a:Act}{Q:Exit→Act→World→Prop}(hgd:o.guard=none)(s x:Operand)(t:TypeId)
  (ho:o.op=.call { callee:=.builtin .append,args:=#[s,x],argTypes:=#[t,t] }) (i:TypeInfo)
  (ht:P.underlying t=some (.slice e.T)) (hi:P.info? e.T=some i) (hz:i.zero=some e.z) (hsize:i.size=e.n) (hby:i.bytes=e.bytes)
  (h:Own e w v rs W) {ys:List (α × List Value)} (hy:∀ y∈ys,e.E y.1 y.2 W) (h0y:0<ys.length) (ad:Addr) (n c:Nat) (hn:n=ys.length) (hs:a.eval s=v) (hx:a.eval x=.slice (some ad) n c)
  (h0:∀ d u,(Zk ys)[d]?=some u→W.cell? (ad.add d)=some u) (hl:rs.length+ys.length≤1000000)
  (K:∀ v' W',Own e w v' (rs++ys) W'→wpList P ops Q rest (a.put o.dst v') W'):wpList P ops Q (o::rest) a W:=by
 subst hn
 refine wpList_plain hgd fun _ hK=>?_
 obtain⟨v',W',hr,k1,-⟩:=ZcV (P:=P) t o.type i ht hi hz hsize hby h hy h0y ad c h0 hl
 unfold Oper.wp execOp
 simp only[ho,resolve,invoke,builtin,Sem.run_bind,Sem.run_pure,Result.andThen_ok,List.map_toArray,List.map_cons,List.map_nil,hs,hx,hr]
 exact hK _ _ (K v' W' k1)
theorem Sl.list{A:Option Addr}{n c:Nat}(h:Sl e l (.slice A n c) W):∃ ys:List (α × List Value),ys.map (·.1)=l∧(∀ y∈ys,e.E y.1 y.2 W)∧∀ b o,A=some ⟨b,o,none⟩→∀ d u,(Zk ys)[d]?=some u→W.cell? ⟨b,o+d,none⟩=some u:=by
 obtain⟨A0,c0,e1,h1,h2,h3⟩:=h
 injection e1 with e3 e4 e5
 rcases Nat.eq_zero_or_pos l.length with h0 | h0
 ·have:l=[]:=List.eq_nil_of_length_eq_zero h0
  subst this
  exact⟨[],rfl,(fun y hy=>by cases hy),(fun _ _ _ d u hd=>by simp[Zk]at hd)⟩
 ·obtain⟨b,o,e2,hlt,hc⟩:=h3 h0
  have hex:∀ i:Fin l.length,∃ cs,e.E l[i] cs W∧∀ d u,cs[d]?=some u→W.cell? ⟨b,o+i*e.n+d,none⟩=some u:=fun i=>hc i l[i] (gEe i.2)
  let ys:=List.ofFn fun i:Fin l.length=>(l[i],Classical.choose (hex i))
  have hys:∀ i (h:i<l.length),ys[i]?=some (l[i],Classical.choose (hex ⟨i,h⟩)):=fun i h=>by simp[ys,h]
  have hlen:ys.length=l.length:=by simp[ys]
  have hE:∀ y∈ys,e.E y.1 y.2 W:=fun y hy=>by
   obtain⟨i,hi⟩:=List.mem_iff_getElem?.1 hy
   have hil:i<l.length:=by rw[← hlen];exact(List.getElem?_eq_some_iff.1 hi).1
   rw[hys i hil]at hi
   injection hi with hi
   subst hi
   exact(Classical.choose_spec (hex ⟨i,hil⟩)).1
  have hl:∀ y∈ys,y.2.length=e.n:=fun y hy=>e.len (hE y hy)
  refine⟨ys,?_,hE,fun b' o' eb d u hd=>?_⟩
  ·apply List.ext_getElem (by simp[hlen])
   intro i h1 h2
   simp[ys]
  ·rw[e3,e2]at eb
   injection eb with eb
   injection eb with eb1 eb2
   subst eb1 eb2
   have hdl:d<l.length*e.n:=by
    have:=(List.getElem?_eq_some_iff.1 hd).1
    rwa [ZN hl,hlen]at this
   have h4:d / e.n<l.length:=(Nat.div_lt_iff_lt_mul e.pos).2 hdl
   have h5:d % e.n<e.n:=Nat.mod_lt _ e.pos
   have h6:d=d / e.n*e.n+d % e.n:=by rw[Nat.mul_comm];exact(Nat.div_add_mod d e.n).symm
   rw[h6,YS hl (hys _ h4) h5]at hd
   have:=(Classical.choose_spec (hex ⟨d / e.n,h4⟩)).2 _ u hd
   rw[h6]
   simpa[Nat.add_assoc] using this
theorem Own.empty(e:El α)(hB:Below w.heap.size w W):Own e w (.slice (some ⟨W.heap.size,0,none⟩) 0 0) [] (W.alloc (.cells #[] e.T)):=
  ⟨⟨by simp [Zk], .inr ⟨W.heap.size, 0, #[], rfl, hB.size, heap_alloc_new W _, Nat.le_refl _, Nat.zero_le _, by simp, by simp [Zk]⟩⟩, hB.alloc hB.size _, (fun x hx => by cases hx), fun g hg => by
    have:g=W.heap.size:=by simp[Value.ownBlock]at hg;exact hg.symm
    subst this
    exact Clean.cells (heap_alloc_new W _) fun u hu=>by simp at hu⟩
theorem Own.mono{w2:World}(h:Own e w2 v rs W)(hb:Below w.heap.size w w2):Own e w v rs W:=by
 refine⟨⟨h.1.1,?_⟩,hb.trans (h.2.1.mono hb.size),h.2.2⟩
 rcases h.1.2 with h0 | ⟨g,cap,cur,h1,h2,h3⟩
 ·exact .inl h0
 ·exact .inr ⟨g,cap,cur,h1,Nat.le_trans hb.size h2,h3⟩
end
theorem Sl.drop{α:Type}{e:El α}{l:List α}{P:Program}{t:TypeId}{i:TypeInfo}{A:Option Addr}{n c k:Nat}(ht:P.underlying t=some (.slice e.T))(hi:P.info? e.T=some i)(hs:i.size=e.n)(hn:n=l.length)(hk:k≤n)(hc:n≤c)(hm:c≤maxLen) :
  ∃ A1,(∀ W,(Instr.sliceAt t (.slice A n c) (some (.int .i64 (k:Int))) none none).run P W=.ok (.slice A1 (n-k) (c-k)) W)∧∀ W,Sl e l (.slice A n c) W→Sl e (l.drop k) (.slice A1 (n-k) (c-k)) W:=by
 refine⟨if c=k then A else A.map (·.add (k*e.n)),fun W=>?_,fun W h=>?_⟩
 ·have e1:(asIntOf (Value.int IntKind.i64 (k:Int))).run P W=.ok (.i64,(k:Int)) W:=rfl
  have hk':(k:Int)≤(n:Int):=by omega
  simp[Instr.sliceAt,Instr.slice,Instr.sliceBounds,Instr.sliceBound,run_underlying ht,sizeOf,typeInfo,hi,hs,e1,hk',Result.andThen]
 ·obtain⟨A0,c0,e1,h1,h2,h3⟩:=h
  injection e1 with e3 e4 e5
  subst hn e3 e5
  refine⟨_,_,by rw[List.length_drop],by rw[List.length_drop];omega,by omega,fun h0=>?_⟩
  rw[List.length_drop]at h0
  obtain⟨b,o,e2,hlt,hcl⟩:=h3 (by omega)
  refine⟨b,o+k*e.n,by rw[if_neg (by omega),e2,Option.map_some,Addr.add_lit],hlt,fun j z hz=>?_⟩
  rw[List.getElem?_drop]at hz
  obtain⟨cs,h4,h5⟩:=hcl _ z hz
  refine⟨cs,h4,fun d u hd=>?_⟩
  rw[show o+k*e.n+j*e.n+d=o+(k+j)*e.n+d by rw[Nat.add_mul];omega]
  exact h5 d u hd
def Off(g:Nat)(v:Value):Prop:=∀ b o n c,v=.slice (some ⟨b,o,none⟩) n c→b≠g
theorem Sl.other{α:Type}{e:El α}{l:List α}{v:Value}{W W':World}{g:Nat}(h:Sl e l v W)(ha:Alt (some g) W W')(hc:Clean e.Bad W g)(ho:Off g v):Sl e l v W':=by
 obtain⟨A,c,e0,h1,h2,h3⟩:=h
 refine⟨A,c,e0,h1,h2,fun h0=>?_⟩
 obtain⟨b,o,e1,hlt,hcl⟩:=h3 h0
 subst e1
 have hne:some b≠some g:=fun er=>ho b o _ c e0 (oSi er)
 refine⟨b,o,rfl,nLl hlt ha.size,fun i z hz=>?_⟩
 obtain⟨cs,h4,h5⟩:=hcl i z hz
 exact⟨cs,e.alt h4 ha (fun g' hg' i u hu hb=>by injection hg' with hg';subst hg';exact hc i u hu hb),fun d u hd=>(ha.cell hlt hne).trans (h5 d u hd)⟩
theorem Alt.trans{g:Nat}{W W' W2:World}(h:Alt (some g) W W')(h':Alt (some g) W' W2):Alt (some g) W W2:=⟨Nat.le_trans h.size h'.size,fun b hb hn=>(h'.block b (nLl hb h.size) hn).trans (h.block b hb hn)⟩
theorem OwnV.off{α:Type}{e:El α}{l:List α}{v:Value}{w W:World}{g:Nat}(h:OwnV e w l v W)(hg:g<w.heap.size):Off g v:=by
 obtain⟨rs,h,-⟩:=h
 rintro b o n c rfl rfl
 have:=h.row_ge b rfl
 omega
theorem OwnV.mono{α:Type}{e:El α}{l:List α}{v:Value}{w w2 W:World}(h:OwnV e w2 l v W)(hb:Below w.heap.size w w2):OwnV e w l v W:=by
 obtain⟨rs,h1,h2⟩:=h
 exact⟨rs,h1.mono hb,h2⟩
theorem Sl.off{α:Type}{e:El α}{l:List α}{v:Value}{W:World}{g:Nat}(h:Sl e l v W)(hg:W.heap.size≤g)(h0:0<l.length):Off g v:=by
 obtain⟨A,c,e0,h1,h2,h3⟩:=h
 obtain⟨b,o,e1,hlt,-⟩:=h3 h0
 rintro b' o' n' c' e2 rfl
 rw[e0,e1]at e2
 injection e2 with e2
 injection e2 with e2
 injection e2 with e2
 omega
theorem Zbn{α:Type}{e:El α}{w W:World}{v:Value}{rs:List (α × List Value)}{P:Program}{ops:Array Oper}{rest:List Oper}{o:Oper}{a:Act}{Q:Exit→Act→World→Prop}(hgd:o.guard=none)(s x:Operand)(t:TypeId)
  (ho:o.op=.call { callee:=.builtin .append,args:=#[s,x],argTypes:=#[t,t] }) (i:TypeInfo)
  (ht:P.underlying t=some (.slice e.T)) (hi:P.info? e.T=some i) (hz:i.zero=some e.z) (hsize:i.size=e.n) (hby:i.bytes=e.bytes)
  (h:Own e w v rs W) {y:α} {cs:List Value} (hy:e.E y cs W) (ad:Addr) (c:Nat) (hs:a.eval s=v) (hx:a.eval x=.slice (some ad) 1 c)
  (h0:∀ d u,cs[d]?=some u→W.cell? (ad.add d)=some u) (hl:rs.length≤1000000)
  (K:∀ v' W',Own e w v' (rs++[(y,cs)]) W'→(∀ x cs',e.E x cs' W→e.E x cs' W')→wpList P ops Q rest (a.put o.dst v') W'):wpList P ops Q (o::rest) a W:=by
 refine wpList_plain hgd fun _ hK=>?_
 obtain⟨v',W',hr,k1,k2⟩:=Xy (P:=P) t o.type i ht hi hz hsize hby h hy ad c h0 hl
 unfold Oper.wp execOp
 simp only[ho,resolve,invoke,builtin,Sem.run_bind,Sem.run_pure,Result.andThen_ok,List.map_toArray,List.map_cons,List.map_nil,hs,hx,hr]
 exact hK _ _ (K v' W' k1 (fun x cs' hx=>e.alt hx (.grown k2) h.2.2.2))
theorem ZfX(W:World):eInt.E 0 eInt.z.cells.toList W:=⟨_,_,rfl,Xt W⟩
theorem XQ(t:TypeId)(ht:Tryz.prog.underlying t=some (.slice 57))(N:Nat)(hN:N≤1000000)(W:World):(Instr.makeSlice t (.int .i64 (N:Int)) (.int .i64 (N:Int))).run Tryz.prog W =
  .ok (.slice (some ⟨W.heap.size,0,none⟩) N N) (W.alloc (.cells (madeCells #[.bool false,.slice none 0 0] (N*2)) 57)):=by
 obtain⟨i0,hi,hz0,hz1,hz2⟩:=info_parts Xw
 have:=run_make (P:=Tryz.prog) W t _ i0 _ ht hi hz0 .i64 .i64 N N (by omega) (Int.le_refl _) (by rw[hz2];omega) (by omega)
 rw[this,hz1];rfl
theorem Own.made_int{w W:World}{N:Nat}(hB:Below w.heap.size w W)(hN:N≤1000000):Own eInt w (.slice (some ⟨W.heap.size,0,none⟩) N N) (List.replicate N (0,[.bool false,.slice none 0 0])) (W.alloc (.cells (madeCells #[.bool false,.slice none 0 0] (N*2)) 57)):=
 Own.made (e:=eInt) (x:=0) ZfX hB (by unfold maxLen;omega)
theorem Zcu{v:Value}{l:List Int}{k:Nat}{w:World}(hv:VP l v w)(hk:∀ x∈l,Wn k x)(hk4:k≤300)(hl:l.length≤1000000):Calls Tryz.prog 130 #[v] w (Zb (OwnV eInt w (Zj l)) w):=by
 refine(ZhH hv hk hk4 hl).mono ?_
 rintro e w' ⟨r,rfl,⟨rs,h1,h2⟩,hb⟩
 exact⟨r,rfl,h1.ownV h2,hb⟩
theorem Ze6{f:FuncId}{args:Array Value}{l:List Int}{w:World}(h:Calls Tryz.prog f args w (Zb (OwnV eInt w l) w)):Calls Tryz.prog f args w (Zb (VP l) w):=
 h.mono fun _ _ ⟨r,h1,h2,h3⟩=>⟨r,h1,h2.sl.vp,h3⟩
theorem YO{v:Value}{l:List Int}{k:Nat}{w:World}(hv:VP l v w)(hk:∀ x∈l,Wn k x)(hk4:k≤300)(hl:l.length≤1000000):Calls Tryz.prog 130 #[v] w (Zb (VP (Zj l)) w):=Ze6 (Zcu hv hk hk4 hl)
def IBox(W:World)(R:Nat)(z:Int):Prop:=∃ s A n c,R<W.heap.size∧W.cell? ⟨R,0,none⟩=some (.bool s)∧W.cell? ⟨R,1,none⟩=some (.slice A n c)∧(∀ i,W.frozen? ⟨R,i,none⟩=false)∧NoIntAt W R∧IC W (.bool s) (.slice A n c) z
theorem IBox.new{W:World}{s:Bool}{A:Option Addr}{n c:Nat}{z:Int}(h:IC W (.bool s) (.slice A n c) z):IBox (W.alloc (.cells #[.bool s,.slice A n c] 57)) W.heap.size z:=
 ⟨s,A,n,c,by simp,by simp[go_sem],by simp[go_sem],fun i=>by simp[go_sem],NoIntAt.new W _ (KE s A n c) rfl,h.keep ((Below.refl _ _).alloc (Nat.le_refl _) _)⟩
theorem IBox.keep{W W':World}{R:Nat}{z:Int}(h:IBox W R z)(hb:Below W.heap.size W W'):IBox W' R z:=by
 obtain⟨s,A,n,c,h0,h1,h2,h3,h4,h5⟩:=h
 exact⟨s,A,n,c,nLl h0 hb.size,(hb.cell (p:=⟨R,0,none⟩) h0).trans h1,(hb.cell (p:=⟨R,1,none⟩) h0).trans h2,fun i=>(hb.frozen (p:=⟨R,i,none⟩) h0).trans (h3 i),h4.keep h0 hb,h5.keep hb⟩
theorem IBox.put{W:World}{R:Nat}{z y:Int}{s:Bool}{A:Option Addr}{n c:Nat}(h:IBox W R z)(hy:IC W (.bool s) (.slice A n c) y):IBox ((W.setCell ⟨R,0,none⟩ (.bool s)).setCell ⟨R,1,none⟩ (.slice A n c)) R y:=by
 obtain⟨s0,A0,n0,c0,h0,h1,h2,h3,h4,-⟩:=h
 have n1:NoIntAt (W.setCell ⟨R,0,none⟩ (.bool s)) R:=h4.set 0 (by intro k n e;cases e)
 refine⟨s,A,n,c,by simpa[World.setCell] using h0,by simp[go_sem,h1],by simp[go_sem,h2],fun i=>by simp[go_sem,h3 i],n1.set 1 (by intro k n e;cases e),?_⟩
 exact(hy.only (Only.setCell W R 0 _) h4).only (Only.setCell _ R 1 _) n1
theorem Za3{W:World}{R:Nat}{z:Int}{u v u0 v0:Value}(h:IC W u v z)(hn:NoIntAt W R)(hu:∀ k n,u0≠.int k n):IC ((W.setCell ⟨R,0,none⟩ u0).setCell ⟨R,1,none⟩ v0) u v z:=
 (h.only (Only.setCell W R 0 _) hn).only (Only.setCell _ R 1 _) (hn.set 0 hu)
theorem YP{w W:World}{R:Nat}(h:Below w.heap.size w W)(hR:w.heap.size≤R)(u v:Value):Below w.heap.size w ((W.setCell ⟨R,0,none⟩ u).setCell ⟨R,1,none⟩ v):=(h.setCell hR _).setCell hR _
theorem IBox.only{W W':World}{B g:Nat}{z:Int}(h:IBox W B z)(ho:Only g W W')(hne:g≠B)(hn:NoIntAt W g):IBox W' B z:=by
 obtain⟨s,A,n,c,h0,h1,h2,h3,h4,h5⟩:=h
 have hb:=ho.block B (fun e=>hne e.symm)
 have hc:∀ i,W'.cell? ⟨B,i,none⟩=W.cell? ⟨B,i,none⟩:=fun i=>by simp only[World.cell?,hb]
 exact⟨s,A,n,c,by rw[ho.size];exact h0,(hc 0).trans h1,(hc 1).trans h2,fun i=>by simp only[World.frozen?,hb];exact h3 i,fun i k m e=>h4 i k m (by rw[← hc i];exact e),h5.only ho hn⟩
theorem Clean.noInt{W:World}{g:Nat}(h:Clean eInt.Bad W g):NoIntAt W g:=fun i k n e=>h i _ e ⟨k,n,rfl⟩
theorem IBox.row{W:World}{B R j:Nat}{z:Int}{s:Bool}{v:Value}(h:IBox W B z)(hne:R≠B)(hc:Clean eInt.Bad W R):IBox ((W.setCell ⟨R,j,none⟩ (.bool s)).setCell ⟨R,j+1,none⟩ v) B z:=
 (h.only (Only.setCell W R j _) hne hc.noInt).only (Only.setCell _ R (j+1) _) hne (hc.set j (u:=.bool s) (fun ⟨_,_,e⟩=>by cases e):Clean eInt.Bad _ R).noInt
def KJ(u:Value):Prop:=¬ ∃ A n c,u=.slice A n c
def eSl{α:Type}(e:El α)(T:TypeId)(hb:∀ x cs W,e.E x cs W→∃ u r,cs=u::r∧KJ u)(hB:∀ u,e.Bad u→KJ u):El (List α) where
 T:=T
 n:=1
 bytes:=24
 z:=.slice none 0 0
 E:=fun l cs W=>∃ v,cs=[v]∧Sl e l v W
 Bad:=KJ
 pos:=by decide
 small:=by decide
 zn:=rfl
 zg:=by
  intro u hu
  simp only[Value.cells]at hu
  simp at hu
  subst hu
  exact fun h=>h ⟨_,_,_,rfl⟩
 len:=by rintro x cs W ⟨v,rfl,-⟩;rfl
 one:=by
  rintro x cs W ⟨v,rfl,A,c,rfl,-⟩ y hy
  obtain rfl:=List.mem_singleton.1 hy
  exact⟨rfl,fun h=>h ⟨_,_,_,rfl⟩⟩
 alt:=by
  rintro x cs W W' row ⟨v,rfl,h⟩ ha hn
  exact⟨v,rfl,h.alt ha hn hb hB⟩
theorem Ze7(u:Value)(h:eInt.Bad u):KJ u:=by
 obtain⟨k,n,rfl⟩:=h
 rintro⟨A,m,c,e⟩;cases e
def ePol:El (List Int):=eSl eInt 126 eInt_bad Ze7
theorem VP.pol{l:List Int}{v:Value}{W:World}(h:VP l v W):ePol.E l [v] W:=⟨v,rfl,h.sl⟩
theorem Own.one{α:Type}{e:El α}{w W:World}{x:α}{cs:List Value}(hB:Below w.heap.size w W)(h:e.E x cs W):Own e w (.slice (some ⟨W.heap.size,0,none⟩) 1 1) [(x,cs)] (W.alloc (.cells cs.toArray e.T)):=by
 have hl:=e.len h
 have hb:=(brf W.heap.size W).alloc (nlr _) (.cells cs.toArray e.T)
 refine⟨⟨by simp[Zk,hl],.inr ⟨W.heap.size,1,cs.toArray,rfl,hB.size,heap_alloc_new W _,Nat.le_refl _,by unfold maxLen;omega,by simp[hl],?_⟩⟩,hB.alloc hB.size _,fun y hy=>?_,fun g hg=>?_⟩
 ·simp[Zk,← hl]
 ·obtain rfl:=List.mem_singleton.1 hy
  exact e.keep h hb
 ·have:g=W.heap.size:=by simp[Value.ownBlock]at hg;exact hg.symm
  subst this
  exact Clean.cells (heap_alloc_new W _) fun u hu=>(e.one h u (by simpa using hu)).2
theorem info_Pol:(Tryz.prog.info? 126).map (fun i=>(i.zero,i.size,i.bytes))=some (some (.slice none 0 0),1,24):=by kernel_rfl
theorem pol_vp{l:List Int}{v:Value}{W:World}(h:ePol.E l [v] W):VP l v W:=by
 obtain⟨v',e,h⟩:=h
 obtain rfl:=(List.cons.inj e).1
 exact h.vp
end
section
open Go.RowKit FF
theorem Zc{i n:Nat}(h:i<n)(hn:n≤1000000):wrap64 ((i:Int)+1)=((i+1:Nat):Int):=by unfold wrap64;omega
theorem Za4{l:List Int}{f:Int→Int}{n i:Nat}{rs:List (Int × List Value)}{z:Int}{cs:List Value}(hn:n=l.length)(hi:i<n)(hz:l[i]?=some z)(hr:rs.map (·.1)=(l.take i).map f++List.replicate (n-i) 0) :
  (rs.set i (f z,cs)).map (·.1)=(l.take (i+1)).map f++List.replicate (n-(i+1)) 0:=by
 rw[List.map_set,hr]
 have h1:((l.take i).map f).length=i:=by simp;omega
 have h2:n-i=(n-(i+1))+1:=by omega
 rw[List.set_append_right _ _ (by omega),h1,Nat.sub_self,h2,List.replicate_succ,List.set_cons_zero,List.take_add_one,hz]
 simp
theorem Zd{w W:World}{g cap n i:Nat}{rs:List (Int × List Value)}(h:Own eInt w (.slice (some ⟨g,0,none⟩) n cap) rs W)(hi:i<rs.length) :
  ∃ u v z,W.cell? ⟨g,i*2,none⟩=some u∧W.cell? ⟨g,i*2+1,none⟩=some v∧W.frozen? ⟨g,i*2,none⟩=false∧W.frozen? ⟨g,i*2+1,none⟩=false∧IC W u v z∧rs[i]?=some (z,[u,v]):=by
 obtain⟨hc,he⟩:=h.cell (x:=rs[i]) (gEe hi)
 obtain⟨u,v,e,hIC⟩:=he
 rw[e]at hc
 exact⟨u,v,rs[i].1,hc 0 u rfl,hc 1 v rfl,h.fz _,h.fz _,hIC,by rw[gEe hi,← e]⟩
theorem Zt{w W:World}{g cap n i:Nat}{rs:List (Int × List Value)}(h:Own eInt w (.slice (some ⟨g,0,none⟩) n cap) rs W)(hi:i<rs.length){u v:Value}{z:Int}(hIC:IC W u v z) :
  Own eInt w (.slice (some ⟨g,0,none⟩) n cap) (rs.set i (z,[u,v])) ((W.setCell ⟨g,i*2,none⟩ u).setCell ⟨g,i*2+1,none⟩ v):=
 h.set (e:=eInt) hi (y:=z) (cs:=[u,v]) ⟨u,v,rfl,hIC⟩
theorem ZjB{v:Value}{l:List Int}{k:Nat}{f:Int→Int}{q:Value}{w:World}(hv:VP l v w)(hl:l.length≤1000000)(hk:∀ z∈l,Wn k (f z))(hk4:k≤300)
  (hcl:∀ (W:World) (u u':Value) (z:Int),Below w.heap.size w W→z∈l→IC W u u' z→Calls Tryz.prog 179 #[.agg #[u,u'],q] W (Zb (VI (f z)) W)) :
  Calls Tryz.prog 175 #[v,.func (.func 179) #[] #[q]] w (Zb (VP (Zj (l.map f))) w):=by
 obtain⟨A,c,rfl,h1,h2⟩:=hv.len
 obtain⟨n,hn⟩:=nmx (l.length)
 have hl':n≤1000000:=by omega
 have hmk:=XQ 51 Tryz.underlying51 n hl'
 have hmk:=lhd hmk
 have HV:=lhd hv;have HK:=lhd hk;have HC:=lhd hcl;have HN:=lhd hn;have HL:=lhd hl'
 have hlen:∀ i:Nat,i<n→∃ z,l[i]?=some z:=fun i hi=>⟨_,gEe (by omega)⟩
 have HLe:=lhd hlen
 rw[← hn]at h1 ⊢
 clear hv hk hcl hn hl hl' hlen
 go_enter Tryz.func175,Tryz.ntmps175
 have hmk':=hmk.out
 go_wp2_with fail
 clear hmk' hmk
 obtain⟨W1,hW1⟩:=nmx (w.alloc (.cells (madeCells #[.bool false,.slice none 0 0] (n*2)) 57))
 obtain⟨R,hR⟩:=nmx (w.heap.size)
 have hO:=Own.made_int (N:=n) (brf w.heap.size w) HL.out
 rw[← hW1,← hR]at hO
 rw[← hW1,← hR]
 have HO:=lhd hO;have HRs:=lhd hR
 clear hO hW1 hR
 go_loopw [6,7,13] (fun _ _ s13 wr=>∃ (i:Nat) (rs:List (Int × List Value)),s13=.int .i64 i∧i≤n∧rs.length=n∧rs.map (·.1)=(l.take i).map f++List.replicate (n-i) 0∧Own eInt w (.slice (some ⟨R,0,none⟩) n n) rs wr) (fun _ _ s13 _=>(n-(intOf s13).toNat))
 case atStart=>exact⟨0,_,rfl,Nat.zero_le _,List.length_replicate,by simp,HO.out⟩
 case round =>
  obtain⟨i,rs,rfl,hil,hrl,hrs,hG⟩:=hrel
  have HG:=lhd hG;have HR:=lhd hrs;have HRL:=lhd hrl
  clear hG hrs hrl HO
  by_cases hlt:i<n
  ·have hti:=deT (p:=((i:Nat):Int)<((n:Nat):Int)) (by omega)
   obtain⟨z,hz⟩:=HLe.out i hlt
   have HZ:=lhd hz
   obtain⟨b,o,s,A',m,c',rfl,q0,q1,g,hb⟩:=(HV.out.keep HG.out.below).at hz
   have GI:=lhd g
   clear g hz
   go_wp2_with fail
   have BA:=(brf wr.heap.size wr).alloc (nlr _) (.cells #[.bool s,.slice A' m c'] 57)
   refine(HC.out _ _ _ z (HG.out.below.trans (BA.mono HG.out.below.size)) (mGe HZ.out) (GI.out.keep BA)).mono ?_
   rintro e w1 ⟨_,rfl,⟨p,q',rfl,h⟩,hb1⟩
   have hb2:=BA.trans (hb1.mono (by simp))
   have HG1:=lhd (HG.out.keep hb2)
   obtain⟨u0,v0,z0,k0,k1,k2,k3,-,-⟩:=Zd HG1.out (i:=i) (by rw[HRL.out];exact hlt)
   have HS:=lhd (Zt HG1.out (i:=i) (by rw[HRL.out];exact hlt) h)
   obtain⟨a1,c1,rfl,rfl,-⟩:=h
   clear q0 q1 GI BA hb1 hb2 hb HV
   generalize sgB (f z)=s1 at *
   generalize lnW (f z)=m1 at *
   go_wp2_with fail
   refine⟨⟨i+1,_,by rw[Zc hlt HL.out],hlt,?_,?_,HS.out⟩,?_⟩
   ·rw[List.length_set];exact HRL.out
   ·exact Za4 HN.out hlt HZ.out HR.out
   ·rw[Zc hlt HL.out];simp only[intOf];omega
  ·have hti:=deF (p:=((i:Nat):Int)<((n:Nat):Int)) (by omega)
   have hfin:rs.map (·.1)=l.map f:=by
    have h1:=HR.out;have h2:=HN.out
    rw[h1,List.take_of_length_le (by omega),show n-i=0 by omega];simp
   have HF:=lhd hfin
   clear hfin
   go_wp2_with fail
   refine(YO (v:=.slice (some ⟨R,0,none⟩) n n) (l:=l.map f) (k:=k) (by rw[← HF.out];exact HG.out.sl.vp) (fun x hx=>by obtain⟨z,hz,rfl⟩:=List.mem_map.1 hx;exact HK.out z hz) hk4 (by rw[List.length_map,← HN.out];exact HL.out)).mono ?_
   rintro e w1 ⟨r,rfl,hP,hb1⟩
   have HP:=lhd hP;have HB:=lhd (HG.out.below.trans (hb1.mono HG.out.below.size))
   clear hP hb1
   go_wp2_with fail
   go_ret
   exact⟨_,rfl,HP.out,HB.out⟩
theorem ZjC{v:Value}{l:List Int}{k:Nat}{f:Int→Int}{q:Value}{w:World}(hv:VP l v w)(hl:l.length≤1000000)(hk:∀ z∈l,Wn k (f z))(hk4:k≤300)
  (hcl:∀ (W:World) (u u':Value) (z:Int),Below w.heap.size w W→z∈l→IC W u u' z→Calls Tryz.prog 176 #[.agg #[u,u'],q] W (Zb (VI (f z)) W)) :
  Calls Tryz.prog 175 #[v,.func (.func 176) #[] #[q]] w (Zb (VP (Zj (l.map f))) w):=by
 obtain⟨A,c,rfl,h1,h2⟩:=hv.len
 obtain⟨n,hn⟩:=nmx (l.length)
 have hl':n≤1000000:=by omega
 have hmk:=XQ 51 Tryz.underlying51 n hl'
 have hmk:=lhd hmk
 have HV:=lhd hv;have HK:=lhd hk;have HC:=lhd hcl;have HN:=lhd hn;have HL:=lhd hl'
 have hlen:∀ i:Nat,i<n→∃ z,l[i]?=some z:=fun i hi=>⟨_,gEe (by omega)⟩
 have HLe:=lhd hlen
 rw[← hn]at h1 ⊢
 clear hv hk hcl hn hl hl' hlen
 go_enter Tryz.func175,Tryz.ntmps175
 have hmk':=hmk.out
 go_wp2_with fail
 clear hmk' hmk
 obtain⟨W1,hW1⟩:=nmx (w.alloc (.cells (madeCells #[.bool false,.slice none 0 0] (n*2)) 57))
 obtain⟨R,hR⟩:=nmx (w.heap.size)
 have hO:=Own.made_int (N:=n) (brf w.heap.size w) HL.out
 rw[← hW1,← hR]at hO
 rw[← hW1,← hR]
 have HO:=lhd hO;have HRs:=lhd hR
 clear hO hW1 hR
 go_loopw [6,7,13] (fun _ _ s13 wr=>∃ (i:Nat) (rs:List (Int × List Value)),s13=.int .i64 i∧i≤n∧rs.length=n∧rs.map (·.1)=(l.take i).map f++List.replicate (n-i) 0∧Own eInt w (.slice (some ⟨R,0,none⟩) n n) rs wr) (fun _ _ s13 _=>(n-(intOf s13).toNat))
 case atStart=>exact⟨0,_,rfl,Nat.zero_le _,List.length_replicate,by simp,HO.out⟩
 case round =>
  obtain⟨i,rs,rfl,hil,hrl,hrs,hG⟩:=hrel
  have HG:=lhd hG;have HR:=lhd hrs;have HRL:=lhd hrl
  clear hG hrs hrl HO
  by_cases hlt:i<n
  ·have hti:=deT (p:=((i:Nat):Int)<((n:Nat):Int)) (by omega)
   obtain⟨z,hz⟩:=HLe.out i hlt
   have HZ:=lhd hz
   obtain⟨b,o,s,A',m,c',rfl,q0,q1,g,hb⟩:=(HV.out.keep HG.out.below).at hz
   have GI:=lhd g
   clear g hz
   go_wp2_with fail
   have BA:=(brf wr.heap.size wr).alloc (nlr _) (.cells #[.bool s,.slice A' m c'] 57)
   refine(HC.out _ _ _ z (HG.out.below.trans (BA.mono HG.out.below.size)) (mGe HZ.out) (GI.out.keep BA)).mono ?_
   rintro e w1 ⟨_,rfl,⟨p,q',rfl,h⟩,hb1⟩
   have hb2:=BA.trans (hb1.mono (by simp))
   have HG1:=lhd (HG.out.keep hb2)
   obtain⟨u0,v0,z0,k0,k1,k2,k3,-,-⟩:=Zd HG1.out (i:=i) (by rw[HRL.out];exact hlt)
   have HS:=lhd (Zt HG1.out (i:=i) (by rw[HRL.out];exact hlt) h)
   obtain⟨a1,c1,rfl,rfl,-⟩:=h
   clear q0 q1 GI BA hb1 hb2 hb HV
   generalize sgB (f z)=s1 at *
   generalize lnW (f z)=m1 at *
   go_wp2_with fail
   refine⟨⟨i+1,_,by rw[Zc hlt HL.out],hlt,?_,?_,HS.out⟩,?_⟩
   ·rw[List.length_set];exact HRL.out
   ·exact Za4 HN.out hlt HZ.out HR.out
   ·rw[Zc hlt HL.out];simp only[intOf];omega
  ·have hti:=deF (p:=((i:Nat):Int)<((n:Nat):Int)) (by omega)
   have hfin:rs.map (·.1)=l.map f:=by
    have h1:=HR.out;have h2:=HN.out
    rw[h1,List.take_of_length_le (by omega),show n-i=0 by omega];simp
   have HF:=lhd hfin
   clear hfin
   go_wp2_with fail
   refine(YO (v:=.slice (some ⟨R,0,none⟩) n n) (l:=l.map f) (k:=k) (by rw[← HF.out];exact HG.out.sl.vp) (fun x hx=>by obtain⟨z,hz,rfl⟩:=List.mem_map.1 hx;exact HK.out z hz) hk4 (by rw[List.length_map,← HN.out];exact HL.out)).mono ?_
   rintro e w1 ⟨r,rfl,hP,hb1⟩
   have HP:=lhd hP;have HB:=lhd (HG.out.below.trans (hb1.mono HG.out.below.size))
   clear hP hb1
   go_wp2_with fail
   go_ret
   exact⟨_,rfl,HP.out,HB.out⟩
theorem Ze8{v:Value}{l:List Int}{k:Nat}{f:Int→Int}{w:World}(hv:VP l v w)(hl:l.length≤1000000)(hk:∀ z∈l,Wn k (f z))(hk4:k≤300)
  (hcl:∀ (W:World) (u u':Value) (z:Int),Below w.heap.size w W→z∈l→IC W u u' z→Calls Tryz.prog 172 #[.agg #[u,u']] W (Zb (VI (f z)) W)) :
  Calls Tryz.prog 175 #[v,.func (.func 172) #[] #[]] w (Zb (VP (Zj (l.map f))) w):=by
 obtain⟨A,c,rfl,h1,h2⟩:=hv.len
 obtain⟨n,hn⟩:=nmx (l.length)
 have hl':n≤1000000:=by omega
 have hmk:=XQ 51 Tryz.underlying51 n hl'
 have hmk:=lhd hmk
 have HV:=lhd hv;have HK:=lhd hk;have HC:=lhd hcl;have HN:=lhd hn;have HL:=lhd hl'
 have hlen:∀ i:Nat,i<n→∃ z,l[i]?=some z:=fun i hi=>⟨_,gEe (by omega)⟩
 have HLe:=lhd hlen
 rw[← hn]at h1 ⊢
 clear hv hk hcl hn hl hl' hlen
 go_enter Tryz.func175,Tryz.ntmps175
 have hmk':=hmk.out
 go_wp2_with fail
 clear hmk' hmk
 obtain⟨W1,hW1⟩:=nmx (w.alloc (.cells (madeCells #[.bool false,.slice none 0 0] (n*2)) 57))
 obtain⟨R,hR⟩:=nmx (w.heap.size)
 have hO:=Own.made_int (N:=n) (brf w.heap.size w) HL.out
 rw[← hW1,← hR]at hO
 rw[← hW1,← hR]
 have HO:=lhd hO;have HRs:=lhd hR
 clear hO hW1 hR
 go_loopw [6,7,13] (fun _ _ s13 wr=>∃ (i:Nat) (rs:List (Int × List Value)),s13=.int .i64 i∧i≤n∧rs.length=n∧rs.map (·.1)=(l.take i).map f++List.replicate (n-i) 0∧Own eInt w (.slice (some ⟨R,0,none⟩) n n) rs wr) (fun _ _ s13 _=>(n-(intOf s13).toNat))
 case atStart=>exact⟨0,_,rfl,Nat.zero_le _,List.length_replicate,by simp,HO.out⟩
 case round =>
  obtain⟨i,rs,rfl,hil,hrl,hrs,hG⟩:=hrel
  have HG:=lhd hG;have HR:=lhd hrs;have HRL:=lhd hrl
  clear hG hrs hrl HO
  by_cases hlt:i<n
  ·have hti:=deT (p:=((i:Nat):Int)<((n:Nat):Int)) (by omega)
   obtain⟨z,hz⟩:=HLe.out i hlt
   have HZ:=lhd hz
   obtain⟨b,o,s,A',m,c',rfl,q0,q1,g,hb⟩:=(HV.out.keep HG.out.below).at hz
   have GI:=lhd g
   clear g hz
   go_wp2_with fail
   have BA:=(brf wr.heap.size wr).alloc (nlr _) (.cells #[.bool s,.slice A' m c'] 57)
   refine(HC.out _ _ _ z (HG.out.below.trans (BA.mono HG.out.below.size)) (mGe HZ.out) (GI.out.keep BA)).mono ?_
   rintro e w1 ⟨_,rfl,⟨p,q',rfl,h⟩,hb1⟩
   have hb2:=BA.trans (hb1.mono (by simp))
   have HG1:=lhd (HG.out.keep hb2)
   obtain⟨u0,v0,z0,k0,k1,k2,k3,-,-⟩:=Zd HG1.out (i:=i) (by rw[HRL.out];exact hlt)
   have HS:=lhd (Zt HG1.out (i:=i) (by rw[HRL.out];exact hlt) h)
   obtain⟨a1,c1,rfl,rfl,-⟩:=h
   clear q0 q1 GI BA hb1 hb2 hb HV
   generalize sgB (f z)=s1 at *
   generalize lnW (f z)=m1 at *
   go_wp2_with fail
   refine⟨⟨i+1,_,by rw[Zc hlt HL.out],hlt,?_,?_,HS.out⟩,?_⟩
   ·rw[List.length_set];exact HRL.out
   ·exact Za4 HN.out hlt HZ.out HR.out
   ·rw[Zc hlt HL.out];simp only[intOf];omega
  ·have hti:=deF (p:=((i:Nat):Int)<((n:Nat):Int)) (by omega)
   have hfin:rs.map (·.1)=l.map f:=by
    have h1:=HR.out;have h2:=HN.out
    rw[h1,List.take_of_length_le (by omega),show n-i=0 by omega];simp
   have HF:=lhd hfin
   clear hfin
   go_wp2_with fail
   refine(YO (v:=.slice (some ⟨R,0,none⟩) n n) (l:=l.map f) (k:=k) (by rw[← HF.out];exact HG.out.sl.vp) (fun x hx=>by obtain⟨z,hz,rfl⟩:=List.mem_map.1 hx;exact HK.out z hz) hk4 (by rw[List.length_map,← HN.out];exact HL.out)).mono ?_
   rintro e w1 ⟨r,rfl,hP,hb1⟩
   have HP:=lhd hP;have HB:=lhd (HG.out.below.trans (hb1.mono HG.out.below.size))
   clear hP hb1
   go_wp2_with fail
   go_ret
   exact⟨_,rfl,HP.out,HB.out⟩
end
end Go.Proofs.YthkklilhjnpedaaGreatDoor
