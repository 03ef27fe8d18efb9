/- A law of regions that draw their order: what an operation yields is known by a word about it, boxes are laid and filled with what was yielded; whatever the order, all of it holds behind the region. -/
import Derived.Test.YthkklilhjnpedaaGreatDoorURin
set_option maxHeartbeats 16000000
set_option maxRecDepth 8000
namespace Go.Proofs.YthkklilhjnpedaaGreatDoor
open Go.RowKit FF
def NoIntAt(W:World)(g:Nat):Prop:=∀ (i:Nat) (k:IntKind) (n:Int),W.cell? ⟨g,i,none⟩≠some (.int k n)
abbrev Wd:=Nat × Nat × (Value→World→Prop)
structure Firm(p:Value→World→Prop):Prop where
 below:∀ v W W',p v W→Below W.heap.size W W'→p v W'
 only:∀ v W W' g,p v W→Only g W W'→NoIntAt W g→p v W'
structure Emp(W:World)(g:Nat)(z:Array Value)(n:Prop):Prop where
 cells:Cells W g z
 no:n→NoIntAt W g
theorem Emp.keep{W W':World}{g:Nat}{z:Array Value}{n:Prop}(h:Emp W g z n)(hb:Below W.heap.size W W'):Emp W' g z n:=
 ⟨h.cells.keep hb,fun hn i k m e=>h.no hn i k m (by rw[← e];exact(hb.cell (p:=⟨g,i,none⟩) h.cells.1).symm)⟩
theorem Emp.only{W W':World}{g k:Nat}{z:Array Value}{n:Prop}(h:Emp W g z n)(ho:Only k W W')(hg:g≠k):Emp W' g z n:=
 ⟨h.cells.only ho hg,fun hn i q m e=>h.no hn i q m (by rw[← e];simp only[World.cell?,ho.block g hg])⟩
structure BxS where
 at':Nat
 slot:Nat
 st:Nat
 so:Nat
 src:Nat
 zero:Array Value
structure BxO where
 g:Nat
 st:Nat
 so:Nat
 src:Nat
 zero:Array Value
 fill:Value→Array Value→Prop
def Full(W:World)(g:Nat)(v:Value):Prop:=∃ vs,v=.agg vs∧Cells W g vs
theorem Full.keep{W W':World}{g:Nat}{v:Value}(h:Full W g v)(hb:Below W.heap.size W W'):Full W' g v:=by
 obtain⟨vs,h1,h2⟩:=h;exact⟨vs,h1,h2.keep hb⟩
theorem Full.only{W W':World}{g k:Nat}{v:Value}(h:Full W g v)(ho:Only k W W')(hg:g≠k):Full W' g v:=by
 obtain⟨vs,h1,h2⟩:=h;exact⟨vs,h1,h2.only ho hg⟩
theorem NoIntAt.below{W W':World}{g:Nat}(h:NoIntAt W g)(hg:g<W.heap.size)(hb:Below W.heap.size W W'):NoIntAt W' g:=fun i k m e=>h i k m (by rw[← e];exact(hb.cell (p:=⟨g,i,none⟩) hg).symm)
theorem NoIntAt.other{W W':World}{g k:Nat}(h:NoIntAt W g)(ho:Only k W W')(hg:g≠k):NoIntAt W' g:=fun i q m e=>h i q m (by rw[← e];simp only[World.cell?,ho.block g hg])
def FullO(W:World)(c:BxO)(v:Value):Prop:=(∃ vs,c.fill v vs∧Cells W c.g vs)∧NoIntAt W c.g
theorem FullO.keep{W W':World}{c:BxO}{v:Value}(h:FullO W c v)(hb:Below W.heap.size W W'):FullO W' c v:=by
 obtain⟨⟨vs,h1,h2⟩,h3⟩:=h;exact⟨⟨vs,h1,h2.keep hb⟩,h3.below h2.1 hb⟩
theorem FullO.only{W W':World}{k:Nat}{c:BxO}{v:Value}(h:FullO W c v)(ho:Only k W W')(hg:c.g≠k):FullO W' c v:=by
 obtain⟨⟨vs,h1,h2⟩,h3⟩:=h;exact⟨⟨vs,h1,h2.only ho hg⟩,h3.other ho hg⟩
theorem Xs(W:World)(vs:Array Value)(T:TypeId)(i:Nat):(W.alloc (.cells vs T)).cell? ⟨W.heap.size,i,none⟩=vs[i]?:=by
 simp[go_sem]
section
variable {P:Program}{ops:Array Oper}{Q:Exit→Act→World→Prop}{a:Act}{w:World}{B:Nat}{pr:List Wd}{bxs:List BxS}{olds:List BxO}{ex:World→Prop}
structure FJ(ops:Array Oper)(a:Act)(B:Nat)(w:World)(pr:List Wd)(bxs:List BxS)(olds:List BxO)(ex:World→Prop)(listed:Array Bool)(a':Act)(W:World):Prop where
 defers:a'.defers=a.defers
 size:a'.tmps.size=a.tmps.size
 frame:∀ t,(∀ (i:Nat) (o:Oper),ops[i]?=some o→o.dst≠some t)→a'.tmps.getD t undef=a.tmps.getD t undef
 below:Below B w W
 ext:ex W
 val:∀ x∈pr,listed.getD x.1 false=true→x.2.2 (a'.tmps.getD x.2.1 undef) W
 box:∀ b∈bxs,listed.getD b.at' false=true→∃ g,a'.tmps.getD b.slot undef=.pointer (some ⟨g,0,none⟩)∧w.heap.size≤g∧(if listed.getD b.st false=true then Full W g (a'.tmps.getD b.src undef) else Emp W g b.zero True)
 old:∀ c∈olds,(if listed.getD c.st false=true then FullO W c (a'.tmps.getD c.src undef) else Emp W c.g c.zero (c.st≠999))
 ord:∀ b∈bxs,listed.getD b.st false=true→listed.getD b.at' false=true∧listed.getD b.so false=true
 ordo:∀ c∈olds,listed.getD c.st false=true→listed.getD c.so false=true
 apart:∀ b∈bxs,∀ c∈bxs,b.at'≠c.at'→listed.getD b.at' false=true→listed.getD c.at' false=true→a'.tmps.getD b.slot undef≠a'.tmps.getD c.slot undef
def FVal(P:Program)(a:Act)(B:Nat)(w:World)(pr:List Wd)(bxs:List BxS)(olds:List BxO)(ex:World→Prop)(ds:List Tmp)(i:Nat)(o:Oper):Prop:=
 (∀ b ∈ bxs, b.at' ≠ i ∧ b.st ≠ i) ∧ (∀ c ∈ olds, c.st ≠ i) ∧
  ∀ y W,Below B w W→ex W→(∀ c∈olds,c.st=999→Cells W c.g c.zero)→(∀ x∈pr,depB o x.1=true→x.2.2 (y x.2.1) W)→∀ K Q',(∀ v W',Below W.heap.size W W'→(∀ x∈pr,x.1=i→x.2.2 v W')→K ((fr a ds y).put o.dst v) W')→Oper.wp P o (fr a ds y) W K Q'
def FBox(P:Program)(a:Act)(pr:List Wd)(bxs:List BxS)(olds:List BxO)(ds:List Tmp)(i:Nat)(o:Oper):Prop:=
 (∀ x ∈ pr, x.1 ≠ i) ∧ (∀ c ∈ olds, c.st ≠ i) ∧ (∃ b ∈ bxs, b.at' = i ∧ b.st ≠ i ∧ (∀ c ∈ bxs, (c.at' = i → c = b) ∧ (c.st = i → c = b)) ∧
  ∃ T,(∀ (i:Nat) (k:IntKind) (n:Int),b.zero[i]?≠some (.int k n))∧∀ y W,∀ K Q',K ((fr a ds y).put o.dst (.pointer (some ⟨W.heap.size,0,none⟩))) (W.alloc (.cells b.zero T))→Oper.wp P o (fr a ds y) W K Q')
structure WpS(P:Program)(o:Oper)(a:Act)(W:World)(K:Act→World→Prop)(Q':Exit→Act→World→Prop):Prop where
 out:Oper.wp P o a W K Q'
def FSto(P:Program)(a:Act)(B:Nat)(w:World)(pr:List Wd)(bxs:List BxS)(olds:List BxO)(ds:List Tmp)(i:Nat)(o:Oper):Prop:=
 o.dst=none∧(∀ x∈pr,x.1≠i)∧(∀ c∈olds,c.st≠i)∧(∃ b∈bxs,b.st=i∧b.at'≠i∧(∀ c∈bxs,c.at'≠i∧(c.st=i→c=b)∧(c.at'=b.at'→c=b))∧depB o b.at'=true∧depB o b.so=true ∧
  ∀ y W g,Below B w W→(∀ x∈pr,depB o x.1=true→x.2.2 (y x.2.1) W)→y b.slot=.pointer (some ⟨g,0,none⟩)→w.heap.size≤g→Cells W g b.zero→∀ K Q',(∀ W',Full W' g (y b.src)→Only g W W'→K ((fr a ds y).put o.dst undef) W')→WpS P o (fr a ds y) W K Q')
def FOld(P:Program)(a:Act)(B:Nat)(w:World)(pr:List Wd)(bxs:List BxS)(olds:List BxO)(ds:List Tmp)(i:Nat)(o:Oper):Prop:=
 o.dst=none∧(∀ x∈pr,x.1≠i)∧(∀ b∈bxs,b.at'≠i∧b.st≠i)∧(∃ c∈olds,c.st=i∧B≤c.g∧c.st≠999∧(∀ d∈olds,(d.st=i→d=c)∧(d.g=c.g→d=c))∧depB o c.so=true ∧
  ∀ y W,Below B w W→(∀ x∈pr,depB o x.1=true→x.2.2 (y x.2.1) W)→Cells W c.g c.zero→NoIntAt W c.g→∀ K Q',(∀ W',FullO W' c (y c.src)→Only c.g W W'→K ((fr a ds y).put o.dst undef) W')→WpS P o (fr a ds y) W K Q')
def Uy(pr:List Wd)(o:Oper)(j:Nat)(want b:Bool):Prop:=o.guard=some (j,want)∧depB o j=true∧∃ x∈pr,x.1=j∧∀ v W,x.2.2 v W→v=.bool b
def FOk(P:Program)(a:Act)(B:Nat)(w:World)(pr:List Wd)(bxs:List BxS)(olds:List BxO)(ex:World→Prop)(ds:List Tmp)(i:Nat)(o:Oper):Prop:=
 ((o.guard=none∨∃ j b,Uy pr o j b b)∧(FVal P a B w pr bxs olds ex ds i o∨FBox P a pr bxs olds ds i o∨FSto P a B w pr bxs olds ds i o∨FOld P a B w pr bxs olds ds i o)) ∨
 ((∃ j b,Uy pr o j (!b) b)∧(∀ x∈pr,x.1=i→∀ W,x.2.2 undef W)∧(∀ b∈bxs,b.at'≠i∧b.st≠i)∧(∀ c∈olds,c.st≠i))
theorem FJ.lit{listed:Array Bool}{a':Act}{W:World}(h:FJ ops a B w pr bxs olds ex listed a' W):a'=fr a (ops.toList.filterMap (·.dst)) (fun t=>a'.tmps.getD t undef):=by
 rcases a' with⟨tm,df⟩
 have hd:=h.defers;have hs:=h.size;have hf:=h.frame
 simp only[fr]at hd hs hf ⊢
 rw[hd]
 congr 1
 apply Array.ext_getElem?
 intro j
 by_cases hj:j<a.tmps.size
 ·rw[XV _ _ _ _ hj]
  have hj':j<tm.size:=by rw[hs];exact hj
  by_cases hm:j∈ops.toList.filterMap (·.dst)
  ·rw[if_pos hm];simp[Array.getD,hj']
  ·rw[if_neg hm]
   have:=hf j (fun i o ho hd=>hm (List.mem_filterMap.2 ⟨o,by rw[Array.mem_toList_iff];exact Array.mem_of_getElem? ho,hd⟩))
   simp only[Array.getD,hj,hj',dite_true]at this
   rw[Array.getElem?_eq_getElem hj,Array.getElem?_eq_getElem hj']
   exact congrArg some this
 ·rw[Array.getElem?_eq_none (by rw[hs];omega),Array.getElem?_eq_none (by rw[X7];omega)]
theorem FJ.step{listed:Array Bool}{a':Act}{W:World}{i:Nat}{o:Oper}(h:FJ ops a B w pr bxs olds ex listed a' W)(hs:listed.size=ops.size)(ho:ops[i]?=some o)(hn:listed.getD i true=false)
  (hd:∀ e∈o.after,Region.binds .any e=true→listed.getD e.on false=true)
  (nodup:∀ (i j:Nat) (o o':Oper) (t:Tmp),ops[i]?=some o→ops[j]?=some o'→o.dst=some t→o'.dst=some t→i=j) (hfirm:∀ x∈pr,Firm x.2.2) (hex:Firm (fun _=>ex))
  (vok:∀ x∈pr,(ops[x.1]?).bind (·.dst)=some x.2.1∧x.2.1<a.tmps.size) (bok:∀ b∈bxs,((ops[b.at']?).bind (·.dst)=some b.slot∧b.slot<a.tmps.size)∧(ops[b.so]?).bind (·.dst)=some b.src) (hBw:B≤w.heap.size) (olt:∀ c∈olds,c.g<w.heap.size) (ook:∀ c∈olds,c.st<ops.size→(ops[c.so]?).bind (·.dst)=some c.src) (h999:ops.size≤999)
  {ds:List Tmp} (hds:ops.toList.filterMap (·.dst)=ds) (hok:FOk P a B w pr bxs olds ex ds i o):wpOp P ops Q i (FJ ops a B w pr bxs olds ex (listed.setIfInBounds i true)) a' W:=by
 have hi:i<listed.size:=by
  rw[hs];exact(Array.getElem?_eq_some_iff.1 ho).1
 have hnf:listed.getD i false=false:=by
  simpa[Array.getD,hi] using hn
 have hL:=fun j=>Xq (listed:=listed) (i:=i) (j:=j) hi
 have hslot:∀ j t,j≠i→(ops[j]?).bind (·.dst)=some t→o.dst≠some t:=by
  intro j t hj h1 h2
  cases hoj:ops[j]? with
  | none=>rw[hoj]at h1;cases h1
  | some oj=>rw[hoj]at h1;exact hj (nodup j i oj o t hoj ho h1 h2)
 have hV:∀ x∈pr,depB o x.1=true→x.2.2 (a'.tmps.getD x.2.1 undef) W:=fun x hx hdx=>h.val x hx (Zw hdx hd)
 have hlit:=h.lit
 rw[hds]at hlit
 have hY:∃ y:Nat→Value,(∀ t,a'.tmps.getD t undef=y t)∧a'=fr a ds y:=⟨_,fun _=>rfl,hlit⟩
 obtain⟨y,hy,hay⟩:=hY
 simp only[hy]at hV
 clear hlit
 have hyi:∀ j want b,Uy pr o j want b→Region.wanted o (yielded ops a'.tmps)=(b == want):=by
  rintro j want b ⟨g1,g2,x,hx,rfl,hxb⟩
  have h1:=hxb _ _ (h.val x hx (Zw g2 hd))
  have h2:=vok x hx
  have h3:x.2.1<a'.tmps.size:=by rw[h.size];exact h2.2
  have h4:a'.tmps[x.2.1]?=some (.bool b):=by
   rw[Array.getElem?_eq_getElem h3]
   simpa[Array.getD,h3] using h1
  simp only[Region.wanted,g1,yielded,h2.1,Option.bind_some,h4]
  cases b <;> cases want <;> rfl
 have hvo:∀ v,∀ x∈pr,x.1≠i→(a'.put o.dst v).tmps.getD x.2.1 undef=a'.tmps.getD x.2.1 undef:=fun v x hx hxi =>
  Zs (hslot _ _ hxi (vok x hx).1)
 have hbo:∀ v,∀ b∈bxs,b.at'≠i→(a'.put o.dst v).tmps.getD b.slot undef=a'.tmps.getD b.slot undef:=fun v b hb hbi =>
  Zs (hslot _ _ hbi (bok b hb).1.1)
 have hbs:∀ v,∀ b∈bxs,listed.getD b.so false=true→(a'.put o.dst v).tmps.getD b.src undef=a'.tmps.getD b.src undef:=fun v b hb hl =>
  Zs (hslot _ _ (fun e=>by rw[e,hnf]at hl;cases hl) (bok b hb).2)
 have hcs:∀ v,∀ c∈olds,c.st<ops.size→listed.getD c.so false=true→(a'.put o.dst v).tmps.getD c.src undef=a'.tmps.getD c.src undef:=fun v c hc hlt hl =>
  Zs (hslot _ _ (fun e=>by rw[e,hnf]at hl;cases hl) (ook c hc hlt))
 have hltst:∀ j,listed.getD j false=true→j<ops.size:=fun j hj=>by
  apply bCo;intro hh
  rw[show listed.getD j false=false by simp[Array.getD,show ¬ j<listed.size by omega]]at hj
  cases hj
 have hfr:∀ v t,(∀ (i:Nat) (o:Oper),ops[i]?=some o→o.dst≠some t)→(a'.put o.dst v).tmps.getD t undef=a.tmps.getD t undef:=fun v t ht=>by
  rw[Zs (ht i o ho)];exact h.frame t ht
 have hBW:B≤W.heap.size:=Nat.le_trans hBw h.below.size
 have holdk:∀ {W':World} (v:Value),Below W.heap.size W W'→(∀ c∈olds,c.st≠i)→∀ c∈olds,(if (listed.setIfInBounds i true).getD c.st false=true then FullO W' c ((a'.put o.dst v).tmps.getD c.src undef) else Emp W' c.g c.zero (c.st≠999)):=fun v hB hne c hc=>by
  rw[hL,if_neg (hne c hc)]
  have:=h.old c hc
  by_cases hl:listed.getD c.st false=true
  ·rw[if_pos hl]at this ⊢
   rw[hcs v c hc (hltst _ hl) (h.ordo c hc hl)];exact this.keep hB
  ·rw[if_neg hl]at this ⊢;exact this.keep hB
 have hordo:(∀ c∈olds,c.st≠i)→∀ c∈olds,(listed.setIfInBounds i true).getD c.st false=true→(listed.setIfInBounds i true).getD c.so false=true:=fun hne c hc hl=>by
  rw[hL,if_neg (hne c hc)]at hl
  rw[hL];split
  ·rfl
  ·exact h.ordo c hc hl
 have hord:(∀ b∈bxs,b.st≠i)→∀ b∈bxs,(listed.setIfInBounds i true).getD b.st false=true→(listed.setIfInBounds i true).getD b.at' false=true∧(listed.setIfInBounds i true).getD b.so false=true:=fun hne b hb hl=>by
  rw[hL,if_neg (hne b hb)]at hl
  have:=h.ord b hb hl
  rw[hL,hL]
  constructor <;> split
  ·rfl
  ·exact this.1
  ·rfl
  ·exact this.2
 have hboxk:∀ {W':World} (v:Value),Below W.heap.size W W'→∀ b∈bxs,b.at'≠i→b.st≠i→listed.getD b.at' false=true→∃ g,(a'.put o.dst v).tmps.getD b.slot undef=.pointer (some ⟨g,0,none⟩)∧w.heap.size≤g∧(if (listed.setIfInBounds i true).getD b.st false=true then Full W' g ((a'.put o.dst v).tmps.getD b.src undef) else Emp W' g b.zero True):=fun v hB b hb h1 h2 hl=>by
  obtain⟨g,g1,g2,g3⟩:=h.box b hb hl
  refine⟨g,(hbo v b hb h1).trans g1,g2,?_⟩
  rw[hL,if_neg h2]
  by_cases hs:listed.getD b.st false=true
  ·rw[if_pos hs]at g3 ⊢
   rw[hbs v b hb (h.ord b hb hs).2];exact g3.keep hB
  ·rw[if_neg hs]at g3 ⊢;exact g3.keep hB
 have hval:∀ v W',(∀ b∈bxs,b.at'≠i∧b.st≠i)→(∀ c∈olds,c.st≠i)→Below W.heap.size W W'→(∀ x∈pr,x.1=i→x.2.2 v W')→FJ ops a B w pr bxs olds ex (listed.setIfInBounds i true) (a'.put o.dst v) W':=by
  intro v W' hv2 hv4 hB hv1
  refine⟨(Z8 ..).trans h.defers,(Xv ..).trans h.size,hfr v,h.below.trans (hB.mono hBW),hex.below undef _ _ h.ext hB,fun x hx hl=>?_,fun b hb hl=>?_,holdk v hB hv4,hord (fun b hb=>(hv2 b hb).2),hordo hv4,fun b hb c hc hbc hl1 hl2=>?_⟩
  ·by_cases hxi:x.1=i
   ·have h1:=(vok x hx)
    rw[hxi,ho]at h1
    have h2:o.dst=some x.2.1:=h1.1
    rw[h2,Xi (by rw[h.size];exact h1.2)]
    exact hv1 x hx hxi
   ·rw[hL,if_neg hxi]at hl
    rw[hvo v x hx hxi]
    exact(hfirm x hx).below _ _ _ (h.val x hx hl) hB
  ·rw[hL,if_neg (hv2 b hb).1]at hl
   exact hboxk v hB b hb (hv2 b hb).1 (hv2 b hb).2 hl
  ·rw[hL,if_neg (hv2 b hb).1]at hl1
   rw[hL,if_neg (hv2 c hc).1]at hl2
   rw[hbo v b hb (hv2 b hb).1,hbo v c hc (hv2 c hc).1]
   exact h.apart b hb c hc hbc hl1 hl2
 unfold wpOp
 rw[ho]
 rcases hok with⟨hg,hok⟩ | ⟨⟨j,b,hg⟩,hu1,hu2,hu3⟩
 rotate_left
 ·simp only[hyi _ _ _ hg,show(b == !b)=false by cases b <;> rfl,Bool.false_eq_true,if_false]
  exact hval undef W hu2 hu3 (Below.refl _ _) (fun x hx e=>hu1 x hx e W)
 have hw:Region.wanted o (yielded ops a'.tmps)=true:=by
  rcases hg with hg | ⟨j,b,hg⟩
  ·simp only[Region.wanted,hg]
  ·rw[hyi _ _ _ hg];cases b <;> rfl
 simp only[hw,if_true]
 refine .inl ?_
 have hO:∀ c∈olds,c.st=999→Cells W c.g c.zero:=fun c hc hn=>by
  have:=h.old c hc
  rw[hn,show listed.getD 999 false=false from by simp[Array.getD,show ¬ 999<listed.size by omega],if_neg (by simp)]at this
  exact this.cells
 rcases hok with⟨hv2,hv4,hv3⟩ | ⟨hx0,ho4,b,hb,hbi,hbst,hbu,T,hbz,hb3⟩ | ⟨hdn,hx0,ho4,b,hb,hbi,hbn,hbu,hbd,hbs',hb3⟩ | ⟨hdn,hx0,hb0,c0,hc0,hci,hcB,hcz,hcu,hcd,hc3⟩
 ·rw[hay]
  refine hv3 y W h.below h.ext hO hV _ _ (fun v W' hB hv=>?_)
  rw[← hay]
  exact hval v W' hv2 hv4 hB hv
 ·have hB:Below W.heap.size W (W.alloc (.cells b.zero T)):=(Below.refl _ _).alloc (nlr _) _
  have hdst:o.dst=some b.slot:=by
   have h1:=(bok b hb).1.1
   rw[hbi,ho]at h1;exact h1
  have hnew:(a'.put o.dst (.pointer (some ⟨W.heap.size,0,none⟩))).tmps.getD b.slot undef=.pointer (some ⟨W.heap.size,0,none⟩):=by
   rw[hdst,Xi (by rw[h.size];exact(bok b hb).1.2)]
  have hne:∀ c∈bxs,c≠b→c.at'≠i∧c.st≠i:=fun c hc hcb=>⟨fun e=>hcb ((hbu c hc).1 e),fun e=>hcb ((hbu c hc).2 e)⟩
  have hsti:∀ c∈bxs,c.st≠i:=fun c hc e=>by
   have:=(hbu c hc).2 e
   rw[this]at e;exact hbst e
  have hold:∀ c∈bxs,c≠b→listed.getD c.at' false=true→(a'.put o.dst (.pointer (some ⟨W.heap.size,0,none⟩))).tmps.getD c.slot undef≠.pointer (some ⟨W.heap.size,0,none⟩):=by
   intro c hc hcb hl e
   rw[hbo _ c hc (hne c hc hcb).1]at e
   obtain⟨g,g1,g2,g3⟩:=h.box c hc hl
   rw[g1]at e
   injection e with e;injection e with e;injection e with e
   have:g<W.heap.size:=by
    split at g3
    ·obtain⟨vs,_,k⟩:=g3;exact k.1
    ·exact g3.cells.1
   omega
  rw[hay]
  refine hb3 y W _ _ ?_
  rw[← hay]
  refine⟨(Z8 ..).trans h.defers,(Xv ..).trans h.size,hfr _,h.below.trans (hB.mono hBW),hex.below undef _ _ h.ext hB,fun x hx hl=>?_,fun c hc hl=>?_,holdk _ hB ho4,hord hsti,hordo ho4,fun c hc d hd' hcd hl1 hl2=>?_⟩
  ·rw[hL,if_neg (hx0 x hx)]at hl
   rw[hvo _ x hx (hx0 x hx)]
   exact(hfirm x hx).below _ _ _ (h.val x hx hl) hB
  ·by_cases hcb:c=b
   ·subst hcb
    refine⟨_,hnew,h.below.size,?_⟩
    have hst:listed.getD c.st false=false:=by
     cases hh:listed.getD c.st false
     ·rfl
     ·have:=(h.ord c hc hh).1
      rw[hbi,hnf]at this;cases this
    rw[hL,if_neg hbst,hst]
    refine⟨Cells.new _ _ _ rfl,fun _ i k m e=>?_⟩
    rw[Xs]at e
    exact hbz i k m e
   ·rw[hL,if_neg (hne c hc hcb).1]at hl
    exact hboxk _ hB c hc (hne c hc hcb).1 (hne c hc hcb).2 hl
  ·by_cases hcb:c=b
   ·subst hcb
    by_cases hdb:d=c
    ·subst hdb;exact absurd rfl hcd
    ·rw[hL,if_neg (hne d hd' hdb).1]at hl2
     rw[hnew]
     exact fun e=>hold d hd' hdb hl2 e.symm
   ·rw[hL,if_neg (hne c hc hcb).1]at hl1
    by_cases hdb:d=b
    ·subst hdb
     rw[hnew]
     exact hold c hc hcb hl1
    ·rw[hL,if_neg (hne d hd' hdb).1]at hl2
     rw[hbo _ c hc (hne c hc hcb).1,hbo _ d hd' (hne d hd' hdb).1]
     exact h.apart c hc d hd' hcd hl1 hl2
 ·have hla:=Zw hbd hd
  have hls:=Zw hbs' hd
  obtain⟨g,g1,g2,g3⟩:=h.box b hb hla
  rw[hbi,hnf]at g3
  simp only[Bool.false_eq_true,if_false]at g3
  have g1':=g1
  rw[hy]at g1'
  rw[hay]
  refine(hb3 y W g h.below hV g1' g2 g3.cells _ _ (fun W' hC hOn=>?_)).out
  rw[← hay]
  have hput:∀ v t,(a'.put o.dst v).tmps.getD t undef=a'.tmps.getD t undef:=fun v t=>by rw[hdn];rfl
  refine⟨(Z8 ..).trans h.defers,(Xv ..).trans h.size,hfr _,hOn.below h.below (Nat.le_trans hBw g2),hex.only undef _ _ _ h.ext hOn (g3.no trivial),fun x hx hl=>?_,fun c hc hl=>?_,fun c hc=>?_,fun c hc hl=>?_,hordo ho4,fun c hc d hd' hcd hl1 hl2=>?_⟩
  ·rw[hL,if_neg (hx0 x hx)]at hl
   rw[hput]
   exact(hfirm x hx).only _ _ _ _ (h.val x hx hl) hOn (g3.no trivial)
  ·rw[hL,if_neg (hbu c hc).1]at hl
   by_cases hcb:c=b
   ·subst hcb
    refine⟨g,(hput ..).trans g1,g2,?_⟩
    rw[hL,if_pos hbi,if_pos rfl,hput,hy]
    exact hC
   ·have hcst:c.st≠i:=fun e=>hcb ((hbu c hc).2.1 e)
    obtain⟨g',k1,k2,k3⟩:=h.box c hc hl
    refine⟨g',(hput ..).trans k1,k2,?_⟩
    have hne:g'≠g:=fun e=>by
     by_cases hat:c.at'=b.at'
     ·exact hcb ((hbu c hc).2.2 hat)
     ·refine h.apart c hc b hb hat hl hla ?_
      rw[k1,g1,e]
    rw[hL,if_neg hcst,hput]
    split at k3
    ·rename_i hh;rw[if_pos hh];exact k3.only hOn hne
    ·rename_i hh;rw[if_neg hh];exact k3.only hOn hne
  ·rw[hL,if_neg (ho4 c hc),hput]
   have:=h.old c hc
   have hne:c.g≠g:=by have:=olt c hc;omega
   split at this
   ·rename_i hh;rw[if_pos hh];exact this.only hOn hne
   ·rename_i hh;rw[if_neg hh];exact this.only hOn hne
  ·by_cases hci:c.st=i
   ·have:=(hbu c hc).2.1 hci
    subst this
    rw[hL,hL]
    constructor <;> split
    ·rfl
    ·exact hla
    ·rfl
    ·exact hls
   ·rw[hL,if_neg hci]at hl
    have:=h.ord c hc hl
    rw[hL,hL]
    constructor <;> split
    ·rfl
    ·exact this.1
    ·rfl
    ·exact this.2
  ·rw[hL,if_neg (hbu c hc).1]at hl1
   rw[hL,if_neg (hbu d hd').1]at hl2
   rw[hput,hput]
   exact h.apart c hc d hd' hcd hl1 hl2
 ·have hz:=h.old c0 hc0
  have hls:=Zw hcd hd
  rw[hci,hnf,if_neg (by simp)]at hz
  rw[hay]
  refine(hc3 y W h.below hV hz.cells (hz.no (hci ▸ hcz)) _ _ (fun W' hC hOn=>?_)).out
  rw[← hay]
  have hput:∀ v t,(a'.put o.dst v).tmps.getD t undef=a'.tmps.getD t undef:=fun v t=>by rw[hdn];rfl
  refine⟨(Z8 ..).trans h.defers,(Xv ..).trans h.size,hfr _,hOn.below h.below hcB,hex.only undef _ _ _ h.ext hOn (hz.no (hci ▸ hcz)),fun x hx hl=>?_,fun b hb hl=>?_,fun c hc=>?_,hord (fun b hb=>(hb0 b hb).2),fun c hc hl=>?_,fun b hb c hc hbc hl1 hl2=>?_⟩
  ·rw[hL,if_neg (hx0 x hx)]at hl
   rw[hput]
   exact(hfirm x hx).only _ _ _ _ (h.val x hx hl) hOn (hz.no (hci ▸ hcz))
  ·rw[hL,if_neg (hb0 b hb).1]at hl
   obtain⟨g,k1,k2,k3⟩:=h.box b hb hl
   refine⟨g,(hput ..).trans k1,k2,?_⟩
   have hne:g≠c0.g:=by have:=olt c0 hc0;omega
   rw[hL,if_neg (hb0 b hb).2,hput]
   split at k3
   ·rename_i hh;rw[if_pos hh];exact k3.only hOn hne
   ·rename_i hh;rw[if_neg hh];exact k3.only hOn hne
  ·by_cases hcc:c=c0
   ·subst hcc
    rw[hL,if_pos hci,if_pos rfl,hput,hy];exact hC
   ·rw[hL,if_neg (fun e=>hcc ((hcu c hc).1 e)),hput]
    have:=h.old c hc
    have hne:c.g≠c0.g:=fun e=>hcc ((hcu c hc).2 e)
    split at this
    ·rename_i hh;rw[if_pos hh];exact this.only hOn hne
    ·rename_i hh;rw[if_neg hh];exact this.only hOn hne
  ·by_cases hcc:c.st=i
   ·have:=(hcu c hc).1 hcc
    subst this
    rw[hL];split
    ·rfl
    ·exact hls
   ·rw[hL,if_neg hcc]at hl
    rw[hL];split
    ·rfl
    ·exact h.ordo c hc hl
  ·rw[hL,if_neg (hb0 b hb).1]at hl1
   rw[hL,if_neg (hb0 c hc).1]at hl2
   rw[hput,hput]
   exact h.apart b hb c hc hbc hl1 hl2
def Yb(ops:Array Oper)(n:Nat)(vs:List (Nat × Nat))(bs:List (Nat × Nat × Nat × Nat × Nat))(os:List (Nat × Nat × Nat)):Bool:=
 ((List.range ops.size).all fun i=>((ops[i]?).map fun o=>o.after.all fun e=>!Region.binds .any e || decide (e.on<i)).getD true) &&
 ((List.range ops.size).all fun i=>(List.range ops.size).all fun j=>i == j || (match YB ops i,YB ops j with | some d,some e=>d != e | _,_=>true)) &&
 (vs.all fun x=>YB ops x.1 == some x.2 && decide (x.2<n)) &&
 (bs.all fun b=>(YB ops b.1 == some b.2.1 && decide (b.2.1<n)) && decide (b.2.2.1<ops.size) && YB ops b.2.2.2.1 == some b.2.2.2.2) && decide (ops.size≤999) &&
 (os.all fun c=>!decide (c.1<ops.size) || YB ops c.2.1 == some c.2.2)
theorem Kz{id:Nat}(B:Nat)(pr:List Wd)(bxs:List BxS)(olds:List BxO)(ex:World→Prop)(ds:List Tmp)(hBw:B≤w.heap.size)(hds:ops.toList.filterMap (·.dst)=ds)(hm:P.follows .mixedOrders=true)
  (hB:Yb ops a.tmps.size (pr.map fun x=>(x.1,x.2.1)) (bxs.map fun b=>(b.at',b.slot,b.st,b.so,b.src)) (olds.map fun c=>(c.st,c.so,c.src))=true) (hfirm:∀ x∈pr,Firm x.2.2) (hex:Firm (fun _=>ex)) (h0:ex w)
  (hold:∀ c∈olds,Emp w c.g c.zero (c.st≠999))
  (hops:∀ (i:Nat) (o:Oper),ops[i]?=some o→FOk P a B w pr bxs olds ex ds i o)
  (hend : ∀ (y : Nat → Value) W, Below B w W → ex W → (∀ c ∈ olds, (c.st = 999 → Cells W c.g c.zero) ∧ (c.st < ops.size → FullO W c (y c.src))) → (∀ x ∈ pr, x.2.2 (y x.2.1) W) → (∀ b ∈ bxs, ∃ g, y b.slot = .pointer (some ⟨g, 0, none⟩) ∧ w.heap.size ≤ g ∧ Full W g (y b.src)) →
   (∀ b∈bxs,∀ c∈bxs,b.at'≠c.at'→y b.slot≠y c.slot)→Q .normal (fr a ds y) W) :
  (Code.region id ops true).wp P Q a w:=by
 unfold Yb at hB
 simp only[Bool.and_eq_true]at hB
 obtain⟨⟨⟨⟨⟨h1,h2⟩,h3⟩,h4⟩,h5⟩,h6⟩:=hB
 have h999:ops.size≤999:=by simpa using h5
 clear h5
 have dag:∀ (i:Nat) (o:Oper),ops[i]?=some o→∀ e∈o.after,Region.binds .any e=true→e.on<i:=by
  intro i o ho e he hb
  have hi:=(Array.getElem?_eq_some_iff.1 ho).1
  have:=List.all_eq_true.1 h1 i (List.mem_range.2 hi)
  rw[ho]at this
  simp only[Option.map_some,Option.getD_some,Array.all_eq_true']at this
  have:=this e he
  rw[hb]at this
  simpa using this
 have nodup:∀ (i j:Nat) (o o':Oper) (t:Tmp),ops[i]?=some o→ops[j]?=some o'→o.dst=some t→o'.dst=some t→i=j:=by
  intro i j o o' t ho ho' hd hd'
  have hi:=(Array.getElem?_eq_some_iff.1 ho).1
  have hj:=(Array.getElem?_eq_some_iff.1 ho').1
  have:=List.all_eq_true.1 (List.all_eq_true.1 h2 i (List.mem_range.2 hi)) j (List.mem_range.2 hj)
  simp only[YB,ho,ho',Option.bind_some,hd,hd']at this
  simpa using this
 have vok:∀ x∈pr,(ops[x.1]?).bind (·.dst)=some x.2.1∧x.2.1<a.tmps.size:=by
  intro x hx
  have:=List.all_eq_true.1 h3 _ (List.mem_map_of_mem hx)
  simp only[Bool.and_eq_true,beq_iff_eq,decide_eq_true_eq]at this
  exact this
 have bok:∀ b∈bxs,(((ops[b.at']?).bind (·.dst)=some b.slot∧b.slot<a.tmps.size)∧(ops[b.so]?).bind (·.dst)=some b.src)∧b.st<ops.size:=by
  intro b hb
  have:=List.all_eq_true.1 h4 _ (List.mem_map_of_mem hb)
  simp only[Bool.and_eq_true,beq_iff_eq,decide_eq_true_eq]at this
  exact⟨⟨this.1.1,this.2⟩,this.1.2⟩
 have ook:∀ c∈olds,c.st<ops.size→(ops[c.so]?).bind (·.dst)=some c.src:=by
  intro c hc hlt
  have:=List.all_eq_true.1 h6 _ (List.mem_map_of_mem hc)
  simp only[Bool.or_eq_true,Bool.not_eq_true',decide_eq_false_iff_not,beq_iff_eq]at this
  rcases this with g | g
  ·exact absurd hlt g
  ·exact g
 have hrep:∀ j,(Array.replicate ops.size false).getD j false=false:=fun j=>by simp[Array.getD]
 refine wp_region_any hm (Ux (fun listed a' W=>listed.size=ops.size∧FJ ops a B w pr bxs olds ex listed a' W) dag (fun listed a' W i o hJ hs ho hn hd=>wpOp_mono (fun a'' W'' hh=>⟨by simpa using hs,hh⟩) (hJ.2.step hs ho hn hd nodup hfirm hex vok (fun b hb=>(bok b hb).1) hBw (fun c hc=>(hold c hc).cells.1) ook h999 hds (hops i o ho))) (fun listed a' W hJ' hl=>?_) _ _ _ _ (by simp) (by simp) ⟨by simp,?_⟩)
 ·obtain⟨hsz,hJ⟩:=hJ'
  have hlt:∀ (i t:Nat),(ops[i]?).bind (·.dst)=some t→i<ops.size:=by
   intro i t h
   apply bCo
   intro hn
   rw[Array.getElem?_eq_none (by omega)]at h
   cases h
  have hv:=fun x hx=>hJ.val x hx (hl _ (hlt _ _ (vok x hx).1))
  have hbx:=fun b hb=>hJ.box b hb (hl _ (hlt _ _ (bok b hb).1.1.1))
  have e:=hJ.lit
  rw[hds]at e
  rw[e]
  refine hend _ W hJ.below hJ.ext (fun c hc=>⟨fun h9=>?_,fun h9=>?_⟩) hv (fun b hb=>?_) (fun b hb c hc hbc=>hJ.apart b hb c hc hbc (hl _ (hlt _ _ (bok b hb).1.1.1)) (hl _ (hlt _ _ (bok c hc).1.1.1)))
  ·have:=hJ.old c hc
   by_cases hh:listed.getD c.st false=true
   ·exfalso
    rw[h9,show listed.getD 999 false=false from by simp[Array.getD,show ¬ 999<listed.size by omega]]at hh
    cases hh
   ·rw[if_neg hh]at this;exact this.cells
  ·have:=hJ.old c hc
   rw[hl _ h9,if_pos rfl]at this;exact this
  ·have:=hbx b hb
   rw[hl _ (bok b hb).2]at this
   exact this
 ·refine⟨rfl,rfl,fun _ _=>rfl,⟨rfl,rfl,rfl,nlr _,fun _ _=>rfl⟩,hex.below undef _ _ h0 ⟨rfl,rfl,rfl,nlr _,fun _ _=>rfl⟩,fun x hx hl=>?_,fun b hb hl=>?_,fun c hc=>?_,fun b hb hl=>?_,fun c hc hl=>?_,fun b hb c hc _ hl=>?_⟩
  ·rw[hrep]at hl;cases hl
  ·rw[hrep]at hl;cases hl
  ·rw[hrep,if_neg (by simp)];exact(hold c hc).keep ⟨rfl,rfl,rfl,Nat.le_refl _,fun _ _=>rfl⟩
  ·rw[hrep]at hl;cases hl
  ·rw[hrep]at hl;cases hl
  ·rw[hrep]at hl;cases hl
end
theorem Yi{pr:List Wd}{i d:Nat}{p:Value→World→Prop}{v:Value}{W:World}(h:pr.filter (fun x=>x.1 == i)=[(i,d,p)])(hv:p v W):∀ x∈pr,x.1=i→x.2.2 v W:=by
 intro x hx he
 have:x∈pr.filter (fun x=>x.1 == i):=List.mem_filter.2 ⟨hx,by simp[he]⟩
 rw[h,List.mem_singleton]at this
 rw[this];exact hv
theorem XP{pr:List Wd}{i:Nat}(h:pr.map (fun x=>x.1 == i)=pr.map (fun _=>false)):∀ x∈pr,x.1≠i:=by
 intro x hx he
 have:∀ l:List Wd,l.map (fun x=>x.1 == i)=l.map (fun _=>false)→∀ x∈l,(x.1 == i)=false:=by
  intro l
  induction l with
  | nil=>intro _ x hx;cases hx
  | cons a l ih =>
   intro h x hx
   simp only[List.map_cons,List.cons.injEq]at h
   rcases List.mem_cons.1 hx with rfl | hx
   ·exact h.1
   ·exact ih h.2 x hx
 have:=this pr h x hx
 simp[he]at this
theorem Z2{pr:List Wd}{j t:Nat}{p:Value→World→Prop}(h:pr.find? (fun x=>x.1 == j)=some (j,t,p)):(j,t,p)∈pr:=List.mem_of_find?_eq_some h
def Firms:List Wd→Prop
 | []=>True
 | x::l=>Firm x.2.2∧Firms l
theorem Firms.all:∀ {l:List Wd},Firms l→∀ x∈l,Firm x.2.2
 | _::_,⟨h1,h2⟩,x,hx=>by
  rcases List.mem_cons.1 hx with rfl | hx
  ·exact h1
  ·exact Firms.all h2 x hx
def VC(e:Value):Value→World→Prop:=fun v _=>v=e
def Zb(p:Value→World→Prop)(w:World)(e:Ending)(w':World):Prop:=∃ v,e=.returned v∧p v w'∧Below w.heap.size w w'
theorem Firm.vc(e:Value):Firm (VC e):=⟨fun _ _ _ h _=>h,fun _ _ _ _ h _ _=>h⟩
end Go.Proofs.YthkklilhjnpedaaGreatDoor
