/- Slices of elements of whatever kind: a word about them; lists of a call's own. -/
import Derived.Test.YthkklilhjnpedaaGreatDoorUUnits0
set_option maxHeartbeats 16000000
set_option maxRecDepth 8000
namespace Go.Proofs.YthkklilhjnpedaaGreatDoor
open Go.RowKit FF
structure Alt(row:Option Nat)(W W':World):Prop where
 size:W.heap.size≤W'.heap.size
 block:∀ b,b<W.heap.size→some b≠row→W'.heap[b]?=W.heap[b]?
theorem Alt.below{W W':World}(h:Below W.heap.size W W'):Alt none W W':=⟨h.size,fun b hb _=>h.block b hb⟩
theorem Alt.only{g:Nat}{W W':World}(h:Only g W W'):Alt (some g) W W':=⟨by rw[h.size];exact nlr _,fun b _ hn=>h.block b (fun e=>hn (by rw[e]))⟩
theorem Alt.grown{row:Option Nat}{W W':World}(h:W.grownBy W' row):Alt row W W':=⟨h.size,h.block⟩
theorem Alt.cell{row:Option Nat}{W W':World}(h:Alt row W W'){b i:Nat}(hb:b<W.heap.size)(hn:some b≠row):W'.cell? ⟨b,i,none⟩=W.cell? ⟨b,i,none⟩:=by
 simp only[World.cell?,h.block b hb hn]
def Clean(Bad:Value→Prop)(W:World)(g:Nat):Prop:=∀ i u,W.cell? ⟨g,i,none⟩=some u→¬ Bad u
theorem Clean.alt{Bad:Value→Prop}{W W':World}{g:Nat}{row:Option Nat}(h:Clean Bad W g)(ha:Alt row W W')(hg:g<W.heap.size)(hn:some g≠row):Clean Bad W' g:=fun i u e=>h i u (by rw[← ha.cell hg hn];exact e)
theorem Clean.keep{Bad:Value→Prop}{W W':World}{g:Nat}(h:Clean Bad W g)(hb:Below W.heap.size W W')(hg:g<W.heap.size):Clean Bad W' g:=h.alt (.below hb) hg (fun e=>by cases e)
theorem Clean.set{Bad:Value→Prop}{W:World}{g:Nat}(h:Clean Bad W g)(j:Nat){u:Value}(hu:¬ Bad u):Clean Bad (W.setCell ⟨g,j,none⟩ u) g:=by
 intro i x e
 by_cases hij:i=j
 ·subst hij
  cases hc:W.cell? ⟨g,i,none⟩ with
  | some v =>
   rw[World.cell?_setCell_same' _ _ _ (by rw[hc];rfl)]at e
   injection e with e
   exact e ▸ hu
  | none =>
   simp only[World.cell?,World.setCell,Array.getElem?_modify]at e hc
   cases hg:W.heap[g]? with
   | none=>simp[hg]at e
   | some o =>
    rw[hg]at hc
    cases o with
    | cells c T fz=>simp[hg]at e hc;rw[Array.getElem?_setIfInBounds]at e;simp at e;omega
    | _=>simp[hg]at e
 ·refine h i x ?_
  rw[← e]
  simp[go_sem]
theorem Clean.setCells{Bad:Value→Prop}{g:Nat}:∀ (vs:List Value) (o:Nat) (W:World),Clean Bad W g→(∀ u∈vs,¬ Bad u)→Clean Bad (W.setCells g o vs) g
 | [],_,_,h,_=>h
 | v::r,o,_,h,hv=>Clean.setCells r (o+1) _ (h.set o (hv v lm0)) (fun u hu=>hv u (List.mem_cons_of_mem _ hu))
theorem Clean.cells{Bad:Value→Prop}{W:World}{g:Nat}{cur:Array Value}{T:TypeId}(hg:W.heap[g]?=some (.cells cur T (0,0)))(h:∀ u∈cur.toList,¬ Bad u):Clean Bad W g:=fun i u e=>by
 simp only[World.cell?,hg]at e
 rw[if_neg (by simp)]at e
 exact h _ (by rw[Array.mem_toList_iff];exact Array.mem_of_getElem? e)
theorem Clean.row{Bad:Value→Prop}{W:World}{g:Nat}{cur:Array Value}{T:TypeId}(hg:W.heap[g]?=some (.cells cur T (0,0)))(h:Clean Bad W g):∀ u∈cur.toList,¬ Bad u:=fun u hu=>by
 obtain⟨i,hi⟩:=List.mem_iff_getElem?.1 hu
 refine h i u ?_
 simp only[World.cell?,hg]
 rw[if_neg (by simp),← hi,Array.getElem?_toList]
structure El(α:Type) where
 T:TypeId
 n:Nat
 bytes:Nat
 z:Value
 E:α→List Value→World→Prop
 Bad:Value→Prop
 pos:0<n
 small:bytes≤1000
 zn:z.cells.size=n
 zg:∀ u∈z.cells.toList,¬ Bad u
 len:∀ {x cs W},E x cs W→cs.length=n
 one:∀ {x cs W},E x cs W→∀ u∈cs,u.oneCell'=true∧¬ Bad u
 alt:∀ {x cs W W' row},E x cs W→Alt row W W'→(∀ g,row=some g→Clean Bad W g)→E x cs W'
theorem El.keep{α:Type}(e:El α){x:α}{cs:List Value}{W W':World}(h:e.E x cs W)(hb:Below W.heap.size W W'):e.E x cs W':=e.alt h (.below hb) (fun g hg=>by cases hg)
def Sl{α:Type}(e:El α)(l:List α):Value→World→Prop:=fun v W=>∃ A c,v=.slice A l.length c∧l.length≤c∧c≤maxLen ∧
 (0<l.length→∃ b o,A=some ⟨b,o,none⟩∧b<W.heap.size∧∀ (i:Nat) z,l[i]?=some z→∃ cs,e.E z cs W∧∀ d u,cs[d]?=some u→W.cell? ⟨b,o+i*e.n+d,none⟩=some u)
section
variable {α:Type}{e:El α}{w W W':World}{v:Value}{l:List α}{rs:List (α × List Value)}
theorem Sl.keep(h:Sl e l v W)(hb:Below W.heap.size W W'):Sl e l v W':=by
 obtain⟨A,c,e0,h1,h2,h3⟩:=h
 refine⟨A,c,e0,h1,h2,fun h0=>?_⟩
 obtain⟨b,o,e1,hlt,hc⟩:=h3 h0
 refine⟨b,o,e1,nLl hlt hb.size,fun i z hz=>?_⟩
 obtain⟨cs,h4,h5⟩:=hc i z hz
 exact⟨cs,e.keep h4 hb,fun d u hd=>(hb.cell (p:=⟨b,_,none⟩) hlt).trans (h5 d u hd)⟩
theorem Sl.len(h:Sl e l v W):∃ A c,v=.slice A l.length c∧l.length≤c∧c≤maxLen:=by
 obtain⟨A,c,e,h1,h2,-⟩:=h
 exact⟨A,c,e,h1,h2⟩
theorem Sl.at{A:Option Addr}{n c:Nat}(h:Sl e l (.slice A n c) W){i:Nat}{z:α}(hi:l[i]?=some z) :
  ∃ b o cs,A=some ⟨b,o,none⟩∧b<W.heap.size∧e.E z cs W∧∀ d u,cs[d]?=some u→W.cell? ⟨b,o+i*e.n+d,none⟩=some u:=by
 obtain⟨A0,c0,e1,h1,h2,h3⟩:=h
 have hl:i<l.length:=(List.getElem?_eq_some_iff.1 hi).1
 obtain⟨b,o,e2,hlt,hc⟩:=h3 (by omega)
 obtain⟨cs,h4,h5⟩:=hc i z hi
 injection e1 with e3 e4 e5
 exact⟨b,o,cs,e3.trans e2,hlt,h4,h5⟩
theorem Sl.alt{row:Option Nat}{Bad:Value→Prop}(h:Sl e l v W)(ha:Alt row W W')(hc:∀ g,row=some g→Clean Bad W g)
  (hb:∀ x cs W,e.E x cs W→∃ u r,cs=u::r∧Bad u) (hB:∀ u,e.Bad u→Bad u):Sl e l v W':=by
 obtain⟨A,c,e0,h1,h2,h3⟩:=h
 refine⟨A,c,e0,h1,h2,fun h0=>?_⟩
 obtain⟨b,o,e1,hlt,hcl⟩:=h3 h0
 have hne:some b≠row:=fun er=>by
  obtain⟨cs,k1,k2⟩:=hcl 0 l[0] (gEe h0)
  obtain⟨u,r,rfl,hu⟩:=hb _ _ _ k1
  exact hc b er.symm _ u (k2 0 u rfl) hu
 refine⟨b,o,e1,nLl hlt ha.size,fun i z hz=>?_⟩
 obtain⟨cs,h4,h5⟩:=hcl i z hz
 exact⟨cs,e.alt h4 ha (fun g hg i u hu hb'=>hc g hg i u hu (hB u hb')),fun d u hd=>(ha.cell hlt hne).trans (h5 d u hd)⟩
def Zk(rs:List (α × List Value)):List Value:=rs.flatMap (·.2)
theorem ZN{n:Nat}:∀ {rs:List (α × List Value)},(∀ x∈rs,x.2.length=n)→(Zk rs).length=rs.length*n
 | [],_=>by simp[Zk]
 | x::rs,h=>by
  have ih:=ZN (rs:=rs) fun y hy=>h y (List.mem_cons_of_mem _ hy)
  have hx:=h x lm0
  unfold Zk at ih ⊢
  rw[List.flatMap_cons,List.length_append,ih,hx,List.length_cons,Nat.succ_mul];omega
theorem YS{n:Nat}:∀ {rs:List (α × List Value)} {i d:Nat} {x:α × List Value},(∀ x∈rs,x.2.length=n)→rs[i]?=some x→d<n→(Zk rs)[i*n+d]?=x.2[d]?
 | [],_,_,_,_,h,_=>by simp at h
 | y::rs,0,d,x,hl,h,hd=>by
  have e:y=x:=by simpa using h
  have:=hl y lm0
  unfold Zk
  rw[List.flatMap_cons,Nat.zero_mul,Nat.zero_add,List.getElem?_append_left (by omega),e]
 | y::rs,i+1,d,x,hl,h,hd=>by
  have:=hl y lm0
  have ih:=YS (rs:=rs) (i:=i) (x:=x) (fun y hy=>hl y (List.mem_cons_of_mem _ hy)) (by simpa using h) hd
  unfold Zk at ih ⊢
  rw[List.flatMap_cons,List.getElem?_append_right (by rw[this,Nat.succ_mul];omega)]
  rw[this,show(i+1)*n+d-n=i*n+d by rw[Nat.succ_mul];omega]
  exact ih
def UJ(xs:List Value):Nat→List Value→List Value
 | _,[]=>xs
 | k,u::r=>UJ (xs.set k u) (k+1) r
theorem Zc7(ys:List Value):∀ (cs:List Value) (xs:List Value) (k:Nat),UJ (ys++xs) (ys.length+k) cs=ys++UJ xs k cs
 | [],_,_=>rfl
 | u::r,xs,k=>by
  rw[UJ,UJ,List.set_append_right _ _ (by omega),Nat.add_sub_cancel_left,Nat.add_assoc]
  exact Zc7 ys r _ _
theorem Zb4:∀ (cs old xs ps:List Value),old.length=cs.length→UJ (ps++old++xs) ps.length cs=ps++cs++xs
 | [],old,xs,ps,h=>by
  have:old=[]:=List.eq_nil_of_length_eq_zero h
  subst this;rfl
 | u::r,o::old,xs,ps,h=>by
  have h':old.length=r.length:=by simpa using h
  have ih:=Zb4 r old xs (ps++[u]) h'
  rw[UJ]
  have e:(ps++(o::old)++xs).set ps.length u=ps++[u]++old++xs:=by
   rw[List.append_assoc,List.set_append_right _ _ (nlr _),Nat.sub_self]
   simp
  rw[e]
  simpa using ih
 | u::r,[],_,_,h=>by simp at h
theorem Zb5{n:Nat}:∀ {rs:List (α × List Value)} {i:Nat} {y:α × List Value},(∀ x∈rs,x.2.length=n)→y.2.length=n→i<rs.length→Zk (rs.set i y)=UJ (Zk rs) (i*n) y.2
 | [],_,_,_,_,h=>by simp at h
 | x::rs,0,y,hl,hy,_=>by
  have hx:=hl x lm0
  have:=Zb4 y.2 x.2 (rs.flatMap (·.2)) [] (by omega)
  simp only[Zk,List.set_cons_zero,List.flatMap_cons,Nat.zero_mul]
  simpa using this.symm
 | x::rs,i+1,y,hl,hy,hi=>by
  have hx:=hl x lm0
  have ih:=Zb5 (rs:=rs) (i:=i) (y:=y) (fun y hy=>hl y (List.mem_cons_of_mem _ hy)) hy (by simpa using hi)
  have h2:=Zc7 x.2 y.2 (rs.flatMap (·.2)) (i*n)
  simp only[Zk]at ih
  simp only[Zk,List.set_cons_succ,List.flatMap_cons]
  rw[ih,← h2,hx,Nat.succ_mul,Nat.add_comm]
def Own(e:El α)(w:World)(v:Value)(rs:List (α × List Value))(W:World):Prop:=
 W.ownsRow w.heap.size e.T e.n v rs.length (Zk rs)∧Below w.heap.size w W∧(∀ x∈rs,e.E x.1 x.2 W)∧∀ g,v.ownBlock=some g→Clean e.Bad W g
theorem Own.below(h:Own e w v rs W):Below w.heap.size w W:=h.2.1
theorem Own.lens(h:Own e w v rs W):∀ x∈rs,x.2.length=e.n:=fun x hx=>e.len (h.2.2.1 x hx)
theorem Own.start(e:El α)(h:Below w.heap.size w W):Own e w (.slice none 0 0) [] W:=⟨⟨by simp[Zk],.inl ⟨rfl,rfl⟩⟩,h,(fun x hx=>by cases hx),(fun g hg=>by cases hg)⟩
theorem Own.keep(h:Own e w v rs W)(hb:Below W.heap.size W W'):Own e w v rs W':=by
 refine⟨⟨h.1.1,?_⟩,h.2.1.trans (hb.mono h.2.1.size),fun x hx=>e.keep (h.2.2.1 x hx) hb,fun g hg=>(h.2.2.2 g hg).keep hb (h.1.lt g hg).2⟩
 rcases h.1.2 with h0 | ⟨g,cap,cur,h1,h2,h3,h4⟩
 ·exact .inl h0
 ·refine .inr ⟨g,cap,cur,h1,h2,?_,h4⟩
  rw[hb.block g (Array.getElem?_eq_some_iff.1 h3).1];exact h3
theorem Keeps.ownE(e:El α)(w:World)(rs:List (α × List Value)):Keeps (fun v W=>Own e w v rs W):=fun _ _ _ h hb=>h.keep hb
theorem Own.row_ge(h:Own e w v rs W):∀ k,v.ownBlock=some k→w.heap.size≤k:=fun k hk=>(h.1.lt k hk).1
theorem Own.sl(h:Own e w v rs W):Sl e (rs.map (·.1)) v W:=by
 rcases h.1.2 with⟨rfl,hn⟩ | ⟨g,cap,cur,rfl,hb,hg,hnc,hcm,hcs,ht⟩
 ·have:rs=[]:=List.eq_nil_of_length_eq_zero hn
  subst this
  exact⟨none,0,rfl,Nat.le_refl _,by simp[maxLen],fun h0=>absurd h0 (by simp)⟩
 ·refine⟨some ⟨g,0,none⟩,cap,by rw[List.length_map],by rwa [List.length_map],hcm,fun h0=>⟨g,0,rfl,(Array.getElem?_eq_some_iff.1 hg).1,fun i z hz=>?_⟩⟩
  rw[List.getElem?_map]at hz
  cases hx:rs[i]? with
  | none=>rw[hx]at hz;cases hz
  | some x =>
   rw[hx]at hz
   have hz':x.1=z:=by simpa using hz
   have hi:i<rs.length:=(List.getElem?_eq_some_iff.1 hx).1
   refine⟨x.2,hz' ▸ h.2.2.1 x (mGe hx),fun d u hd=>?_⟩
   have hdn:d<e.n:=by
    have:=(List.getElem?_eq_some_iff.1 hd).1
    rw[h.lens x (mGe hx)]at this;exact this
   have hlt:i*e.n+d<(Zk rs).length:=by
    rw[ZN h.lens]
    have:=Nat.mul_le_mul_right e.n (show i+1≤rs.length from hi)
    rw[Nat.succ_mul]at this;omega
   have:=h.1.cellAt (i*e.n+d) (by rw[ZN h.lens]at hlt;exact hlt)
   rw[Nat.zero_add,this,YS h.lens hx hdn,hd]
theorem Own.form(h:Own e w v rs W)(h0:0<rs.length):∃ g cap,v=.slice (some ⟨g,0,none⟩) rs.length cap∧rs.length≤cap∧cap≤maxLen∧w.heap.size≤g∧g<W.heap.size:=by
 rcases h.1.2 with⟨-,hn⟩ | ⟨g,cap,cur,rfl,hb,hg,hnc,hcm,-⟩
 ·omega
 ·exact⟨g,cap,rfl,hnc,hcm,hb,(Array.getElem?_eq_some_iff.1 hg).1⟩
theorem Own.len(h:Own e w v rs W):∃ A c,v=.slice A rs.length c∧rs.length≤c∧c≤maxLen:=by
 obtain⟨A,c,h1,h2,h3⟩:=h.sl.len
 rw[List.length_map]at h1 h2
 exact⟨A,c,h1,h2,h3⟩
theorem Own.cell{g cap n:Nat}(h:Own e w (.slice (some ⟨g,0,none⟩) n cap) rs W){i:Nat}{x:α × List Value}(hx:rs[i]?=some x) :
  (∀ d u,x.2[d]?=some u→W.cell? ⟨g,i*e.n+d,none⟩=some u)∧e.E x.1 x.2 W:=by
 have hi:i<rs.length:=(List.getElem?_eq_some_iff.1 hx).1
 refine⟨fun d u hd=>?_,h.2.2.1 x (mGe hx)⟩
 have hdn:d<e.n:=by
  have:=(List.getElem?_eq_some_iff.1 hd).1
  rw[h.lens x (mGe hx)]at this;exact this
 have hlt:i*e.n+d<rs.length*e.n:=by
  have:=Nat.mul_le_mul_right e.n (show i+1≤rs.length from hi)
  rw[Nat.succ_mul]at this;omega
 have hn:n=rs.length:=by
  rcases h.1.2 with⟨h',-⟩ | ⟨g',cap',cur,h',-⟩
  ·cases h'
  ·injection h'
 subst hn
 rw[h.1.cellAt (i*e.n+d) hlt,YS h.lens hx hdn,hd]
theorem Own.fz{g cap n:Nat}(h:Own e w (.slice (some ⟨g,0,none⟩) n cap) rs W)(i:Nat):W.frozen? ⟨g,i,none⟩=false:=by
 rcases h.1.2 with⟨h',-⟩ | ⟨g',cap',cur,h',hb,hg,-⟩
 ·cases h'
 ·injection h' with h1
  injection h1 with h1
  injection h1 with h1
  subst h1
  simp[World.frozen?,hg]
theorem UY{g cap n:Nat}{T:TypeId}{k B:Nat}:∀ (cs:List Value) (W:World) (xs:List Value) (o:Nat),W.ownsRow B T k (.slice (some ⟨g,0,none⟩) n cap) n xs→(W.setCells g o cs).ownsRow B T k (.slice (some ⟨g,0,none⟩) n cap) n (UJ xs o cs)
 | [],_,_,_,h=>h
 | u::r,_,_,o,h=>UY r _ _ (o+1) (h.stored o u).1
theorem Zai(g:Nat):∀ (vs:List Value) (o:Nat) (W:World),Only g W (W.setCells g o vs)
 | [],_,_=>⟨rfl,rfl,rfl,rfl,fun _ _=>rfl⟩
 | v::r,o,W=>by
  rw[World.setCells]
  exact(Only.setCell W g o v).trans (Zai g r (o+1) _)
theorem Own.set{g cap n:Nat}(h:Own e w (.slice (some ⟨g,0,none⟩) n cap) rs W){i:Nat}(hi:i<rs.length){y:α}{cs:List Value}(hy:e.E y cs W) :
  Own e w (.slice (some ⟨g,0,none⟩) n cap) (rs.set i (y,cs)) (W.setCells g (i*e.n) cs):=by
 have ho:=Zai g cs (i*e.n) W
 have hge:w.heap.size≤g:=h.row_ge g rfl
 have hcl:Clean e.Bad W g:=h.2.2.2 g rfl
 have hn:n=rs.length:=by
  rcases h.1.2 with⟨h',-⟩ | ⟨g',cap',cur,h',-⟩
  ·cases h'
  ·injection h'
 have keep:∀ x cs',e.E x cs' W→e.E x cs' (W.setCells g (i*e.n) cs):=fun x cs' hx=>e.alt hx (.only ho) (fun g' hg'=>by injection hg' with hg';exact hg' ▸ hcl)
 refine⟨?_,ho.below h.2.1 hge,fun x hx=>?_,fun g' hg'=>?_⟩
 ·rw[List.length_set,Zb5 h.lens (e.len hy) hi]
  subst hn
  exact UY cs W _ _ h.1
 ·rcases List.mem_or_eq_of_mem_set hx with h1 | h1
  ·exact keep _ _ (h.2.2.1 x h1)
  ·rw[h1];exact keep _ _ hy
 ·have:g'=g:=by simp[Value.ownBlock]at hg';exact hg'.symm
  subst this
  exact hcl.setCells cs _ _ (fun u hu=>(e.one hy u hu).2)
theorem Xy{P:Program}(t ty:TypeId)(i:TypeInfo)(ht:P.underlying t=some (.slice e.T))(hi:P.info? e.T=some i)(hz:i.zero=some e.z)
  (hsize:i.size=e.n) (hby:i.bytes=e.bytes) (h:Own e w v rs W) {y:α} {cs:List Value} (hy:e.E y cs W) (a:Addr) (c:Nat) (h0:∀ d u,cs[d]?=some u→W.cell? (a.add d)=some u) (hl:rs.length≤1000000) :
  ∃ v' W',(Builtin.append_ #[t,t] ty #[v,.slice (some a) 1 c]).run P W=.ok v' W'∧Own e w v' (rs++[(y,cs)]) W'∧W.grownBy W' v.ownBlock:=by
 have hone:∀ u∈cs,u.oneCell'=true:=fun u hu=>(e.one hy u hu).1
 have hnn:∀ u∈cs,¬ e.Bad u:=fun u hu=>(e.one hy u hu).2
 have hcl:=e.len hy
 have hzc:∀ q,∀ u∈(Builtin.zeroCells e.z.cells q).toList,¬ e.Bad u:=by
  intro q u hu
  rw[Array.mem_toList_iff]at hu
  obtain⟨j,hj,he⟩:=Array.mem_iff_getElem.1 hu
  have hjm:j % e.z.cells.size<e.z.cells.size:=Nat.mod_lt _ (by rw[e.zn];exact e.pos)
  refine e.zg u ?_
  rw[← he,Array.mem_toList_iff]
  simp only[Builtin.zeroCells]
  have:e.z.cells.getD (j % e.z.cells.size) undef=e.z.cells[j % e.z.cells.size]:=by simp[Array.getD,hjm]
  first
  | exact this ▸ Array.getElem_mem hjm
  | (simp[hjm])
 have hb3:(rs.length+1)*e.bytes≤1000001*1000:=Nat.mul_le_mul (by omega) e.small
 obtain⟨v',W',hr,k1,k2,-⟩:=run_append_own (P:=P) W w.heap.size t ty e.T i _ e.n e.bytes ht hi hz hsize hby e.zn e.pos v rs.length _ h.1 a 1 c cs (by rw[hcl,Nat.one_mul]) h0 hone (by unfold maxLen;omega) (by omega) h.2.1.size
 have hk:∀ x cs',e.E x cs' W→e.E x cs' W':=fun x cs' hx=>e.alt hx (.grown k2) h.2.2.2
 refine⟨v',W',hr,⟨?_,Below.grown h.2.1 k2 h.2.1.size h.row_ge,fun x hx=>?_,fun g hg=>?_⟩,k2⟩
 ·have e2:Zk (rs++[(y,cs)])=Zk rs++cs:=by simp[Zk]
  rw[List.length_append,e2];exact k1
 ·rcases List.mem_append.1 hx with hx | hx
  ·exact hk _ _ (h.2.2.1 x hx)
  ·rw[List.mem_singleton.1 hx];exact hk _ _ hy
 ·have hxs:=ZN h.lens
  rcases h.1.2 with⟨rfl,hn⟩ | ⟨g',cap,cur,rfl,hbg,hg',hnc,hcm,hcs,htake⟩
  ·have hr2:=run_append_nil (P:=P) W t ty e.T i _ ht hi hz a 1 c cs (by rw[hsize,hcl,Nat.one_mul]) h0 (by decide) (by decide) (by rw[hby];have:=e.small;omega)
   rw[hr]at hr2
   injection hr2 with e1 e2
   subst e1 e2
   cases hg
   refine Clean.cells (heap_alloc_new W.drew _) fun u hu=>?_
   rw[Array.toList_append]at hu
   rcases List.mem_append.1 hu with h1 | h1
   ·exact hnn u h1
   ·exact hzc _ u h1
  ·by_cases hroom:rs.length+1≤cap
   ·have hr2:=run_append_room (P:=P) W t ty e.T i ht hi g' rs.length cap cur hg' a 1 c cs (by rw[hsize,hcl,Nat.one_mul]) h0 hone hroom (by
     rw[hsize,hcs,hcl]
     have:=Nat.mul_le_mul_right e.n hroom
     rw[Nat.succ_mul]at this;omega)
    rw[hr]at hr2
    injection hr2 with e1 e2
    subst e1 e2
    cases hg
    have hold:=Clean.row hg' (h.2.2.2 g' rfl)
    refine Clean.cells (setRow_heap W g' cur _ e.T _ hg') fun u hu=>?_
    rcases List.mem_append.1 hu with h1 | h1
    ·rcases List.mem_append.1 h1 with h2 | h2
     ·exact hold u (List.mem_of_mem_take h2)
     ·exact hnn u h2
    ·exact hold u (List.mem_of_mem_drop h1)
   ·have holds:∀ j u,(Zk rs)[j]?=some u→W.cell? ((⟨g',0,none⟩:Addr).add j)=some u:=h.1.cells (g:=g') rfl
    have hr2:=run_append_grow (P:=P) W t ty e.T i _ ht hi hz ⟨g',0,none⟩ rs.length cap (Zk rs) (by rw[hsize];exact hxs) holds a 1 c cs (by rw[hsize,hcl,Nat.one_mul]) h0 (by omega) (by omega) (growslice_fits (by omega) (by rw[hby];omega))
    rw[hr]at hr2
    injection hr2 with e1 e2
    subst e1 e2
    cases hg
    refine Clean.cells (heap_alloc_new W.drew _) fun u hu=>?_
    rw[Array.toList_append,Array.toList_append]at hu
    rcases List.mem_append.1 hu with h1 | h1
    ·rcases List.mem_append.1 h1 with h2 | h2
     ·obtain⟨x,hx,hux⟩:=List.mem_flatMap.1 (show u∈rs.flatMap (·.2) from h2)
      exact(e.one (h.2.2.1 x hx) u hux).2
     ·exact hnn u h2
    ·exact hzc _ u h1
theorem ZB{P:Program}{ops:Array Oper}{rest:List Oper}{o:Oper}{a:Act}{Q:Exit→Act→World→Prop}(hgd:o.guard=none)(s x:Operand)(t:TypeId)
  (ho:o.op=.call { callee:=.builtin .append,args:=#[s,x],argTypes:=#[t,t] }) (i:TypeInfo)
  (ht:P.underlying t=some (.slice e.T)) (hi:P.info? e.T=some i) (hz:i.zero=some e.z) (hsize:i.size=e.n) (hby:i.bytes=e.bytes)
  (h:Own e w v rs W) {y:α} {cs:List Value} (hy:e.E y cs W) (ad:Addr) (c:Nat) (hs:a.eval s=v) (hx:a.eval x=.slice (some ad) 1 c)
  (h0:∀ d u,cs[d]?=some u→W.cell? (ad.add d)=some u) (hl:rs.length≤1000000)
  (K:∀ v' W',Own e w v' (rs++[(y,cs)]) W'→wpList P ops Q rest (a.put o.dst v') W'):wpList P ops Q (o::rest) a W:=by
 refine wpList_plain hgd fun _ hK=>?_
 obtain⟨v',W',hr,k1,-⟩:=Xy (P:=P) t o.type i ht hi hz hsize hby h hy ad c h0 hl
 unfold Oper.wp execOp
 simp only[ho,resolve,invoke,builtin,Sem.run_bind,Sem.run_pure,Result.andThen_ok,List.map_toArray,List.map_cons,List.map_nil,hs,hx,hr]
 exact hK _ _ (K v' W' k1)
def OwnV(e:El α)(w:World)(l:List α):Value→World→Prop:=fun v W=>∃ rs,Own e w v rs W∧rs.map (·.1)=l
theorem OwnV.sl{l:List α}(h:OwnV e w l v W):Sl e l v W:=by
 obtain⟨rs,h1,rfl⟩:=h
 exact h1.sl
end
def eInt:El Int where
 T:=57
 n:=2
 bytes:=32
 z:=.agg #[.bool false,.slice none 0 0]
 E:=fun x cs W=>∃ u v,cs=[u,v]∧IC W u v x
 Bad:=fun u=>∃ k n,u=.int k n
 pos:=by decide
 small:=by decide
 zn:=rfl
 zg:=by
  intro u hu
  simp only[Value.cells]at hu
  rintro⟨k,n,rfl⟩
  simp at hu
 len:=by rintro x cs W ⟨u,v,rfl,-⟩;rfl
 one:=by
  rintro x cs W ⟨u,v,rfl,A,c,rfl,rfl,-⟩ y hy
  rcases List.mem_cons.1 hy with rfl | hy
  ·exact⟨rfl,fun ⟨k,n,e⟩=>by cases e⟩
  ·rcases List.mem_cons.1 hy with rfl | hy
   ·exact⟨rfl,fun ⟨k,n,e⟩=>by cases e⟩
   ·cases hy
 alt:=by
  rintro x cs W W' row ⟨u,v,rfl,A,c,rfl,rfl,xs,k1,k2,k3⟩ ha hn
  refine⟨_,_,rfl,A,c,rfl,rfl,xs,k1,fun hp=>?_,k3⟩
  obtain⟨b,o,e,hb,hc⟩:=k2 hp
  refine⟨b,o,e,nLl hb ha.size,fun i hi=>?_⟩
  rw[← hc i hi]
  refine ha.cell hb (fun er=>?_)
  exact hn b er.symm _ _ (hc 0 hp) ⟨_,_,rfl⟩
theorem eInt_bad(x:Int)(cs:List Value)(W:World)(h:eInt.E x cs W):∃ u r,cs=u::r∧¬ ∃ A n c,u=.slice A n c:=by
 obtain⟨u,v,rfl,A,c,rfl,rfl,-⟩:=h
 exact⟨_,_,rfl,fun ⟨A,n,c,e⟩=>by cases e⟩
theorem VP.sl{l:List Int}{v:Value}{W:World}(h:VP l v W):Sl eInt l v W:=by
 obtain⟨A,c,e,h1,h2,h3⟩:=h
 refine⟨A,c,e,h1,h2,fun h0=>?_⟩
 obtain⟨b,o,e,hlt,hc⟩:=h3 h0
 refine⟨b,o,e,hlt,fun i z hz=>?_⟩
 obtain⟨x,y,h4,h5,h6⟩:=hc i z hz
 refine⟨[x,y],⟨x,y,rfl,h6⟩,fun d u hd=>?_⟩
 rcases d with _ | _ | d
 ·injection hd with hd;subst hd;exact h4
 ·injection hd with hd;subst hd;exact h5
 ·simp at hd
theorem Sl.vp{l:List Int}{v:Value}{W:World}(h:Sl eInt l v W):VP l v W:=by
 obtain⟨A,c,e,h1,h2,h3⟩:=h
 refine⟨A,c,e,h1,h2,fun h0=>?_⟩
 obtain⟨b,o,e,hlt,hc⟩:=h3 h0
 refine⟨b,o,e,hlt,fun i z hz=>?_⟩
 obtain⟨cs,⟨x,y,rfl,h6⟩,h5⟩:=hc i z hz
 exact⟨x,y,h5 0 x rfl,h5 1 y rfl,h6⟩
theorem Zfo(rs:List IRef):Zk (rs.map fun x=>(x.1,ZH x))=rs.flatMap ZH:=by
 simp[Zk,List.flatMap_map]
theorem OwnN.own{w W:World}{v:Value}{rs:List IRef}(h:OwnN w v rs W):Own eInt w v (rs.map fun x=>(x.1,ZH x)) W:=by
 refine⟨?_,h.1.2.1,fun x hx=>?_,fun g hg i u hu=>?_⟩
 ·rw[Zfo,List.length_map];exact h.1.1
 ·obtain⟨y,hy,rfl⟩:=List.mem_map.1 hx
  exact⟨_,_,rfl,(h.1.2.2 y hy).ic⟩
 ·rintro⟨k,n,rfl⟩
  exact h.2 g hg i k n hu
theorem OwnN.ownV{w W:World}{v:Value}{rs:List IRef}{l:List Int}(h:OwnN w v rs W)(hl:rs.map (fun x=>x.1)=l):OwnV eInt w l v W:=⟨_,h.own,by rw[List.map_map];exact hl⟩
end Go.Proofs.YthkklilhjnpedaaGreatDoor
