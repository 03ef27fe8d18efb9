/- Slices of integers of several words: a word about them; lists of a call's own. -/
import Derived.Test.YthkklilhjnpedaaGreatDoorURpg
import Derived.Test.YthkklilhjnpedaaGreatDoorUStp
set_option maxHeartbeats 16000000
set_option maxRecDepth 8000
namespace Go.Proofs.YthkklilhjnpedaaGreatDoor
open Go.RowKit FF
abbrev IRef:Type:=Int × Option Addr × Nat
def ZH(x:IRef):List Value:=[.bool (sgB x.1),.slice x.2.1 (lnW x.1) x.2.2]
def IR(W:World)(x:IRef):Prop:=AI W (decide (x.1<0)) x.2.1 (wl x.1.natAbs) x.2.2 x.1
theorem IR.ic{W:World}{x:IRef}(h:IR W x):IC W (.bool (sgB x.1)) (.slice x.2.1 (lnW x.1) x.2.2) x.1:=⟨_,_,rfl,rfl,h⟩
theorem IC.ref{W:World}{u v:Value}{z:Int}(h:IC W u v z):∃ x:IRef,x.1=z∧u=.bool (sgB x.1)∧v=.slice x.2.1 (lnW x.1) x.2.2∧IR W x:=by
 obtain⟨A,c,rfl,rfl,g⟩:=h
 exact⟨(z,A,c),rfl,rfl,rfl,g⟩
theorem IR.keep{W W':World}{x:IRef}(h:IR W x)(hb:Below W.heap.size W W'):IR W' x:=AI.keep h hb
theorem IR.grown{W W':World}{x:IRef}{row:Option Nat}(h:IR W x)(hg:W.grownBy W' row)(hn:∀ g,row=some g→NoIntAt W g):IR W' x:=by
 obtain⟨xs,k1,k2,k3⟩:=h
 refine⟨xs,k1,fun hp=>?_,k3⟩
 obtain⟨b,o,e,hb,hc⟩:=k2 hp
 refine⟨b,o,e,nLl hb hg.size,fun i hi=>?_⟩
 rw[← hc i hi]
 simp only[World.cell?,hg.block b hb (fun e=>by
  have:=hc 0 hp
  exact hn b e.symm _ _ _ this)]
def VP(l:List Int):Value→World→Prop:=fun v W=>∃ A c,v=.slice A l.length c∧l.length≤c∧c≤maxLen ∧
 (0<l.length→∃ b o,A=some ⟨b,o,none⟩∧b<W.heap.size∧∀ (i:Nat) z,l[i]?=some z→∃ x y,W.cell? ⟨b,o+i*2,none⟩=some x∧W.cell? ⟨b,o+i*2+1,none⟩=some y∧IC W x y z)
theorem VP.keep{l:List Int}{v:Value}{W W':World}(h:VP l v W)(hb:Below W.heap.size W W'):VP l v W':=by
 obtain⟨A,c,e,h1,h2,h3⟩:=h
 refine⟨A,c,e,h1,h2,fun h0=>?_⟩
 obtain⟨b,o,e,hlt,hc⟩:=h3 h0
 refine⟨b,o,e,nLl hlt hb.size,fun i z hz=>?_⟩
 obtain⟨x,y,h4,h5,h6⟩:=hc i z hz
 exact⟨x,y,(hb.cell (p:=⟨b,_,none⟩) hlt).trans h4,(hb.cell (p:=⟨b,_,none⟩) hlt).trans h5,h6.keep hb⟩
theorem Keeps.vp(l:List Int):Keeps (VP l):=fun _ _ _ h hb=>h.keep hb
theorem YE(rs:List IRef):(rs.flatMap ZH).length=rs.length*2:=by
 induction rs with
 | nil=>rfl
 | cons x rs ih=>rw[List.flatMap_cons,List.length_append,ih];simp[ZH];omega
theorem KX:∀ (rs:List IRef) (i d:Nat) (x:IRef),rs[i]?=some x→d<2→(rs.flatMap ZH)[i*2+d]?=(ZH x)[d]?
 | [],_,_,_,h,_=>by simp at h
 | y::rs,0,d,x,h,hd=>by
  have e:y=x:=by simpa using h
  rw[List.flatMap_cons,Nat.zero_mul,Nat.zero_add,List.getElem?_append_left (by simpa[ZH] using hd),e]
 | y::rs,i+1,d,x,h,hd=>by
  rw[List.flatMap_cons,List.getElem?_append_right (by simp[ZH];omega)]
  have:(i+1)*2+d-(ZH y).length=i*2+d:=by simp[ZH];omega
  rw[this]
  exact KX rs i d x (by simpa using h) hd
theorem NoIntAt.set{W:World}{g:Nat}(h:NoIntAt W g)(j:Nat){u:Value}(hu:∀ k n,u≠.int k n):NoIntAt (W.setCell ⟨g,j,none⟩ u) g:=by
 intro i k n e
 by_cases hij:i=j
 ·subst hij
  cases hc:W.cell? ⟨g,i,none⟩ with
  | some v =>
   rw[World.cell?_setCell_same' _ _ _ (by rw[hc];rfl)]at e
   injection e with e
   exact hu k n e
  | none =>
   simp only[World.cell?,World.setCell,Array.getElem?_modify]at e hc
   cases hg:W.heap[g]? with
   | none=>simp[hg]at e
   | some o =>
    rw[hg]at hc
    cases o with
    | cells c T fz=>simp[hg]at e hc;rw[Array.getElem?_setIfInBounds]at e;simp at e;omega
    | _=>simp[hg]at e
 ·refine h i k n ?_
  rw[← e]
  simp[go_sem]
def OwnP(w:World)(v:Value)(rs:List IRef)(W:World):Prop:=
 W.ownsRow w.heap.size 57 2 v rs.length (rs.flatMap ZH)∧Below w.heap.size w W∧∀ x∈rs,IR W x
section
variable {w W W':World}{v:Value}{rs:List IRef}
theorem OwnP.start(h:Below w.heap.size w W):OwnP w (.slice none 0 0) [] W:=⟨⟨by simp,.inl ⟨rfl,rfl⟩⟩,h,fun x hx=>by cases hx⟩
theorem OwnP.keep(h:OwnP w v rs W)(hb:Below W.heap.size W W'):OwnP w v rs W':=by
 refine⟨⟨h.1.1,?_⟩,h.2.1.trans (hb.mono h.2.1.size),fun x hx=>(h.2.2 x hx).keep hb⟩
 rcases h.1.2 with h0 | ⟨g,cap,cur,h1,h2,h3,h4⟩
 ·exact .inl h0
 ·refine .inr ⟨g,cap,cur,h1,h2,?_,h4⟩
  rw[hb.block g (Array.getElem?_eq_some_iff.1 h3).1];exact h3
theorem OwnP.row_ge(h:OwnP w v rs W):∀ k,v.ownBlock=some k→w.heap.size≤k:=by
 intro k hk
 rcases h.1.2 with⟨rfl,_⟩ | ⟨g,cap,cur,rfl,hb,_⟩
 ·cases hk
 ·simp[Value.ownBlock]at hk;omega
theorem OwnP.vp(h:OwnP w v rs W):VP (rs.map fun x=>x.1) v W:=by
 rcases h.1.2 with⟨rfl,hn⟩ | ⟨g,cap,cur,rfl,hb,hg,hnc,hcm,hcs,ht⟩
 ·have:rs=[]:=List.eq_nil_of_length_eq_zero hn
  subst this
  exact⟨none,0,rfl,Nat.le_refl _,by simp[maxLen],fun h0=>absurd h0 (by simp)⟩
 ·refine⟨some ⟨g,0,none⟩,cap,by rw[List.length_map],by rwa [List.length_map],hcm,fun h0=>⟨g,0,rfl,(Array.getElem?_eq_some_iff.1 hg).1,fun i z hz=>?_⟩⟩
  rw[List.getElem?_map]at hz
  cases hx:rs[i]? with
  | none=>rw[hx]at hz;cases hz
  | some x =>
   rw[hx]at hz
   have hz':x.1=z:=by simpa using hz
   have hi:i<rs.length:=(List.getElem?_eq_some_iff.1 hx).1
   have hcell:∀ d,d<2→W.cell? ⟨g,0+i*2+d,none⟩=(ZH x)[d]?:=fun d hd=>by
    have:=h.1.cellAt (i*2+d) (by omega)
    rw[KX rs i d x hx hd]at this
    rw[Nat.zero_add,this]
   refine⟨_,_,hcell 0 (by omega),hcell 1 (by omega),?_⟩
   rw[← hz']
   exact(h.2.2 x (mGe hx)).ic
theorem NoIntAt.cells{g:Nat}{cur:Array Value}{T:TypeId}(hg:W.heap[g]?=some (.cells cur T (0,0)))(h:∀ u∈cur.toList,∀ k n,u≠.int k n):NoIntAt W g:=fun i k n e=>by
 simp only[World.cell?,hg]at e
 rw[if_neg (by simp)]at e
 exact h _ (by rw[Array.mem_toList_iff];exact Array.mem_of_getElem? e) k n rfl
theorem NoIntAt.row{g:Nat}{cur:Array Value}{T:TypeId}(hg:W.heap[g]?=some (.cells cur T (0,0)))(h:NoIntAt W g):∀ u∈cur.toList,∀ k n,u≠.int k n:=fun u hu k n e=>by
 obtain⟨i,hi⟩:=List.mem_iff_getElem?.1 hu
 refine h i k n ?_
 simp only[World.cell?,hg]
 rw[if_neg (by simp),← e,← hi,Array.getElem?_toList]
def OwnN(w:World)(v:Value)(rs:List IRef)(W:World):Prop:=OwnP w v rs W∧∀ g,v.ownBlock=some g→NoIntAt W g
theorem OwnN.start(h:Below w.heap.size w W):OwnN w (.slice none 0 0) [] W:=⟨OwnP.start h,fun g hg=>by cases hg⟩
theorem OwnN.keep(h:OwnN w v rs W)(hb:Below W.heap.size W W'):OwnN w v rs W':=⟨h.1.keep hb,fun g hg=>(h.2 g hg).keep (h.1.1.lt g hg).2 hb⟩
theorem ZaO(rs:List IRef):∀ u∈rs.flatMap ZH,∀ k n,u≠.int k n:=fun u hu k n e=>by
 obtain⟨x,-,hx⟩:=List.mem_flatMap.1 hu
 simp only[ZH,List.mem_cons,List.not_mem_nil,or_false]at hx
 rcases hx with rfl | rfl <;> cases e
theorem ZcQ{P:Program}(t ty:TypeId)(i:TypeInfo)(ht:P.underlying t=some (.slice 57))(hi:P.info? 57=some i)(hz:i.zero=some (.agg #[.bool false,.slice none 0 0]))
  (hsize:i.size=2) (hby:i.bytes=32) (h:OwnN w v rs W) (y:IRef) (hy:IR W y) (a:Addr) (c:Nat) (h0:W.cell? (a.add 0)=some (.bool (sgB y.1))) (h1:W.cell? (a.add 1)=some (.slice y.2.1 (lnW y.1) y.2.2)) (hl:rs.length≤1000000) :
  ∃ v' W',(Builtin.append_ #[t,t] ty #[v,.slice (some a) 1 c]).run P W=.ok v' W'∧OwnN w v' (rs++[y]) W'∧W.grownBy W' v.ownBlock:=by
 have hnews:∀ j u,(ZH y)[j]?=some u→W.cell? (a.add j)=some u:=fun j u hj=>by
  rcases j with _ | _ | j
  ·rw[h0];exact hj
  ·rw[h1];exact hj
  ·simp[ZH]at hj
 have hone:∀ u∈ZH y,u.oneCell'=true:=fun u hu=>by
  simp only[ZH,List.mem_cons,List.not_mem_nil,or_false]at hu
  rcases hu with rfl | rfl <;> rfl
 have hnn:∀ u∈ZH y,∀ k n,u≠.int k n:=fun u hu=>ZaO [y] u (by simpa using hu)
 have hzc:∀ q,∀ u∈(Builtin.zeroCells (Value.agg #[.bool false,.slice none 0 0]).cells q).toList,∀ k n,u≠.int k n:=by
  intro q u hu k n e
  rw[Array.mem_toList_iff]at hu
  obtain⟨j,hj,he⟩:=Array.mem_iff_getElem.1 hu
  simp only[Builtin.zeroCells]at he
  rw[e]at he
  have h2:j % 2=0∨j % 2=1:=by omega
  rcases h2 with h2 | h2 <;> simp[Value.cells,h2]at he
 obtain⟨v',W',hr,k1,k2,-⟩:=run_append_own (P:=P) W w.heap.size t ty 57 i _ 2 32 ht hi hz hsize hby rfl (by decide) v rs.length _ h.1.1 a 1 c (ZH y) rfl hnews hone (by unfold maxLen;omega) (by omega) h.1.2.1.size
 refine⟨v',W',hr,⟨⟨?_,Below.grown h.1.2.1 k2 h.1.2.1.size h.1.row_ge,fun x hx=>?_⟩,fun g hg=>?_⟩,k2⟩
 ·rw[List.length_append,List.flatMap_append];simpa using k1
 ·have hk:∀ x,IR W x→IR W' x:=fun x hx=>hx.grown k2 h.2
  rcases List.mem_append.1 hx with hx | hx
  ·exact hk x (h.1.2.2 x hx)
  ·rw[List.mem_singleton.1 hx];exact hk y hy
 ·have hxs:=YE rs
  rcases h.1.1.2 with⟨rfl,hn⟩ | ⟨g',cap,cur,rfl,hbg,hg',hnc,hcm,hcs,htake⟩
  ·have:rs=[]:=List.eq_nil_of_length_eq_zero hn
   subst this
   have hr2:=run_append_nil (P:=P) W t ty 57 i _ ht hi hz a 1 c (ZH y) (by rw[hsize];rfl) hnews (by decide) (by decide) (by rw[hby];decide)
   rw[hr]at hr2
   injection hr2 with e1 e2
   subst e1 e2
   cases hg
   refine NoIntAt.cells (heap_alloc_new W.drew _) fun u hu=>?_
   rw[Array.toList_append]at hu
   rcases List.mem_append.1 hu with h1 | h1
   ·exact hnn u h1
   ·exact hzc _ u h1
  ·by_cases hroom:rs.length+1≤cap
   ·have hr2:=run_append_room (P:=P) W t ty 57 i ht hi g' rs.length cap cur hg' a 1 c (ZH y) (by rw[hsize];rfl) hnews hone hroom (by rw[hsize,hcs];simp[ZH];omega)
    rw[hr]at hr2
    injection hr2 with e1 e2
    subst e1 e2
    cases hg
    have hold:=NoIntAt.row hg' (h.2 g' rfl)
    refine NoIntAt.cells (setRow_heap W g' cur _ 57 _ hg') fun u hu=>?_
    rcases List.mem_append.1 hu with h1 | h1
    ·rcases List.mem_append.1 h1 with h2 | h2
     ·exact hold u (List.mem_of_mem_take h2)
     ·exact hnn u h2
    ·exact hold u (List.mem_of_mem_drop h1)
   ·have holds:∀ j u,(rs.flatMap ZH)[j]?=some u→W.cell? ((⟨g',0,none⟩:Addr).add j)=some u:=h.1.1.cells (g:=g') rfl
    have hr2:=run_append_grow (P:=P) W t ty 57 i _ ht hi hz ⟨g',0,none⟩ rs.length cap (rs.flatMap ZH) (by rw[hsize];exact hxs) holds a 1 c (ZH y) (by rw[hsize];rfl) hnews (by omega) (by omega) (growslice_fits (by omega) (by rw[hby];omega))
    rw[hr]at hr2
    injection hr2 with e1 e2
    subst e1 e2
    cases hg
    refine NoIntAt.cells (heap_alloc_new W.drew _) fun u hu=>?_
    rw[Array.toList_append,Array.toList_append]at hu
    rcases List.mem_append.1 hu with h1 | h1
    ·rcases List.mem_append.1 h1 with h2 | h2
     ·exact ZaO rs u h2
     ·exact hnn u h2
    ·exact hzc _ u h1
end
end Go.Proofs.YthkklilhjnpedaaGreatDoor
