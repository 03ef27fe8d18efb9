/- Digits as texts; a text's place among names. -/
import Derived.Test.YthkklilhjnpedaaGreatDoorUEci
import Derived.Test.YthkklilhjnpedaaGreatDoorUSym0
set_option maxHeartbeats 16000000
set_option maxRecDepth 8000
namespace Go.Proofs.YthkklilhjnpedaaGreatDoor
section
open Go.RowKit FF
attribute [local go_sem] Oper.semAt_some
theorem Zag{α:Type}{e:El α}{w W:World}{v:Value}{rs:List (α × List Value)}{P:Program}(t ty:TypeId)(i:TypeInfo)(ht:P.underlying t=some (.slice e.T))(hi:P.info? e.T=some i)(hz:i.zero=some e.z)
  (hsize:i.size=e.n) (hby:i.bytes=e.bytes) (h:Own e w v rs W) {y:α} {cs:List Value} (hy:e.E y cs W) (a:Addr) (c:Nat) (h0:∀ d u,cs[d]?=some u→W.cell? (a.add d)=some u) (hl:rs.length≤1000000) :
  ∃ v' W',(Builtin.append_ #[t,t] ty #[v,.slice (some a) 1 c]).run P W=.ok v' W'∧Own e w v' (rs++[(y,cs)]) W'∧W.grownBy W' v.ownBlock∧∀ g,v'.ownBlock=some g→v.ownBlock=some g∨W.heap.size≤g:=by
 obtain⟨v',W',hr,k1,k2⟩:=Xy (P:=P) t ty i ht hi hz hsize hby h hy a c h0 hl
 refine⟨v',W',hr,k1,k2,fun g hg=>?_⟩
 have hone:∀ u∈cs,u.oneCell'=true:=fun u hu=>(e.one hy u hu).1
 have hcl:=e.len hy
 have hb3:(rs.length+1)*e.bytes≤1000001*1000:=Nat.mul_le_mul (by omega) e.small
 have hxs:=ZN h.lens
 rcases h.1.2 with⟨rfl,hn⟩ | ⟨g',cap,cur,rfl,hbg,hg',hnc,hcm,hcs,htake⟩
 ·have hr2:=run_append_nil (P:=P) W t ty e.T i _ ht hi hz a 1 c cs (by rw[hsize,hcl,Nat.one_mul]) h0 (by decide) (by decide) (by rw[hby];have:=e.small;omega)
  rw[hr]at hr2
  injection hr2 with e1 e2
  subst e1
  simp only[Value.ownBlock,Option.some.injEq]at hg
  exact .inr (by omega)
 ·by_cases hroom:rs.length+1≤cap
  ·have hr2:=run_append_room (P:=P) W t ty e.T i ht hi g' rs.length cap cur hg' a 1 c cs (by rw[hsize,hcl,Nat.one_mul]) h0 hone hroom (by
    rw[hsize,hcs,hcl]
    have:=Nat.mul_le_mul_right e.n hroom
    rw[Nat.succ_mul]at this;omega)
   rw[hr]at hr2
   injection hr2 with e1 e2
   subst e1
   exact .inl hg
  ·have holds:∀ j u,(Zk rs)[j]?=some u→W.cell? ((⟨g',0,none⟩:Addr).add j)=some u:=h.1.cells (g:=g') rfl
   have hr2:=run_append_grow (P:=P) W t ty e.T i _ ht hi hz ⟨g',0,none⟩ rs.length cap (Zk rs) (by rw[hsize];exact hxs) holds a 1 c cs (by rw[hsize,hcl,Nat.one_mul]) h0 (by omega) (by omega) (growslice_fits (by omega) (by rw[hby];omega))
   rw[hr]at hr2
   injection hr2 with e1 e2
   subst e1
   simp only[Value.ownBlock,Option.some.injEq]at hg
   exact .inr (by omega)
structure BkS(w0:World)(gB n:Nat)(L:List (List Int))(vals:List Value)(W:World):Prop where
 heap:W.heap[gB]?=some (.cells vals.toArray 40 (0,0))
 ge:w0.heap.size≤gB
 lv:vals.length=n
 lL:L.length=n
 below:Below w0.heap.size w0 W
 row:∀ (i:Nat) (x:List Int) (v:Value),L[i]?=some x→vals[i]?=some v→∃ rs,Own eNum w0 v rs W∧rs.map (·.1)=x
 dis:∀ (i j:Nat) (v u:Value) (g:Nat),vals[i]?=some v→vals[j]?=some u→v.ownBlock=some g→u.ownBlock=some g→i=j
section
variable {w0 W W':World}{gB n:Nat}{L:List (List Int)}{vals:List Value}
theorem BkS.lt(h:BkS w0 gB n L vals W):gB<W.heap.size:=(Array.getElem?_eq_some_iff.1 h.heap).1
theorem BkS.keep(h:BkS w0 gB n L vals W)(hb:Below W.heap.size W W'):BkS w0 gB n L vals W':=
 ⟨(hb.block gB h.lt).trans h.heap,h.ge,h.lv,h.lL,h.below.trans (hb.mono h.below.size),fun i x v h1 h2=>by obtain⟨rs,k1,k2⟩:=h.row i x v h1 h2;exact⟨rs,k1.keep hb,k2⟩,h.dis⟩
theorem BkS.cell(h:BkS w0 gB n L vals W){i:Nat}{v:Value}(hv:vals[i]?=some v):W.cell? ⟨gB,i,none⟩=some v:=by
 simp only[World.cell?,h.heap]
 rw[if_neg (by simp),List.getElem?_toArray,hv]
theorem BkS.f(h:BkS w0 gB n L vals W)(i:Nat):W.frozen? ⟨gB,i,none⟩=false:=by simp[World.frozen?,h.heap]
theorem BkS.sl(h:BkS w0 gB n L vals W)(hn:n≤maxLen):Sl eRow L (.slice (some ⟨gB,0,none⟩) n n) W:=by
 refine⟨_,_,by rw[h.lL],by rw[h.lL];exact nlr _,hn,fun _=>⟨gB,0,rfl,h.lt,fun i z hz=>?_⟩⟩
 have hi:i<n:=by rw[← h.lL];exact(List.getElem?_eq_some_iff.1 hz).1
 obtain⟨v,hv⟩:∃ v,vals[i]?=some v:=⟨_,gEe (by rw[h.lv];exact hi)⟩
 obtain⟨rs,k1,k2⟩:=h.row i z v hz hv
 refine⟨[v],⟨v,rfl,by rw[← k2];exact k1.sl⟩,fun d u hd=>?_⟩
 have hd0:d=0:=by have:=(List.getElem?_eq_some_iff.1 hd).1;simpa using this
 subst hd0
 have hu:u=v:=by simpa using hd.symm
 rw[hu,show 0+i*eRow.n+0=i by show 0+i*1+0=i;omega]
 exact h.cell hv
theorem BkS.new(w:World)(n:Nat):BkS w w.heap.size n (List.replicate n []) (List.replicate n (.slice none 0 0)) (w.alloc (.cells (List.replicate n (Value.slice none 0 0)).toArray 40)):=by
 refine⟨heap_alloc_new w _,nlr _,List.length_replicate,List.length_replicate,(brf _ _).alloc (nlr _) _,fun i x v h1 h2=>?_,fun i j v u g h1 h2 h3=>?_⟩
 ·have e1:=List.eq_of_mem_replicate (mGe h1)
  have e2:=List.eq_of_mem_replicate (mGe h2)
  subst e1 e2
  exact⟨[],Own.start eNum ((brf _ _).alloc (nlr _) _),rfl⟩
 ·have e1:=List.eq_of_mem_replicate (mGe h1)
  subst e1
  cases h3
theorem BkS.step{k:Nat}{v v':Value}{l:List Int}{y:Int}{rs:List (Int × List Value)}(h:BkS w0 gB n L vals W)(hv:vals[k]?=some v)(hl:rs.map (·.1)=l)(ho:Own eNum w0 v' (rs++[(y,[.int .i64 y])]) W')(hg:W.grownBy W' v.ownBlock)(ho0:Own eNum w0 v rs W)
  (hat:∀ g,v'.ownBlock=some g→v.ownBlock=some g∨W.heap.size≤g) :
  W'.cell? ⟨gB,k,none⟩=some v∧W'.frozen? ⟨gB,k,none⟩=false∧BkS w0 gB n (L.set k (l++[y])) (vals.set k v') (W'.setCell ⟨gB,k,none⟩ v'):=by
 have hkn:k<vals.length:=(List.getElem?_eq_some_iff.1 hv).1
 have hgB:v.ownBlock≠some gB:=fun e=>by
  obtain⟨c,hc⟩:=ho0.tag e
  rw[h.heap]at hc
  injection hc with hc
  injection hc with _ hc
  exact absurd hc (by decide)
 have hB':W'.heap[gB]?=some (.cells vals.toArray 40 (0,0)):=(hg.block gB h.lt (fun e=>hgB e.symm)).trans h.heap
 have ha2:Alt (some gB) W' (W'.setCell ⟨gB,k,none⟩ v'):=.only (Only.setCell W' gB k v')
 have hgB':v'.ownBlock≠some gB:=fun e=>by
  rcases hat gB e with h1 | h1
  ·exact hgB h1
  ·have:=h.lt;omega
 have cl:∀ {X:World} {g:Nat},Clean eNum.Bad X g:=fun i u _ hh=>hh
 have fin:∀ {x:Value} {r:List (Int × List Value)},Own eNum w0 x r W'→x.ownBlock≠some gB→Own eNum w0 x r (W'.setCell ⟨gB,k,none⟩ v'):=fun hx hn =>
  hx.aside ha2 (hx.below.setCell h.ge _) (fun g e1 e2=>hn (e1.trans e2.symm)) (fun g _=>cl)
 refine⟨by simp only[World.cell?,hB'];rw[if_neg (by simp),List.getElem?_toArray,hv],by simp[World.frozen?,hB'],?_,h.ge,by rw[List.length_set,h.lv],by rw[List.length_set,h.lL],ho.below.setCell h.ge _,fun i x u h1 h2=>?_,fun i j x u g h1 h2 h3 h4=>?_⟩
 ·simp[World.setCell,Array.getElem?_modify,hB']
 ·by_cases hik:i=k
  ·subst hik
   rw[List.getElem?_set_self (by rw[h.lL,← h.lv];exact hkn)]at h1
   rw[List.getElem?_set_self hkn]at h2
   obtain rfl:l++[y]=x:=oSi h1
   obtain rfl:v'=u:=oSi h2
   exact⟨_,fin ho hgB',by rw[List.map_append,hl];rfl⟩
  ·rw[List.getElem?_set_ne (Ne.symm hik)]at h1 h2
   obtain⟨r2,k1,k2⟩:=h.row i x u h1 h2
   have hn1:∀ g,u.ownBlock=some g→v.ownBlock≠some g:=fun g e1 e2=>hik (h.dis i k u v g h2 hv e1 e2)
   have k3:Own eNum w0 u r2 W':=k1.aside (.grown hg) ho.below hn1 (fun g _=>cl)
   refine⟨r2,fin k3 (fun e=>?_),k2⟩
   obtain⟨c,hc⟩:=k1.tag e
   rw[h.heap]at hc
   injection hc with hc
   injection hc with _ hc
   exact absurd hc (by decide)
 ·have key:∀ {p q:Nat} {a b:Value},p≠k→vals[p]?=some a→a.ownBlock=some g→v'.ownBlock=some g→False:=fun {p _ a _} hp ha e1 e2=>by
   rcases hat g e2 with h5 | h5
   ·exact hp (h.dis p k a v g ha hv e1 h5)
   ·obtain⟨x0,hx0⟩:∃ x0,L[p]?=some x0:=⟨_,gEe (by rw[h.lL,← h.lv];exact(List.getElem?_eq_some_iff.1 ha).1)⟩
    obtain⟨r2,k1,-⟩:=h.row p x0 a hx0 ha
    have:=k1.lt e1
    omega
  by_cases hik:i=k
  ·by_cases hjk:j=k
   ·rw[hik,hjk]
   ·subst hik
    rw[List.getElem?_set_self hkn]at h1
    rw[List.getElem?_set_ne (Ne.symm hjk)]at h2
    obtain rfl:v'=x:=oSi h1
    exact(key (q:=0) (b:=v) hjk h2 h4 h3).elim
  ·by_cases hjk:j=k
   ·subst hjk
    rw[List.getElem?_set_ne (Ne.symm hik)]at h1
    rw[List.getElem?_set_self hkn]at h2
    obtain rfl:v'=u:=oSi h2
    exact(key (q:=0) (b:=v) hik h1 h3 h4).elim
   ·rw[List.getElem?_set_ne (Ne.symm hik)]at h1
    rw[List.getElem?_set_ne (Ne.symm hjk)]at h2
    exact h.dis i j x u g h1 h2 h3 h4
theorem ZbE{ops:Array Oper}{rest:List Oper}{o:Oper}{a:Act}{Q:Exit→Act→World→Prop}(hgd:o.guard=none)(s x:Operand)(ho:o.op=.call { callee:=.builtin .append,args:=#[s,x],argTypes:=#[40,40] })
  (h:BkS w0 gB n L vals W) {k c:Nat} {v:Value} {l:List Int} {y:Int} (hv:vals[k]?=some v) (hL:L[k]?=some l) (hs:a.eval s=v) (hx:a.eval x=.slice (some ⟨W.heap.size,0,none⟩) 1 c) (hl:l.length≤1000000)
  (K:∀ A m c v' W',v'=.slice A m c→W'.cell? ⟨gB,k,none⟩=some v→W'.frozen? ⟨gB,k,none⟩=false→BkS w0 gB n (L.set k (l++[y])) (vals.set k v') (W'.setCell ⟨gB,k,none⟩ v')→wpList Tryz.prog ops Q rest (a.put o.dst v') W') :
  wpList Tryz.prog ops Q (o::rest) a (W.alloc (.cells #[.int .i64 y] 3)):=by
 have hA:=(brf W.heap.size W).alloc (nlr _) (.cells #[.int .i64 y] 3)
 have h':=h.keep hA
 obtain⟨rs,ho0,hm⟩:=h'.row k l v hL hv
 obtain⟨i0,hi,hz0,hz1,hz2⟩:=info_parts ZM
 refine wpList_plain hgd fun _ hK=>?_
 obtain⟨v',W',hrun,k1,k2,k3⟩:=Zag (P:=Tryz.prog) 40 o.type i0 Tryz.underlying40 hi hz0 hz1 hz2 ho0 (y:=y) (cs:=[.int .i64 y]) rfl ⟨W.heap.size,0,none⟩ c (Y6 (by simp[go_sem])) (by have:=congrArg List.length hm;rw[List.length_map]at this;omega)
 obtain⟨A,c',e1,-,-⟩:=k1.len
 obtain⟨q1,q2,q3⟩:=h'.step hv hm k1 k2 ho0 k3
 unfold Oper.wp execOp
 simp only[ho,resolve,invoke,builtin,Sem.run_bind,Sem.run_pure,Result.andThen_ok,List.map_toArray,List.map_cons,List.map_nil,hs,hx,hrun]
 exact hK _ _ (K A _ c' v' W' e1 q1 q2 q3)
end
end
end Go.Proofs.YthkklilhjnpedaaGreatDoor
section
namespace FF
def bkI(nx:List (List Nat))(n i:Nat)(l:List Nat):List (List Int):=(List.range n).map fun v=>(bkL nx v i++cntB l v i).map fun x:Nat=>(x:Int)
theorem Zba(nx:List (List Nat))(n i:Nat)(l:List Nat):(bkI nx n i l).length=n:=by simp[bkI]
theorem bkI_zero(nx:List (List Nat))(n:Nat):bkI nx n 0 []=List.replicate n []:=by
 apply List.ext_getElem?
 intro v
 unfold bkI
 rw[List.getElem?_map,List.getElem?_replicate]
 by_cases h:v<n
 ·rw[List.getElem?_range h,if_pos h];rfl
 ·rw[List.getElem?_eq_none (by simpa using h),if_neg h];rfl
theorem ZcA{nx:List (List Nat)}{n i v:Nat}{l:List Nat}(h:v<n):(bkI nx n i l)[v]?=some ((bkL nx v i++cntB l v i).map fun x:Nat=>(x:Int)):=by
 unfold bkI
 rw[List.getElem?_map,List.getElem?_range h];rfl
theorem ZhU(l:List Nat)(x v i:Nat):cntB (l++[x]) v i=if x=v then cntB l v i++[i] else cntB l v i:=by
 unfold cntB
 rw[List.filter_append]
 by_cases h:x=v
 ·subst h;simp
 ·rw[if_neg h]
  have:([x].filter (· == v))=[]:=by simp[h]
  rw[this,List.append_nil]
theorem bkI_step{nx:List (List Nat)}{n i x:Nat}{l:List Nat}(hx:x<n):(bkI nx n i l).set x ((bkL nx x i++cntB l x i).map (fun x:Nat=>(x:Int))++[(i:Int)])=bkI nx n i (l++[x]):=by
 apply List.ext_getElem?
 intro v
 by_cases hv:v<n
 ·rw[ZcA hv,ZhU]
  by_cases h:x=v
  ·subst h
   rw[List.getElem?_set_self (by rw[Zba];exact hx),if_pos rfl]
   simp
  ·rw[List.getElem?_set_ne h,if_neg h,ZcA hv]
 ·rw[List.getElem?_eq_none (by rw[List.length_set,Zba];omega),List.getElem?_eq_none (by rw[Zba];omega)]
theorem bkI_next(nx:List (List Nat))(n i:Nat):bkI nx n i (nx.getD i [])=bkI nx n (i+1) []:=by
 unfold bkI
 apply List.map_congr_left
 intro v _
 rw[bkL]
 simp[cntB]
theorem Zd4(l:List Nat)(v i:Nat):(cntB l v i).length≤l.length:=by
 unfold cntB
 rw[List.length_map]
 exact List.length_filter_le ..
theorem Zgb{nx:List (List Nat)}{M:Nat}(hM:∀ l∈nx,l.length≤M)(v:Nat):∀ k,(bkL nx v k).length≤k*M
 | 0=>by simp[bkL]
 | k+1=>by
  rw[bkL,List.length_append]
  have h1:=Zgb hM v k
  have h2:=Zd4 (nx.getD k []) v k
  have h3:(nx.getD k []).length≤M:=by
   rw[gDg]
   cases h:nx[k]? with
   | none=>simp
   | some l=>exact hM l (List.mem_of_getElem? h)
  rw[Nat.succ_mul];omega
theorem Zbp{nx:List (List Nat)}{M n i:Nat}(hM:∀ l∈nx,l.length≤M){l:List Nat}:∀ r∈bkI nx n i l,r.length≤i*M+l.length:=fun r hr=>by
 obtain⟨v,-,rfl⟩:=List.mem_map.1 hr
 rw[List.length_map,List.length_append]
 have h1:=Zgb hM v i
 have h2:=Zd4 l v i
 omega
theorem bkI_in{nx:List (List Nat)}{n:Nat}:∀ r∈bkI nx n n [],∀ x∈r,0≤x∧x<(n:Int):=fun r hr x hx=>by
 obtain⟨v,-,rfl⟩:=List.mem_map.1 hr
 obtain⟨y,hy,rfl⟩:=List.mem_map.1 hx
 rcases List.mem_append.1 hy with h | h
 ·have:=(ZcD.1 h).1;omega
 ·have:=(Zee.1 h).2;cases this
theorem bkI_nat(nx:List (List Nat)):(bkI nx nx.length nx.length []).map (fun l=>l.map Int.toNat)=Xn nx:=by
 unfold bkI Xn
 rw[List.map_map]
 apply List.map_congr_left
 intro v _
 simp[cntB,Function.comp_def]
theorem Zd5{next:List (List Nat)}{frm:Nat}:∀ (k:Nat) (s:List Bool) (q:List (Nat × Nat)) (out:List Int) (B:Int),-1≤B→(∀ x∈out,-1≤x∧x≤B)→∀ x∈bfsL next frm k s q out,-1≤x∧x≤B+k
 | 0,_,_,_,B,_,h=>fun x hx=>by have:=h x hx;omega
 | k+1,_,[],out,B,_,h=>fun x hx=>by have:=h x hx;omega
 | k+1,s,e::q,out,B,hB,h=>fun x hx=>by
  have:=Zd5 k _ _ (out.set e.2 (pend frm out e)) (B+1) (by omega) (fun y hy=>by
   rcases List.mem_or_eq_of_mem_set hy with h1 | h1
   ·have:=h y h1;omega
   ·rw[h1]
    unfold pend
    split
    ·omega
    ·rw[gDg]
     cases ho:out[e.1]? with
     | none=>simp;omega
     | some z=>have:=h z (List.mem_of_getElem? ho);simp;omega) x hx
  omega
theorem ZhV(next:List (List Nat))(frm:Nat):∀ x∈ZW next frm,-1≤x∧x≤(next.length:Int):=fun x hx=>by
 have:=Zd5 (next.length+1) _ _ _ (-1) (by omega) (fun y hy=>by rw[(List.mem_replicate.1 hy).2];omega) x hx
 omega
end FF
end
namespace Go.Proofs.YthkklilhjnpedaaGreatDoor
section
open Go.RowKit FF
attribute [local go_sem] Oper.semAt_some
theorem ZhW(N:Nat)(hN:N≤1000000)(W:World):(Instr.makeSlice 31 (.int .i64 (N:Int)) (.int .i64 (N:Int))).run Tryz.prog W =
  .ok (.slice (some ⟨W.heap.size,0,none⟩) N N) (W.alloc (.cells (madeCells #[.slice none 0 0] N) 40)):=
 run_make_row' (P:=Tryz.prog) 31 40 (.slice none 0 0) 24 Tryz.underlying31 Yc rfl .i64 .i64 N (by omega) (by omega) W
theorem ZgG(N:Nat):madeCells #[.slice none 0 0] N=(List.replicate N (Value.slice none 0 0)).toArray:=by
 have h:=UO (z:=#[.slice none 0 0]) (by decide) N (0:Nat)
 rw[show N*(#[Value.slice none 0 0]:Array Value).size=N from Nat.mul_one N]at h
 apply Array.ext'
 rw[h]
 have:∀ n,Zk (List.replicate n ((0:Nat),(#[Value.slice none 0 0]:Array Value).toList))=List.replicate n (.slice none 0 0):=by
  intro n
  induction n with
  | zero=>rfl
  | succ n ih=>rw[List.replicate_succ,List.replicate_succ,← ih];rfl
 rw[this]
theorem YF{α:Type}{e:El α}{w W:World}{v:Value}{rs:List (α × List Value)}{P:Program}{ops:Array Oper}{rest:List Oper}{o:Oper}{a:Act}{Q:Exit→Act→World→Prop}(hgd:o.guard=none)(s x:Operand)(t:TypeId)
  (ho:o.op=.call { callee:=.builtin .append,args:=#[s,x],argTypes:=#[t,t] }) (i:TypeInfo)
  (ht:P.underlying t=some (.slice e.T)) (hi:P.info? e.T=some i) (hz:i.zero=some e.z) (hsize:i.size=e.n) (hby:i.bytes=e.bytes)
  (h:Own e w v rs W) {y:α} {cs:List Value} (hy:e.E y cs W) (ad:Addr) (c:Nat) (hs:a.eval s=v) (hx:a.eval x=.slice (some ad) 1 c)
  (h0:∀ d u,cs[d]?=some u→W.cell? (ad.add d)=some u) (hl:rs.length≤1000000)
  (K:∀ v' W',Own e w v' (rs++[(y,cs)]) W'→W.grownBy W' v.ownBlock→(∀ g,v'.ownBlock=some g→v.ownBlock=some g∨W.heap.size≤g)→wpList P ops Q rest (a.put o.dst v') W'):wpList P ops Q (o::rest) a W:=by
 refine wpList_plain hgd fun _ hK=>?_
 obtain⟨v',W',hr,k1,k2,k3⟩:=Zag (P:=P) t o.type i ht hi hz hsize hby h hy ad c h0 hl
 unfold Oper.wp execOp
 simp only[ho,resolve,invoke,builtin,Sem.run_bind,Sem.run_pure,Result.andThen_ok,List.map_toArray,List.map_cons,List.map_nil,hs,hx,hr]
 exact hK _ _ (K v' W' k1 k2 k3)
def PatR(W6:World)(D:List Int)(n:Nat)(df:Int)(gk:Nat)(s15 s16:Value)(W:World):Prop:=
 ∃ (v:Nat) (rs:List (Int × List Value)) (R:Nat),s16=.pointer (some ⟨R,0,none⟩)∧v<n∧D.getD v (-1)=(gk:Int)∧(rs.length:Int)+gk=df+1∧Own eNum W6 s15 rs W∧RowN R [(v:Int)] W∧W6.heap.size≤R∧s15.ownBlock≠some R
theorem RowN.nbox{R:Nat}{v:Int}{W:World}(h:RowN R [v] W):NBox R v W:=⟨h.lt,h.cell rfl⟩
theorem near_at{edges:List (List Int)}{D:List Int}{v x:Nat}{er:List Int}(her:edges[v]?=some er)(hin:∀ y∈er,0≤y)(h:Zbc (natL edges) D v=some x) :
  ∃ j:Nat,er[j]?=some (x:Int)∧D.getD x (-1)=D.getD v (-1)-1∧∀ (i k:Nat),i<j→er[i]?=some (k:Int)→D.getD k (-1)≠D.getD v (-1)-1:=by
 unfold Zbc at h
 rw[ZbS her]at h
 obtain⟨hp,j,hj,hx,hmin⟩:=List.find?_eq_some_iff_getElem.1 h
 simp only[decide_eq_true_eq]at hp
 rw[List.length_map]at hj
 rw[List.getElem_map]at hx
 refine⟨j,?_,hp,fun i k hi hk he=>?_⟩
 ·rw[gEe hj,← hx]
  have:=hin er[j] (List.getElem_mem hj)
  congr 1;omega
 ·have h1:=hmin i hi
  rw[List.getElem_map]at h1
  rw[gEe (by omega)]at hk
  have h2:er[i].toNat=k:=by have:=oSi hk;omega
  rw[h2,he]at h1
  simp at h1
theorem path_any{a b:Value}{names:List (List UInt8)}{edges:List (List Int)}{n frm tgt:Nat}{w:World}(hg:GV names edges a b w)(hok:okG names edges=true)(hE:ZaU edges n)(hM:∀ l∈edges,l.length≤200)(hn:n≤400)(hf:frm<n)(ht:tgt<n)
  (hD:0≤(ZW (Xn (natL edges)) tgt).getD frm (-1)) :
  Calls Tryz.prog 13 #[.agg #[a,b],.int .i64 (frm:Int),.int .i64 (tgt:Int)] w (Zb (fun r _=>∃ A c,r=.tuple #[.slice A (((ZW (Xn (natL edges)) tgt).getD frm (-1)).toNat+1) c,.int .i64 0]) w):=by
 have hne:names.length=edges.length:=by
  unfold okG at hok
  simp only[Bool.and_eq_true,decide_eq_true_eq]at hok
  exact hok.1.1.1.1
 have HCk:=lhd (fun (W:World) (hb:Below w.heap.size w W)=>Uu (hg.keep hb) hok)
 obtain⟨A,ca,rfl,-,-⟩:=hg.1.len
 obtain⟨Ab,cN,rfl,-,-⟩:=hg.2.len
 obtain⟨bN,oN,uN,rfl,hbN,-,-⟩:=ZP hg.2 (gEe (by rw[hE.1];omega:0<edges.length))
 rw[hne,hE.1]at hg HCk ⊢
 have hdst:Dst (natL edges) tgt (ZW (Xn (natL edges)) tgt):=dst_of (by rw[XW,hE.1];exact ht) (fun v x hx=>by
  rw[gDg,natL,List.getElem?_map]at hx
  cases hv:edges[v]? with
  | none=>rw[hv]at hx;cases hx
  | some l =>
   rw[hv]at hx
   obtain⟨y,hy,rfl⟩:=List.mem_map.1 hx
   have:=(hE.2.2 l (mGe hv)).2 y hy
   rw[XW,hE.1];omega)
 have hbnd:=ZhV (Xn (natL edges)) tgt
 rw[Kd,XW,hE.1]at hbnd
 have hback:(bkI (natL edges) n n []).map (fun l=>l.map Int.toNat)=Xn (natL edges):=by
  have:=bkI_nat (natL edges)
  rw[XW,hE.1]at this;exact this
 obtain⟨D,hDd⟩:=nmx (ZW (Xn (natL edges)) tgt)
 rw[← hDd]at hdst hbnd hD ⊢
 have HDd:=lhd hDd;have HDst:=lhd hdst;have HBnd:=lhd hbnd;have HD:=lhd hD;have HBack:=lhd hback
 have HG:=lhd hg;have HE:=lhd hE;have HMl:=lhd hM;have HNn:=lhd hn;have HF:=lhd hf;have HT:=lhd ht
 have HDl:=lhd (show D.length=n by rw[hdst.len,XW,hE.1])
 obtain⟨df,hdf⟩:∃ z,z=D.getD frm (-1):=⟨_,rfl⟩
 rw[← hdf]at hD ⊢
 have HDf:=lhd hdf;have HDf0:=lhd hD
 clear hdst hbnd hD hDd hg hok hE hM hn hf ht hne hbN hback hdf
 go_enter Tryz.func13,Tryz.ntmps13
 go_upto_region 1 with fail
 have hgb:=GBox.new (a:=.slice A n ca) (b:=.slice (some ⟨bN,oN,none⟩) n cN) (W:=w)
 have hA:=(brf w.heap.size w).alloc (nlr _) (.cells #[.slice A n ca,.slice (some ⟨bN,oN,none⟩) n cN] 33)
 obtain⟨W0,hW0⟩:=nmx (w.alloc (.cells #[.slice A n ca,.slice (some ⟨bN,oN,none⟩) n cN] 33))
 obtain⟨R3,hR3⟩:=nmx (w.heap.size)
 rw[← hW0]at hA hgb ⊢
 rw[← hR3]at hgb ⊢
 have HA:=lhd hA;have HB0:=lhd hgb
 obtain⟨-,q0,q1⟩:=hgb
 clear hA hW0 hR3
 go_wp2_with fail
 refine(HCk.out _ HA.out).mono ?_
 rintro e w1 ⟨_,rfl,rfl,hb1⟩
 have HA1:=lhd (HA.out.trans (hb1.mono HA.out.size));have HB1:=lhd (HB0.out.keep hb1)
 clear hb1 q0 q1 HA HB0
 obtain⟨-,q0,q1⟩:=HB1.out
 have HHf:=lhd (fun W=>Ks (A:=A) (n:=n) (c:=ca) (b:=.slice (some ⟨bN,oN,none⟩) n cN) (x:=(frm:Int)) (by omega) (by have:=HF.out;omega) W)
 have HHt:=lhd (fun W=>Ks (A:=A) (n:=n) (c:=ca) (b:=.slice (some ⟨bN,oN,none⟩) n cN) (x:=(tgt:Int)) (by omega) (by have:=HT.out;omega) W)
 go_wp2_with fail
 refine(HHf.out _).mono ?_
 rintro e w2 ⟨_,rfl,rfl,hb2⟩
 have HA2:=lhd (HA1.out.trans (hb2.mono HA1.out.size));have HB2:=lhd (HB1.out.keep hb2)
 clear hb2 q0 q1 HA1 HB1
 obtain⟨-,q0,q1⟩:=HB2.out
 go_wp2_with fail
 refine(HHt.out _).mono ?_
 rintro e w3 ⟨_,rfl,rfl,hb3⟩
 have HA3:=lhd (HA2.out.trans (hb3.mono HA2.out.size));have HB3:=lhd (HB2.out.keep hb3)
 clear hb3 q0 q1 HA2 HB2
 obtain⟨-,q0,q1⟩:=HB3.out
 have hmk:=ZhW n (by have:=HNn.out;omega) w3
 go_upto_region 7 with fail
 have hbk:=BkS.new w3 n
 have hA:=(brf w3.heap.size w3).alloc (nlr _) (.cells (madeCells #[.slice none 0 0] n) 40)
 rw[ZgG]at hA ⊢
 obtain⟨W4,hW4⟩:=nmx (w3.alloc (.cells (List.replicate n (Value.slice none 0 0)).toArray 40))
 obtain⟨gB,hgB⟩:=nmx (w3.heap.size)
 rw[← hW4]at hbk hA ⊢
 rw[← hgB]at hbk ⊢
 rw[← bkI_zero (natL edges) n]at hbk
 have HK4:=lhd hbk;have HB4:=lhd (HB3.out.keep hA);have HG3:=lhd (HG.out.keep HA3.out)
 clear hbk hA hW4 hgB hmk q0 q1
 obtain⟨-,q0,q1⟩:=HB4.out
 go_wp2_with fail
 clear q0 q1
 go_loopw [40] (fun s40 wr=>∃ (i:Nat) (vals:List Value),s40=.int .i64 i∧i≤n∧BkS w3 gB n (bkI (natL edges) n i []) vals wr) (fun s40 _=>n-(intOf s40).toNat)
 case atStart=>exact⟨0,_,rfl,Nat.zero_le _,HK4.out⟩
 case round =>
  obtain⟨i,vals,rfl,hi,hbk⟩:=hrel
  have HK:=lhd hbk
  clear hbk
  rcases Nat.lt_or_ge i n with hlt | hge
  ·have di:=deT (p:=(i:Int)<(n:Int)) (by omega)
   have HI:=lhd hlt
   obtain⟨er,her⟩:∃ er,edges[i]?=some er:=⟨_,gEe (by rw[HE.out.1];exact hlt)⟩
   obtain⟨u,hu0,hnp,hbl⟩:=Zbi HG3.out.2 her
   have hu:=(HK.out.below.cell (p:=⟨bN,oN+i,none⟩) hbl).trans hu0
   obtain⟨Au,cu,rfl,-,-⟩:=Sl.len hnp
   obtain⟨lu,hlu⟩:=nmx (er.length)
   obtain⟨nr,hnr⟩:∃ r,r=er.map Int.toNat:=⟨_,rfl⟩
   rw[← hlu]at hu hnp
   have HNP:=lhd hnp;have HLu:=lhd hlu;have HNr:=lhd hnr
   have HLuB:=lhd (show lu≤200 by rw[hlu];exact HMl.out er (mGe her))
   have HEv:=lhd (HE.out.2.2 er (mGe her)).2
   have HNg:=lhd (show(natL edges).getD i []=nr by rw[ZbS her,hnr])
   clear hi hu0 hnp hbl hlu hnr her
   go_wp2_with fail
   clear hu hlt
   go_loopw [47] (fun s47 wr=>∃ (j:Nat) (vals:List Value),s47=.int .i64 j∧j≤lu∧BkS w3 gB n (bkI (natL edges) n i (nr.take j)) vals wr) (fun s47 _=>lu-(intOf s47).toNat)
   case atStart=>exact⟨0,_,rfl,Nat.zero_le _,HK.out⟩
   case round =>
    obtain⟨j,vals2,rfl,hj,hbk⟩:=hrel
    have HK2:=lhd hbk
    clear hbk
    rcases Nat.lt_or_ge j lu with hlt | hge
    ·have dj:=deT (p:=(j:Int)<(lu:Int)) (by omega)
     have HJ:=lhd hlt
     obtain⟨z,hz⟩:∃ z,er[j]?=some z:=⟨_,gEe (by rw[← HLu.out];exact hlt)⟩
     obtain⟨hz0,hz1⟩:=HEv.out z (mGe hz)
     obtain⟨x,rfl⟩:∃ x:Nat,z=(x:Int):=⟨z.toNat,by omega⟩
     have hxl:x<n:=by omega
     have hTk:nr.take (j+1)=nr.take j++[x]:=by rw[List.take_add_one,HNr.out,List.getElem?_map,hz];rfl
     have HTk:=lhd hTk;have HX:=lhd hxl
     obtain⟨bE,oE,rfl,hbE,hcE⟩:=Zv (Sl.keep HNP.out HK2.out.below) hz
     obtain⟨v,hv⟩:∃ v,vals2[x]?=some v:=⟨_,gEe (by rw[HK2.out.lv];exact hxl)⟩
     have hrow:(bkI (natL edges) n i (nr.take j))[x]?=_:=ZcA hxl
     obtain⟨rs,ho,-⟩:=HK2.out.row x _ v hrow hv
     obtain⟨Av,cv,rfl,-,-⟩:=ho.len
     obtain⟨lv,hlv⟩:=nmx (rs.length)
     rw[← hlv]at hv
     have hcB:=HK2.out.cell hv
     have HV:=lhd hv;have HRow:=lhd hrow
     have HRl:=lhd (show((bkL (natL edges) x i++cntB (nr.take j) x i).map fun x:Nat=>(x:Int)).length≤1000000 by
      have h1:=Zbp (nx:=natL edges) (M:=200) (n:=n) (i:=i) (fun l hl=>by
       obtain⟨l2,h2,rfl⟩:=List.mem_map.1 hl
       rw[List.length_map];exact HMl.out l2 h2) (l:=nr.take j) _ (mGe hrow)
      have h2:(nr.take j).length≤200:=by
       rw[List.length_take,HNr.out,List.length_map]
       have:=HLuB.out;have:=HLu.out;omega
      have h3:=HI.out;have h4:=HNn.out
      have h5:i*200≤400*200:=Nat.mul_le_mul_right 200 (by omega)
      omega)
     clear hz hz0 hz1 hTk hbE hrow ho hv hlv hj
     go_wp2_with (at_builtin;refine ZbE rfl (.tmp 56) (.tmp 58) rfl HK2.out (c:=1) (y:=(i:Int)) HV.out HRow.out rfl rfl HRl.out ?_;intro A6 m6 c6 v6 W6 e6 h6c h6f h6b;subst e6;have HK6:=lhd h6b;clear h6b)
     refine⟨⟨j+1,vals2.set x (.slice A6 m6 c6),by rw[Zc HJ.out (by have:=HLuB.out;omega)],HJ.out,?_⟩,by rw[Zc HJ.out (by have:=HLuB.out;omega)];simp only[intOf];have:=HJ.out;omega⟩
     rw[HTk.out,← bkI_step HX.out]
     exact HK6.out
    ·obtain rfl:j=lu:=by omega
     have dj:=deF (p:=(j:Int)<(j:Int)) (by omega)
     have htk:nr.take j=nr:=tOl (by rw[HNr.out,List.length_map,← HLu.out];exact nlr _)
     have hk2:=HK2.out
     rw[htk,← HNg.out,bkI_next]at hk2
     have HK3:=lhd hk2
     clear hk2 htk hge hj
     go_wp2_with fail
     exact⟨⟨i+1,_,by rw[Zc HI.out (by have:=HNn.out;omega)],HI.out,HK3.out⟩,by rw[Zc HI.out (by have:=HNn.out;omega)];simp only[intOf];have:=HI.out;omega⟩
  ·obtain rfl:i=n:=by omega
   have di:=deF (p:=(i:Int)<(i:Int)) (by omega)
   have hsl:=HK.out.sl (by unfold maxLen;have:=HNn.out;omega)
   have hok2:ZaU (bkI (natL edges) i i []) i:=⟨Zba _ _ _ _,by have:=HNn.out;omega,fun l hl=>⟨by
    have h1:=Zbp (nx:=natL edges) (M:=200) (n:=i) (i:=i) (fun l hl=>by
     obtain⟨l2,h2,rfl⟩:=List.mem_map.1 hl
     rw[List.length_map];exact HMl.out l2 h2) (l:=[]) l hl
    have h4:=HNn.out
    have h5:i*200≤400*200:=Nat.mul_le_mul_right 200 (by omega)
    rw[List.length_nil]at h1;omega,bkI_in l hl⟩⟩
   have HSl:=lhd hsl;have HOk2:=lhd hok2
   clear hi hge hsl hok2
   go_wp2_with fail
   refine(ZdP HSl.out HOk2.out HT.out).mono ?_
   rintro e w5 ⟨_,rfl,⟨gL,rfl,hrow⟩,hb5⟩
   have hrow2:RowN gL D w5:=by
    rw[HDd.out,← HBack.out];exact hrow
   have hb35:Below w3.heap.size w3 w5:=HK.out.below.trans (hb5.mono HK.out.below.size)
   have HR5:=lhd hrow2;have HB35:=lhd hb35
   clear hrow hrow2 hb5 hb35
   go_upto_region 17 with fail
   have hA:=(brf w5.heap.size w5).alloc (nlr _) (.cells #[.slice (some ⟨gL,0,none⟩) i i] 40)
   have h14:BoxSl w5.heap.size (.slice (some ⟨gL,0,none⟩) i i) (w5.alloc (.cells #[.slice (some ⟨gL,0,none⟩) i i] 40)):=heap_alloc_new w5 _
   obtain⟨W6,hW6⟩:=nmx (w5.alloc (.cells #[.slice (some ⟨gL,0,none⟩) i i] 40))
   obtain⟨R14,hR14⟩:=nmx (w5.heap.size)
   rw[← hW6]at hA h14 ⊢
   rw[← hR14]at h14 ⊢
   have HR6:=lhd (HR5.out.keep hA);have H14:=lhd h14
   have hb36:=HB35.out.trans (hA.mono HB35.out.size)
   have HA6:=lhd (HA3.out.trans (hb36.mono HA3.out.size));have HB6:=lhd (HB3.out.keep hb36);have HG6:=lhd (HG3.out.keep hb36)
   clear hA h14 hW6 hR14 hb36
   have q14:=H14.out.c0
   have hdfc:D[frm]?=some df:=by rw[HDf.out,gDg,gEe (by rw[HDl.out];exact HF.out)];rfl
   have qL:=HR6.out.cell hdfc
   have d17:=deF (p:=df<0) (by have:=HDf0.out;omega)
   have hfl:=HF.out
   clear hdfc
   go_upto_region 20 with fail
   have hA:=(brf W6.heap.size W6).alloc (nlr _) (.cells #[.int .i64 (frm:Int)] 3)
   have ho7:=Own.one (e:=eNum) (w:=W6) (W:=W6) (x:=(frm:Int)) (cs:=[.int .i64 (frm:Int)]) (brf _ _) rfl
   obtain⟨W7,hW7⟩:=nmx (W6.alloc (.cells #[.int .i64 (frm:Int)] 3))
   change Own eNum W6 _ _ (W6.alloc (.cells #[.int .i64 (frm:Int)] 3)) at ho7
   rw[← hW7]at hA ho7 ⊢
   have HO7:=lhd ho7;have HA7:=lhd hA
   have HL7:=lhd (show W6.heap.size<W7.heap.size by rw[hW7];simp)
   clear hA ho7 hW7 q14 qL d17 hfl
   go_upto_region 21 with fail
   have hA:=(brf W7.heap.size W7).alloc (nlr _) (.cells #[.int .i64 (frm:Int)] 3)
   have h16:RowN W7.heap.size [(frm:Int)] (W7.alloc (.cells #[.int .i64 (frm:Int)] 3)):=heap_alloc_new W7 _
   obtain⟨W8,hW8⟩:=nmx (W7.alloc (.cells #[.int .i64 (frm:Int)] 3))
   obtain⟨R16,hR16⟩:=nmx (W7.heap.size)
   rw[← hW8]at hA h16 ⊢
   rw[← hR16]at h16 ⊢
   have HO8:=lhd (HO7.out.keep hA);have H16:=lhd h16
   have HR16:=lhd (show W6.heap.size<R16 by rw[hR16];exact HL7.out)
   clear hA h16 hW8 hR16
   go_loopg [15,16] df.toNat (fun gk s15 s16 wr=>PatR W6 D i df gk s15 s16 wr)
   case atStart =>
    refine⟨frm,_,R16,rfl,HF.out,?_,?_,HO8.out,H16.out,Nat.le_of_lt HR16.out,fun e=>?_⟩
    ·rw[← HDf.out];have:=HDf0.out;omega
    ·have:=HDf0.out;simp;omega
    ·simp only[Value.ownBlock,Option.some.injEq]at e;have:=HR16.out;omega
   case round =>
    obtain⟨v,rs,R,rfl,hv,hgk,hlen,hO,hR,hRg,hne⟩:=hrel
    have HO:=lhd hO;have HRv:=lhd hR;have HV:=lhd hv;have HGk:=lhd hgk;have HLen:=lhd hlen;have HRg:=lhd hRg;have HNe:=lhd hne
    have q16:=hR.cell (i:=0) rfl
    clear hO hR hgk hlen hRg hne
    by_cases hvt:v=tgt
    ·have d1:((v:Int) == (tgt:Int))=true:=by simp[hvt]
     have d2:((v:Int) != (tgt:Int))=false:=by simp[hvt]
     have hl0:rs.length=df.toNat+1:=by
      have h1:=HGk.out
      rw[hvt,HDst.out.zero]at h1
      have:=HLen.out;have:=HDf0.out;omega
     obtain⟨Ar,cr,e15,-,-⟩:=HO.out.len
     rw[hl0]at e15
     subst e15
     have HB9:=lhd (HA6.out.trans (HO.out.below.mono HA6.out.size))
     clear hvt hl0 hv
     go_wp2_with fail
     go_ret2
     exact⟨_,rfl,⟨_,_,rfl⟩,HB9.out⟩
    ·have d1:((v:Int) == (tgt:Int))=false:=by simp;omega
     have d2:((v:Int) != (tgt:Int))=true:=by simp;omega
     obtain⟨x,hnr,hxm,hx0,hxd⟩:=HDst.out.down v (by rw[XW,HE.out.1];exact hv) (by rw[HGk.out];omega) hvt
     obtain⟨er,her⟩:∃ er,edges[v]?=some er:=⟨_,gEe (by rw[HE.out.1];exact hv)⟩
     have hein:=(HE.out.2.2 er (mGe her)).2
     obtain⟨j,hj,hjp,hjm⟩:=near_at her (fun y hy=>(hein y hy).1) hnr
     have hxn:x<i:=by have:=hein _ (mGe hj);omega
     obtain⟨u,hu0,hnp,hbl⟩:=Zbi HG6.out.2 her
     have hu:=(HO.out.below.cell (p:=⟨bN,oN+v,none⟩) hbl).trans hu0
     have HNP:=lhd (Sl.keep hnp HO.out.below);have HNP6:=lhd hnp
     obtain⟨-,q0,q1⟩:=HB6.out.keep HO.out.below
     have HPv:=lhd (show PthV R14 R gL i D v wr from⟨HR6.out.keep HO.out.below,H14.out.keep HO.out.below,HRv.out.nbox,HDl.out,fun y hy=>by have:=HBnd.out y hy;have:=HNn.out;omega⟩)
     have HIx:=lhd (Zg8 HPv.out HNP.out (by have:=HMl.out er (mGe her);omega) (fun y hy=>⟨y.toNat,by have:=hein y hy;omega,by have:=hein y hy;omega⟩) hv hj hjp hjm)
     have HJ:=lhd hj;have HXd:=lhd hxd;have HXn:=lhd hxn;have HX0:=lhd hx0
     have HU6:=lhd hu0;have HBl:=lhd hbl
     obtain⟨Au,cu,rfl,-,-⟩:=Sl.len hnp
     clear hnr hxm hx0 hxd her hein hj hjp hjm hxn hu0 hnp hbl hvt
     go_wp2_with fail
     refine HIx.out.mono ?_
     rintro e w9 ⟨_,rfl,rfl,hb9⟩
     have hO9:=HO.out.keep hb9
     have hR9:=HRv.out.keep hb9
     have hu9:=(hO9.below.cell (p:=⟨bN,oN+v,none⟩) HBl.out).trans HU6.out
     obtain⟨bE,oE,rfl,hbE,hcE⟩:=Zv (Sl.keep HNP6.out hO9.below) HJ.out
     have q16':=hR9.cell (i:=0) rfl;have f16:=hR9.f 0
     have HO9:=lhd hO9;have HR9:=lhd hR9
     clear hb9 q0 q1 q16 hu hO9 hR9 hbE
     obtain⟨-,q0,q1⟩:=HB6.out.keep HO9.out.below
     have hjl:=(List.getElem?_eq_some_iff.1 HJ.out).1
     go_upto_region 25 with fail
     have hset:=HR9.out.set 0 (x:Int)
     have ha:Alt (some R) w9 (w9.setCell ⟨R,0,none⟩ (.int .i64 (x:Int))):=.only (Only.setCell w9 R 0 _)
     have hos:Own eNum W6 u15 rs (w9.setCell ⟨R,0,none⟩ (.int .i64 (x:Int))):=
      HO9.out.aside ha (HO9.out.below.setCell HRg.out _) (fun g e1 e2=>HNe.out (e1.trans e2.symm)) (fun g _ i u _ hh=>hh)
     obtain⟨WS,hWS⟩:=nmx (w9.setCell ⟨R,0,none⟩ (.int .i64 (x:Int)))
     rw[← hWS]at hset hos ⊢
     change RowN R [(x:Int)] WS at hset
     have HOs:=lhd hos;have HSet:=lhd hset
     have q25:=hset.cell (i:=0) rfl
     clear ha hset hos hWS q0 q1 hu9 hcE q16' f16 hjl
     go_upto_region 22 with fail
     have hA:=(brf WS.heap.size WS).alloc (nlr _) (.cells #[.int .i64 (x:Int)] 3)
     have hrn:RowN WS.heap.size [(x:Int)] (WS.alloc (.cells #[.int .i64 (x:Int)] 3)):=heap_alloc_new WS _
     have hon:=HOs.out.keep hA
     have hnn:u15.ownBlock≠some WS.heap.size:=fun e=>by have:=HOs.out.lt e;omega
     have hrg:W6.heap.size≤WS.heap.size:=HOs.out.below.size
     have hlt:WS.heap.size<(WS.alloc (.cells #[.int .i64 (x:Int)] 3)).heap.size:=by simp
     obtain⟨WN,hWN⟩:=nmx (WS.alloc (.cells #[.int .i64 (x:Int)] 3))
     obtain⟨RN,hRN⟩:=nmx (WS.heap.size)
     rw[← hWN]at hA hrn hon hlt ⊢
     rw[← hRN]at hrn hnn hrg hlt ⊢
     have HRn:=lhd hrn;have HOn:=lhd hon;have HNn2:=lhd hnn;have HRgn:=lhd hrg;have HLtn:=lhd hlt
     have qn:=hrn.cell (i:=0) rfl
     have HRl:=lhd (show rs.length≤1000000 by
      have h1:=HLen.out
      have h2:=HBnd.out df (by
       rw[HDf.out,gDg,gEe (by rw[HDl.out];exact HF.out)]
       exact List.getElem_mem _)
      have:=HNn.out;omega)
     obtain⟨i0,hi0,hz0,hz1,hz2⟩:=info_parts ZM
     clear hA hrn hon hnn hrg hlt hWN hRN q25
     go_wp2_with (at_builtin;refine YF rfl (.tmp 77) (.tmp 79) 40 rfl i0 Tryz.underlying40 hi0 hz0 hz1 hz2 (HOn.out.keep ((Below.refl _ _).alloc (Nat.le_refl _) _)) (y:=(x:Int)) (cs:=[.int .i64 (x:Int)]) rfl ⟨WN.heap.size,0,none⟩ 1 rfl rfl (Y6 (by simp[go_sem])) HRl.out ?_;intro v3 W3 k1 k2 k3;have HK1:=lhd k1;have HK3:=lhd k3;have HRn3:=lhd ((HRn.out.keep ((Below.refl _ _).alloc (Nat.le_refl _) _)).alt (.grown k2) HNn2.out);clear k1 k2 k3)
     have hg1:=HGk.out;have hx1:=HXd.out;have hx2:=HX0.out
     go_roundg (gk-1)
     case measure=>omega
     case rel =>
      refine⟨x,_,RN,rfl,HXn.out,by omega,?_,HK1.out,HRn3.out,HRgn.out,fun e=>?_⟩
      ·have h1:=HLen.out
       rw[List.length_append,List.length_singleton];omega
      ·rcases HK3.out RN e with h1 | h1
       ·exact HNn2.out h1
       ·have:=HLtn.out;simp at h1;omega
attribute [local go_sem] Oper.semAt_some
theorem UX(a:Int)(w:World)(ha:I64 a):Calls Tryz.prog 32 #[.int .i64 a,.int .i64 5] w (Zb (VC (.int .i64 (a % 5))) w):=(bMod_any a 5 w ha (by decide) ⟨by decide,by decide⟩).mono fun _ _ h=>YG h
theorem Zbq{n:Int}(h:n∈up5)(w:World):Calls Tryz.prog 33 #[.int .i64 n] w (Zb (VC (.string ⟨(dg n).toArray⟩)) w):=by
 go_enter Tryz.func33,Tryz.ntmps33
 simp only[up5,List.mem_cons,List.not_mem_nil,or_false]at h
 rcases h with rfl | rfl | rfl | rfl | rfl
 ·have HA:=lhd (fun W=>show Calls Tryz.prog 67 #[.int .i64 0] W (fun e w'=>e=.returned (.int .i64 0)∧∃ n,w'=W.drewN n) from U8 0 W (by decide) (by decide))
  have hsl:∀ W,(Instr.sliceAt 9 (.string ⟨#[48,49,50,51,52,53,54,55,56,57]⟩) (some (.int .i64 0)) (some (.int .i64 1)) none).run Tryz.prog W=.ok (.string ⟨#[48]⟩) W:=fun W=>by kernel_rfl
  have hie:((⟨#[48]⟩:ByteArray)++⟨#[]⟩).toList.isEmpty=false:=by decide +kernel
  go_wp2_with fail
  refine wp_loop_rounds 2 ?_
  rw[rounds_succ]
  go_wp2_with fail
  refine(HA.out _).mono ?_
  rintro e w1 ⟨rfl,n1,rfl⟩
  go_wp2_with fail
  rw[rounds_succ]
  go_wp2_with fail
  go_ret
  exact⟨_,rfl,show Value.string ((⟨#[]⟩:ByteArray)++(⟨#[48]⟩++⟨#[]⟩))=Value.string ⟨(dg 0).toArray⟩ from congrArg Value.string (by decide +kernel),Zi (brf _ _) _⟩
 ·have HA:=lhd (fun W=>show Calls Tryz.prog 67 #[.int .i64 1] W (fun e w'=>e=.returned (.int .i64 1)∧∃ n,w'=W.drewN n) from U8 1 W (by decide) (by decide))
  have hsl:∀ W,(Instr.sliceAt 9 (.string ⟨#[48,49,50,51,52,53,54,55,56,57]⟩) (some (.int .i64 1)) (some (.int .i64 2)) none).run Tryz.prog W=.ok (.string ⟨#[49]⟩) W:=fun W=>by kernel_rfl
  have hie:((⟨#[49]⟩:ByteArray)++⟨#[]⟩).toList.isEmpty=false:=by decide +kernel
  go_wp2_with fail
  refine wp_loop_rounds 2 ?_
  rw[rounds_succ]
  go_wp2_with fail
  refine(HA.out _).mono ?_
  rintro e w1 ⟨rfl,n1,rfl⟩
  go_wp2_with fail
  rw[rounds_succ]
  go_wp2_with fail
  go_ret
  exact⟨_,rfl,show Value.string ((⟨#[]⟩:ByteArray)++(⟨#[49]⟩++⟨#[]⟩))=Value.string ⟨(dg 1).toArray⟩ from congrArg Value.string (by decide +kernel),Zi (brf _ _) _⟩
 ·have HA:=lhd (fun W=>show Calls Tryz.prog 67 #[.int .i64 2] W (fun e w'=>e=.returned (.int .i64 2)∧∃ n,w'=W.drewN n) from U8 2 W (by decide) (by decide))
  have hsl:∀ W,(Instr.sliceAt 9 (.string ⟨#[48,49,50,51,52,53,54,55,56,57]⟩) (some (.int .i64 2)) (some (.int .i64 3)) none).run Tryz.prog W=.ok (.string ⟨#[50]⟩) W:=fun W=>by kernel_rfl
  have hie:((⟨#[50]⟩:ByteArray)++⟨#[]⟩).toList.isEmpty=false:=by decide +kernel
  go_wp2_with fail
  refine wp_loop_rounds 2 ?_
  rw[rounds_succ]
  go_wp2_with fail
  refine(HA.out _).mono ?_
  rintro e w1 ⟨rfl,n1,rfl⟩
  go_wp2_with fail
  rw[rounds_succ]
  go_wp2_with fail
  go_ret
  exact⟨_,rfl,show Value.string ((⟨#[]⟩:ByteArray)++(⟨#[50]⟩++⟨#[]⟩))=Value.string ⟨(dg 2).toArray⟩ from congrArg Value.string (by decide +kernel),Zi (brf _ _) _⟩
 ·have HA:=lhd (fun W=>show Calls Tryz.prog 67 #[.int .i64 3] W (fun e w'=>e=.returned (.int .i64 3)∧∃ n,w'=W.drewN n) from U8 3 W (by decide) (by decide))
  have hsl:∀ W,(Instr.sliceAt 9 (.string ⟨#[48,49,50,51,52,53,54,55,56,57]⟩) (some (.int .i64 3)) (some (.int .i64 4)) none).run Tryz.prog W=.ok (.string ⟨#[51]⟩) W:=fun W=>by kernel_rfl
  have hie:((⟨#[51]⟩:ByteArray)++⟨#[]⟩).toList.isEmpty=false:=by decide +kernel
  go_wp2_with fail
  refine wp_loop_rounds 2 ?_
  rw[rounds_succ]
  go_wp2_with fail
  refine(HA.out _).mono ?_
  rintro e w1 ⟨rfl,n1,rfl⟩
  go_wp2_with fail
  rw[rounds_succ]
  go_wp2_with fail
  go_ret
  exact⟨_,rfl,show Value.string ((⟨#[]⟩:ByteArray)++(⟨#[51]⟩++⟨#[]⟩))=Value.string ⟨(dg 3).toArray⟩ from congrArg Value.string (by decide +kernel),Zi (brf _ _) _⟩
 ·have HA:=lhd (fun W=>show Calls Tryz.prog 67 #[.int .i64 4] W (fun e w'=>e=.returned (.int .i64 4)∧∃ n,w'=W.drewN n) from U8 4 W (by decide) (by decide))
  have hsl:∀ W,(Instr.sliceAt 9 (.string ⟨#[48,49,50,51,52,53,54,55,56,57]⟩) (some (.int .i64 4)) (some (.int .i64 5)) none).run Tryz.prog W=.ok (.string ⟨#[52]⟩) W:=fun W=>by kernel_rfl
  have hie:((⟨#[52]⟩:ByteArray)++⟨#[]⟩).toList.isEmpty=false:=by decide +kernel
  go_wp2_with fail
  refine wp_loop_rounds 2 ?_
  rw[rounds_succ]
  go_wp2_with fail
  refine(HA.out _).mono ?_
  rintro e w1 ⟨rfl,n1,rfl⟩
  go_wp2_with fail
  rw[rounds_succ]
  go_wp2_with fail
  go_ret
  exact⟨_,rfl,show Value.string ((⟨#[]⟩:ByteArray)++(⟨#[52]⟩++⟨#[]⟩))=Value.string ⟨(dg 4).toArray⟩ from congrArg Value.string (by decide +kernel),Zi (brf _ _) _⟩
end
end Go.Proofs.YthkklilhjnpedaaGreatDoor
