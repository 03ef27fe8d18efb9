/- A queue of pairs of vertices: a slice of a call's own that loses its first elements and gets others appended. -/
import Derived.Test.YthkklilhjnpedaaGreatDoorURpt
import Derived.Test.YthkklilhjnpedaaGreatDoorUGch
import Derived.Test.YthkklilhjnpedaaGreatDoorUStp
import Derived.Deep.AppendSrc
import Derived.Deep.Upon
set_option maxHeartbeats 16000000
set_option maxRecDepth 8000
namespace Go.Proofs.YthkklilhjnpedaaGreatDoor
section
open Go.RowKit FF
section
variable {α:Type}{e:El α}{w W W':World}{v:Value}{l:List α}{rs:List (α × List Value)}
theorem Own.tag(h:Own e w v rs W){g:Nat}(hg:v.ownBlock=some g):∃ cur,W.heap[g]?=some (.cells cur e.T (0,0)):=by
 rcases h.1.2 with⟨rfl,-⟩ | ⟨g',cap,cur,rfl,hb,hgg,-⟩
 ·cases hg
 ·simp only[Value.ownBlock,Option.some.injEq]at hg
  subst hg
  exact⟨cur,hgg⟩
theorem Own.lt(h:Own e w v rs W){g:Nat}(hg:v.ownBlock=some g):g<W.heap.size:=(h.1.lt g hg).2
theorem Own.aside{row:Option Nat}(h:Own e w v rs W)(ha:Alt row W W')(hb:Below w.heap.size w W')(hne:∀ g,v.ownBlock=some g→row≠some g)(hc:∀ g,row=some g→Clean e.Bad W g):Own e w v rs W':=by
 refine⟨⟨h.1.1,?_⟩,hb,fun x hx=>e.alt (h.2.2.1 x hx) ha hc,fun g hg=>(h.2.2.2 g hg).alt ha (h.1.lt g hg).2 (fun e=>hne g hg e.symm)⟩
 rcases h.1.2 with h0 | ⟨g,cap,cur,rfl,h2,h3,h4⟩
 ·exact .inl h0
 ·refine .inr ⟨g,cap,cur,rfl,h2,?_,h4⟩
  rw[ha.block g (Array.getElem?_eq_some_iff.1 h3).1 (fun e=>hne g rfl e.symm)];exact h3
theorem Own.ne{β:Type}{e2:El β}{w2:World}{v2:Value}{rs2:List (β × List Value)}(h:Own e w v rs W)(h2:Own e2 w2 v2 rs2 W)(hT:e.T≠e2.T):∀ g,v.ownBlock=some g→v2.ownBlock≠some g:=fun g h1 h3=>by
 obtain⟨c1,k1⟩:=h.tag h1
 obtain⟨c2,k2⟩:=h2.tag h3
 rw[k1]at k2
 injection k2 with k2
 injection k2 with _ k3
 exact hT k3
end
def Xo(u:Value):Prop:=∃ k n,u=.int k n
def Z6:El (List UInt8) where
 T:=9
 n:=1
 bytes:=16
 z:=.string ⟨#[]⟩
 E:=fun s cs _=>cs=[.string ⟨s.toArray⟩]
 Bad:=Xo
 pos:=by decide
 small:=by decide
 zn:=rfl
 zg:=by
  intro u hu
  simp only[Value.cells]at hu
  simp at hu
  subst hu
  rintro⟨k,n,e⟩;cases e
 len:=by rintro x cs W rfl;rfl
 one:=by
  rintro x cs W rfl y hy
  obtain rfl:=List.mem_singleton.1 hy
  exact⟨rfl,fun ⟨k,n,e⟩=>by cases e⟩
 alt:=fun h _ _=>h
theorem Zgr(x:Int)(cs:List Value)(W:World)(h:eNum.E x cs W):∃ u r,cs=u::r∧Xo u:=by
 obtain rfl:cs=[.int .i64 x]:=h
 exact⟨_,_,rfl,_,_,rfl⟩
def Z7:El (List Int) where
 T:=40
 n:=1
 bytes:=24
 z:=.slice none 0 0
 E:=fun l cs W=>∃ v,cs=[v]∧Sl eNum l v W
 Bad:=Xo
 pos:=by decide
 small:=by decide
 zn:=rfl
 zg:=by
  intro u hu
  simp only[Value.cells]at hu
  simp at hu
  subst hu
  rintro⟨k,n,e⟩;cases e
 len:=by rintro x cs W ⟨v,rfl,-⟩;rfl
 one:=by
  rintro x cs W ⟨v,rfl,A,c,rfl,-⟩ y hy
  obtain rfl:=List.mem_singleton.1 hy
  exact⟨rfl,fun ⟨k,n,e⟩=>by cases e⟩
 alt:=by
  rintro x cs W W' row ⟨v,rfl,h⟩ ha hn
  exact⟨v,rfl,h.alt ha hn Zgr (fun _ h=>h.elim)⟩
theorem NP.alt{l:List Int}{v:Value}{W W':World}{row:Option Nat}(h:NP l v W)(ha:Alt row W W')(hc:∀ g,row=some g→Clean Xo W g):NP l v W':=Sl.alt h ha hc Zgr (fun _ h=>h.elim)
theorem Sl.str{l:List (List UInt8)}{v:Value}{W:World}(h:Sl Z6 l v W):Sl eStr l v W:=h
theorem Sl.row{l:List (List Int)}{v:Value}{W:World}(h:Sl Z7 l v W):Sl eRow l v W:=h
def OneB(N:Nat)(c:Value):Value→World→Prop:=fun s W=>∃ b,s=.slice (some ⟨b,0,none⟩) 1 1∧N≤b∧b<W.heap.size∧W.cell? ⟨b,0,none⟩=some c
theorem Keeps.oneB(N:Nat)(c:Value):Keeps (OneB N c):=by
 rintro s W W' ⟨b,h1,h2,h3,h4⟩ hb
 exact⟨b,h1,h2,nLl h3 hb.size,(hb.cell (p:=⟨b,0,none⟩) h3).trans h4⟩
theorem OneB.alt{N:Nat}{c s:Value}{W W':World}{row:Option Nat}(h:OneB N c s W)(ha:Alt row W W')(hr:∀ g,row=some g→g<N):OneB N c s W':=by
 obtain⟨b,h1,h2,h3,h4⟩:=h
 exact⟨b,h1,h2,nLl h3 ha.size,(ha.cell h3 (fun e=>by have:=hr b e.symm;omega)).trans h4⟩
theorem Yl.build1{P:Program}{a:Act}{W:World}{o:Oper}{T E:TypeId}{x:Operand}{u:Value}{i:TypeInfo}{z:Value}{N:Nat}(hT:P.underlying T=some (.slice E))(hi:P.info? E=some i)(hz:i.zero=some z)(hzc:z.cells=#[z])(hs:i.size=1)(hu:plainV u=true)(hN:N≤W.heap.size)
  (ho:o.op=.buildSlice T 1 #[(0,x)]) (hx:a.eval x=u):Yl P o a W (OneB N u):=by
 refine⟨fun K Q' hK=>?_⟩
 refine wp_buildSlice T E 1 #[(0,x)] ho #[u] i z hT hi hz (by rw[hs];decide) (by rw[hs];decide) ?_ ?_
 ·rw[hs]
  simp only[List.map_toArray,List.map_cons,List.map_nil,hx,hzc]
  cases u with
  | int k n | bool b | string s | slice A n c | pointer p=>simp[Instr.fill,Value.cells,show Array.range 1=#[0] from rfl]
  | _=>cases hu
 ·have hB:=(brf W.heap.size W).alloc (nlr _) (.cells #[u] E)
  exact hK _ _ hB ⟨W.heap.size,rfl,hN,by simp,by simp[go_sem]⟩
end
end Go.Proofs.YthkklilhjnpedaaGreatDoor
section
namespace FF
def ZR(v:Nat):List Nat→List Bool→List (Nat × Nat)→List Bool × List (Nat × Nat)
 | [],s,q=>(s,q)
 | w::l,s,q=>if s.getD w true then ZR v l s q else ZR v l (s.set w true) (q++[(v,w)])
def pend(frm:Nat)(out:List Int)(e:Nat × Nat):Int:=if e.2=frm then 0 else out.getD e.1 (-1)+1
def bfsL(next:List (List Nat))(frm:Nat):Nat→List Bool→List (Nat × Nat)→List Int→List Int
 | 0,_,_,out=>out
 | _+1,_,[],out=>out
 | k+1,s,e::q,out=>bfsL next frm k (ZR e.2 (next.getD e.2 []) s q).1 (ZR e.2 (next.getD e.2 []) s q).2 (out.set e.2 (pend frm out e))
def ZW(next:List (List Nat))(frm:Nat):List Int:=bfsL next frm (next.length+1) ((List.replicate next.length false).set frm true) [(frm,frm)] (List.replicate next.length (-1))
theorem Yy{α:Type}(l:List α){i:Nat}(x d:α)(h:i<l.length):(l.set i x).getD i d=x:=by
 rw[gDg,List.getElem?_set_self h];rfl
theorem Ua{α:Type}(l:List α){i j:Nat}(x d:α)(h:i≠j):(l.set i x).getD j d=l.getD j d:=by
 rw[gDg,List.getElem?_set_ne h,← gDg]
theorem ZeB{α:Type}(l:List α){i:Nat}(d e:α)(h:i<l.length):l.getD i d=l.getD i e:=by
 simp[List.getD_eq_getElem?_getD,h]
structure BfJ(next:List (List Nat))(frm n:Nat)(cur:Nat)(done:List Nat)(d:Int)(s:List Bool)(q:List (Nat × Nat))(out:List Int):Prop where
 ls:s.length=n
 lo:out.length=n
 frms:s.getD frm false=true
 qlt:∀ e∈q,e.2<n∧s.getD e.2 false=true∧out.getD e.2 (-1) = -1∧(e.2≠frm→e.1<n∧0≤out.getD e.1 (-1)∧e.2∈next.getD e.1 [])
 nod:(q.map (·.2)).Nodup
 fsn:∀ v,v<n→s.getD v false=true→0≤out.getD v (-1)∨∃ e∈q,e.2=v
 uns:∀ v,v<n→s.getD v false=false→out.getD v (-1) = -1
 srt:(q.map (pend frm out)).Pairwise (·≤·)
 qb:∀ e∈q,d≤pend frm out e∧pend frm out e≤d+1
 vis:∀ v,v<n→out.getD v (-1)≤d
 edg:∀ u,u<n→0≤out.getD u (-1)→∀ w∈next.getD u [],(u=cur→w∈done)→s.getD w false=true∧out.getD w (-1)≤out.getD u (-1)+1∧∀ e∈q,e.2=w→pend frm out e≤out.getD u (-1)+1
 par:∀ v,v<n→0≤out.getD v (-1)→v≠frm→∃ f,f<n∧0≤out.getD f (-1)∧v∈next.getD f []∧out.getD v (-1)=out.getD f (-1)+1
 zer:0≤out.getD frm (-1)→out.getD frm (-1)=0
 low:∀ v,-1≤out.getD v (-1)
theorem BfJ.seen{next:List (List Nat)}{frm n cur:Nat}{done:List Nat}{d:Int}{s:List Bool}{q:List (Nat × Nat)}{out:List Int}{w:Nat}(h:BfJ next frm n cur done d s q out)(hd:out.getD cur (-1)=d)(hw:w<n)(hs:s.getD w false=true):BfJ next frm n cur (done++[w]) d s q out:=by
 refine { h with edg:=fun u hu hv w' hw' hc=>?_ }
 by_cases huc:u=cur
 ·rcases List.mem_append.1 (hc huc) with h1 | h1
  ·exact h.edg u hu hv w' hw' (fun _=>h1)
  ·obtain rfl:=List.mem_singleton.1 h1
   subst huc
   rw[hd]
   refine⟨hs,by have:=h.vis w' hw;omega,fun e he _=>(h.qb e he).2⟩
 ·exact h.edg u hu hv w' hw' (fun e=>absurd e huc)
theorem BfJ.push{next:List (List Nat)}{frm n cur:Nat}{done:List Nat}{d:Int}{s:List Bool}{q:List (Nat × Nat)}{out:List Int}{w:Nat}(h:BfJ next frm n cur done d s q out)(hd:out.getD cur (-1)=d)(hd0:0≤d)(hcn:cur<n)(hw:w<n)(hm:w∈next.getD cur [])(hs:s.getD w false=false):BfJ next frm n cur (done++[w]) d (s.set w true) (q++[(cur,w)]) out:=by
 have hwf:w≠frm:=fun e=>by rw[e,h.frms]at hs;cases hs
 have hp:pend frm out (cur,w)=d+1:=by unfold pend;rw[if_neg hwf,hd]
 have hset:∀ v,(s.set w true).getD v false=true↔s.getD v false=true∨v=w:=fun v=>by
  by_cases e:w=v
  ·subst e;rw[Yy _ _ _ (by rw[h.ls];exact hw)];simp
  ·rw[Ua _ _ _ e]
   constructor
   ·exact fun h=>.inl h
   ·rintro(h | h)
    ·exact h
    ·exact absurd h.symm e
 have hmq:∀ e∈q++[(cur,w)],e∈q∨e=(cur,w):=fun e he=>by
  rcases List.mem_append.1 he with h1 | h1
  ·exact .inl h1
  ·exact .inr (List.mem_singleton.1 h1)
 refine { ls:=by rw[List.length_set];exact h.ls,lo:=h.lo,frms:=(hset frm).2 (.inl h.frms),qlt:=fun e he=>?_,nod:=?_,fsn:=fun v hv hsv=>?_,uns:=fun v hv hsv=>?_,srt:=?_,qb:=fun e he=>?_,vis:=h.vis,edg:=fun u hu hv w' hw' hc=>?_,par:=h.par,zer:=h.zer,low:=h.low }
 ·rcases hmq e he with h1 | rfl
  ·obtain⟨a,b,c,g⟩:=h.qlt e h1
   exact⟨a,(hset _).2 (.inl b),c,g⟩
  ·exact⟨hw,(hset _).2 (.inr rfl),h.uns w hw hs,fun _=>⟨hcn,by rw[hd];exact hd0,hm⟩⟩
 ·rw[List.map_append]
  refine List.nodup_append.2 ⟨h.nod,by simp,fun a ha b hb=>?_⟩
  obtain⟨e,he,rfl⟩:=List.mem_map.1 ha
  have:b=w:=by simpa using hb
  subst this
  intro e'
  have:=(h.qlt e he).2.1
  rw[e',hs]at this;cases this
 ·rcases(hset v).1 hsv with h1 | rfl
  ·rcases h.fsn v hv h1 with h2 | ⟨e,he,h2⟩
   ·exact .inl h2
   ·exact .inr ⟨e,List.mem_append_left _ he,h2⟩
  ·exact .inr ⟨(cur,v),List.mem_append_right _ (List.mem_singleton.2 rfl),rfl⟩
 ·refine h.uns v hv ?_
  cases e:s.getD v false
  ·rfl
  ·rw[(hset v).2 (.inl e)]at hsv;cases hsv
 ·rw[List.map_append]
  refine List.pairwise_append.2 ⟨h.srt,by simp,fun a ha b hb=>?_⟩
  obtain⟨e,he,rfl⟩:=List.mem_map.1 ha
  have:b=d+1:=by
   have:=List.mem_singleton.1 (show b∈[pend frm out (cur,w)] from hb)
   rw[this,hp]
  rw[this]
  exact(h.qb e he).2
 ·rcases hmq e he with h1 | rfl
  ·exact h.qb e h1
  ·rw[hp];omega
 ·by_cases hww:w'=w∧u=cur
  ·obtain⟨rfl,rfl⟩:=hww
   rw[hd]
   refine⟨(hset _).2 (.inr rfl),by rw[h.uns _ hw hs];omega,fun e he _=>?_⟩
   rcases hmq e he with h1 | rfl
   ·exact(h.qb e h1).2
   ·rw[hp];omega
  ·have hold:=h.edg u hu hv w' hw' (fun e=>by
    rcases List.mem_append.1 (hc e) with h1 | h1
    ·exact h1
    ·exact absurd ⟨List.mem_singleton.1 h1,e⟩ hww)
   refine⟨(hset _).2 (.inl hold.1),hold.2.1,fun e he hew=>?_⟩
   rcases hmq e he with h1 | rfl
   ·exact hold.2.2 e h1 hew
   ·have hew':w=w':=hew
    rw[← hew',hs]at hold
    cases hold.1
theorem BfJ.pushes{next:List (List Nat)}{frm n cur:Nat}{d:Int}{out:List Int}(hd:out.getD cur (-1)=d)(hd0:0≤d)(hcn:cur<n):∀ (l done:List Nat) (s:List Bool) (q:List (Nat × Nat)),BfJ next frm n cur done d s q out→(∀ w∈l,w<n∧w∈next.getD cur []) →
  BfJ next frm n cur (done++l) d (ZR cur l s q).1 (ZR cur l s q).2 out
 | [],done,s,q,h,_=>by rw[List.append_nil];exact h
 | w::l,done,s,q,h,hl=>by
  obtain⟨hw,hm⟩:=hl w (List.mem_cons_self ..)
  have hl':∀ w∈l,w<n∧w∈next.getD cur []:=fun x hx=>hl x (List.mem_cons_of_mem _ hx)
  rw[show done++w::l=(done++[w])++l by simp]
  unfold ZR
  rw[ZeB s true false (by rw[h.ls];exact hw)]
  cases hs:s.getD w false
  ·exact BfJ.pushes hd hd0 hcn l _ _ _ (h.push hd hd0 hcn hw hm hs) hl'
  ·exact BfJ.pushes hd hd0 hcn l _ _ _ (h.seen hd hw hs) hl'
theorem BfJ.pop{next:List (List Nat)}{frm n cur:Nat}{d:Int}{s:List Bool}{q:List (Nat × Nat)}{out:List Int}{e:Nat × Nat}(h:BfJ next frm n cur (next.getD cur []) d s (e::q) out)(hd0:0≤pend frm out e)(_hfn:frm<n) :
  BfJ next frm n e.2 [] (pend frm out e) s q (out.set e.2 (pend frm out e))∧(out.set e.2 (pend frm out e)).getD e.2 (-1)=pend frm out e:=by
 obtain⟨hv,hsv,hov,hpar⟩:=h.qlt e (List.mem_cons_self ..)
 have hsame:(out.set e.2 (pend frm out e)).getD e.2 (-1)=pend frm out e:=Yy _ _ _ (by rw[h.lo];exact hv)
 have hoth:∀ u,u≠e.2→(out.set e.2 (pend frm out e)).getD u (-1)=out.getD u (-1):=fun u hu=>Ua _ _ _ (Ne.symm hu)
 have hnq:∀ e'∈q,e'.2≠e.2:=fun e' he' he=>by
  have:=(List.nodup_cons.1 h.nod).1
  exact this (List.mem_map.2 ⟨e',he',he⟩)
 have hpe:∀ e'∈q,pend frm (out.set e.2 (pend frm out e)) e'=pend frm out e':=fun e' he'=>by
  by_cases hf:e'.2=frm
  ·unfold pend;rw[if_pos hf,if_pos hf]
  ·have h1:=((h.qlt e' (List.mem_cons_of_mem _ he')).2.2.2 hf).2.1
   have hne:e'.1≠e.2:=fun he=>by rw[he,hov]at h1;omega
   unfold pend
   rw[if_neg hf,if_neg hf,← hoth _ hne];rfl
 have hqb:=fun e' (he':e'∈q)=>And.intro (List.rel_of_pairwise_cons h.srt (List.mem_map_of_mem he')) (h.qb e' (List.mem_cons_of_mem _ he'))
 have hqe:=h.qb e (List.mem_cons_self ..)
 refine⟨?_,hsame⟩
 refine { ls:=h.ls,lo:=by rw[List.length_set];exact h.lo,frms:=h.frms,qlt:=fun e' he'=>?_,nod:=(List.nodup_cons.1 h.nod).2,fsn:=fun v hv' hs'=>?_,uns:=fun v hv' hs'=>?_,srt:=?_,qb:=fun e' he'=>?_,vis:=fun v hv'=>?_,edg:=fun u hu hvu w hw hc=>?_,par:=fun v hv' hvv hf=>?_,zer:=fun hz=>?_,low:=fun v=>?_ }
 ·obtain⟨a,b,c,g⟩:=h.qlt e' (List.mem_cons_of_mem _ he')
  refine⟨a,b,by rw[hoth _ (hnq e' he')];exact c,fun hf=>?_⟩
  obtain⟨g1,g2,g3⟩:=g hf
  refine⟨g1,?_,g3⟩
  rw[hoth _ (fun he=>by rw[he,hov]at g2;omega)]
  exact g2
 ·by_cases hve:v=e.2
  ·subst hve;rw[hsame];exact .inl hd0
  ·rw[hoth _ hve]
   rcases h.fsn v hv' hs' with h1 | ⟨e',he',h1⟩
   ·exact .inl h1
   ·rcases List.mem_cons.1 he' with rfl | he'
    ·exact absurd h1.symm hve
    ·exact .inr ⟨e',he',h1⟩
 ·have hve:v≠e.2:=fun he=>by rw[he,hsv]at hs';cases hs'
  rw[hoth _ hve];exact h.uns v hv' hs'
 ·rw[List.map_congr_left hpe]
  exact(List.pairwise_cons.1 h.srt).2
 ·rw[hpe e' he']
  have:=hqb e' he'
  omega
 ·by_cases hve:v=e.2
  ·subst hve;rw[hsame];omega
  ·rw[hoth _ hve];have:=h.vis v hv';omega
 ·by_cases hue:u=e.2
  ·exact absurd (hc hue) (by simp)
  ·rw[hoth _ hue]at hvu ⊢
   have hold:=h.edg u hu hvu w hw (fun hcu=>by subst hcu;exact hw)
   refine⟨hold.1,?_,fun e' he' hew=>by rw[hpe e' he'];exact hold.2.2 e' (List.mem_cons_of_mem _ he') hew⟩
   by_cases hwe:w=e.2
   ·subst hwe;rw[hsame];exact hold.2.2 e (List.mem_cons_self ..) rfl
   ·rw[hoth _ hwe];exact hold.2.1
 ·by_cases hve:v=e.2
  ·subst hve
   obtain⟨g1,g2,g3⟩:=hpar hf
   refine⟨e.1,g1,?_,g3,?_⟩
   ·rw[hoth _ (fun he=>by rw[he,hov]at g2;omega)];exact g2
   ·rw[hsame,hoth _ (fun he=>by rw[he,hov]at g2;omega)]
    unfold pend;rw[if_neg hf]
  ·rw[hoth _ hve]at hvv ⊢
   obtain⟨f,f1,f2,f3,f4⟩:=h.par v hv' hvv hf
   have hfe:f≠e.2:=fun he=>by rw[he,hov]at f2;omega
   exact⟨f,f1,by rw[hoth _ hfe];exact f2,f3,by rw[hoth _ hfe];exact f4⟩
 ·by_cases hfe:frm=e.2
  ·have h9:pend frm out e=0:=by unfold pend;rw[if_pos hfe.symm]
   rw[h9]at hsame ⊢
   rw[hfe];exact hsame
  ·rw[hoth _ hfe]at hz ⊢;exact h.zer hz
 ·by_cases hve:v=e.2
  ·subst hve;rw[hsame];omega
  ·rw[hoth _ hve];exact h.low v
theorem Yu(v:Nat):∀ (l:List Nat) (s:List Bool) (q:List (Nat × Nat)),(∀ w∈l,w<s.length)→(ZR v l s q).1.count false+(ZR v l s q).2.length=s.count false+q.length∧(ZR v l s q).1.length=s.length
 | [],_,_,_=>⟨rfl,rfl⟩
 | w::l,s,q,h=>by
  have hw:=h w (List.mem_cons_self ..)
  unfold ZR
  rw[ZeB s true false hw]
  cases hs:s.getD w false
  ·obtain⟨h1,h2⟩:=Yu v l (s.set w true) (q++[(v,w)]) (fun x hx=>by rw[List.length_set];exact h x (List.mem_cons_of_mem _ hx))
   rw[List.length_set]at h2
   refine⟨?_,h2⟩
   rw[List.length_append,List.length_singleton]at h1
   have hg:s[w]=false:=by simpa[List.getD_eq_getElem?_getD,hw] using hs
   have h3:=List.count_set (a:=true) (b:=false) hw
   rw[hg]at h3
   have h4:0<s.count false:=List.count_pos_iff.2 (by rw[← hg];exact List.getElem_mem hw)
   simp at h3
   simp only[if_false,Bool.false_eq_true]
   omega
  ·exact Yu v l s q (fun x hx=>h x (List.mem_cons_of_mem _ hx))
theorem Zdj{next:List (List Nat)}{frm n:Nat}(hfn:frm<n)(hnx:∀ v,∀ w∈next.getD v [],w<n):∀ (k cur:Nat) (d:Int) (s:List Bool) (q:List (Nat × Nat)) (out:List Int),0≤d→BfJ next frm n cur (next.getD cur []) d s q out→s.count false+q.length<k →
  ∃ cur' d' s',BfJ next frm n cur' (next.getD cur' []) d' s' [] (bfsL next frm k s q out)
 | 0,_,_,_,_,_,_,_,h=>absurd h (by omega)
 | k+1,cur,d,s,[],out,_,h,_=>⟨cur,d,s,h⟩
 | k+1,cur,d,s,e::q,out,hd,h,hk=>by
  have hd0:0≤pend frm out e:=by have:=(h.qb e (List.mem_cons_self ..)).1;omega
  obtain⟨h1,h2⟩:=h.pop hd0 hfn
  have he:=(h.qlt e (List.mem_cons_self ..)).1
  have h3:=BfJ.pushes h2 hd0 he (next.getD e.2 []) [] s q h1 (fun w hw=>⟨hnx _ w hw,hw⟩)
  obtain⟨h4,-⟩:=Yu e.2 (next.getD e.2 []) s q (fun w hw=>by rw[h.ls];exact hnx _ w hw)
  rw[List.nil_append]at h3
  refine Zdj hfn hnx k e.2 _ _ _ _ hd0 h3 ?_
  rw[List.length_cons]at hk
  omega
theorem ZiI{next:List (List Nat)}{frm:Nat}(hfn:frm<next.length)(hnx:∀ v,∀ w∈next.getD v [],w<next.length) :
    (ZW next frm).length=next.length∧(ZW next frm).getD frm (-1)=0 ∧
    (∀ u,u<next.length→0≤(ZW next frm).getD u (-1)→∀ w∈next.getD u [],0≤(ZW next frm).getD w (-1)∧(ZW next frm).getD w (-1)≤(ZW next frm).getD u (-1)+1) ∧
    (∀ v,v<next.length→0≤(ZW next frm).getD v (-1)→v≠frm→∃ f,f<next.length∧0≤(ZW next frm).getD f (-1)∧v∈next.getD f []∧(ZW next frm).getD v (-1)=(ZW next frm).getD f (-1)+1):=by
  have hr:∀ v,(List.replicate next.length (-1:Int)).getD v (-1) = -1:=fun v=>by
    rw[gDg,List.getElem?_replicate];split <;> rfl
  have hp:pend frm (List.replicate next.length (-1)) (frm,frm)=0:=by unfold pend;rw[if_pos rfl]
  have h0:BfJ next frm next.length next.length (next.getD next.length []) 0 ((List.replicate next.length false).set frm true) [(frm,frm)] (List.replicate next.length (-1)):=
    { ls := by simp, lo := by simp, frms := Yy _ _ _ (by simpa using hfn)
      qlt:=fun e he=>by
        obtain rfl:=List.mem_singleton.1 he
        exact⟨hfn,Yy _ _ _ (by simpa using hfn),hr _,fun h=>absurd rfl h⟩
      nod:=by simp
      fsn:=fun v _ hs=>by
        by_cases hv:frm=v
        · exact .inr ⟨(frm,frm),List.mem_singleton.2 rfl,hv⟩
        · rw[Ua _ _ _ hv,gDg,List.getElem?_replicate]at hs
          split at hs <;> cases hs
      uns:=fun v _ _=>hr v
      srt:=by simp
      qb:=fun e he=>by
        obtain rfl:=List.mem_singleton.1 he
        rw[hp];omega
      vis:=fun v _=>by rw[hr];omega
      edg:=fun u _ hv=>by rw[hr]at hv;omega
      par:=fun v _ hv=>by rw[hr]at hv;omega
      zer:=fun hv=>by rw[hr]at hv;omega
      low:=fun v=>by rw[hr];exact Int.le_refl _ }
  have hc:((List.replicate next.length false).set frm true).count false+[(frm,frm)].length<next.length+1:=by
    have h3:=List.count_set (l:=List.replicate next.length false) (a:=true) (b:=false) (i:=frm) (by simpa using hfn)
    simp at h3
    rw[h3]
    simp
    omega
  obtain⟨cur,d,s,h⟩:=Zdj hfn hnx (next.length+1) next.length 0 _ _ _ (Int.le_refl 0) h0 hc
  have hvis:∀ v,v<next.length→s.getD v false=true→0≤(ZW next frm).getD v (-1):=fun v hv hs=>by
    rcases h.fsn v hv hs with h1 | ⟨e,he,-⟩
    · exact h1
    · cases he
  refine⟨h.lo,h.zer (hvis frm hfn h.frms),fun u hu hv w hw=>?_,h.par⟩
  obtain⟨h1,h2,-⟩:=h.edg u hu hv w hw (fun hc=>by subst hc;exact hw)
  exact⟨hvis w (hnx u w hw) h1,h2⟩
end FF
end
namespace Go.Proofs.YthkklilhjnpedaaGreatDoor
section
open Go.RowKit FF
theorem Zcj(w:World)(g o:Nat)(v:Value):w.grownBy (w.setCell ⟨g,o,none⟩ v) (some g):=
 ⟨rfl,rfl,rfl,by simp[World.setCell],fun k _ hk=>Below.heap_setCell _ _ _ _ (fun e=>hk (by rw[e]))⟩
theorem U2(g:Nat):∀ (vs:List Value) (o:Nat) (w:World),w.grownBy (w.setCells g o vs) (some g)∧(w.setCells g o vs).heap.size=w.heap.size
 | [],_,w=>⟨⟨rfl,rfl,rfl,nlr _,fun _ _ _=>rfl⟩,rfl⟩
 | v::r,o,w=>by
  obtain⟨h1,h2⟩:=U2 g r (o+1) (w.setCell ⟨g,o,none⟩ v)
  have h0:=Zcj w g o v
  have hs:(w.setCell ⟨g,o,none⟩ v).heap.size=w.heap.size:=by simp[World.setCell]
  refine⟨⟨h1.os.trans h0.os,h1.tape.trans h0.tape,h1.output.trans h0.output,Nat.le_trans h0.size h1.size,fun k hk hne=>(h1.block k (by omega) hne).trans (h0.block k hk hne)⟩,h2.trans hs⟩
def pcs(e:Nat × Nat):List Value:=[.int .i64 (e.1:Int),.int .i64 (e.2:Int)]
theorem UT:∀ xs:List (Nat × Nat),(xs.flatMap pcs).length=xs.length*2
 | []=>rfl
 | e::xs=>by rw[List.flatMap_cons,List.length_append,UT xs,List.length_cons];simp only[pcs,List.length_cons,List.length_nil];omega
theorem pcs_one(xs:List (Nat × Nat)):∀ u∈xs.flatMap pcs,u.oneCell'=true:=fun u hu=>by
 obtain⟨e,-,he⟩:=List.mem_flatMap.1 hu
 simp only[pcs,List.mem_cons,List.not_mem_nil,or_false]at he
 rcases he with rfl | rfl <;> rfl
def Yz(cur:Array Value):Nat→List Value→Array Value
 | _,[]=>cur
 | o,u::r=>Yz (cur.setIfInBounds o u) (o+1) r
theorem KP:∀ (cs:List Value) (cur:Array Value) (o:Nat),(Yz cur o cs).size=cur.size
 | [],_,_=>rfl
 | u::r,cur,o=>by rw[Yz,KP r];simp
theorem ZaI:∀ (cs:List Value) (cur:Array Value) (o j:Nat),(j<o∨o+cs.length≤j)→(Yz cur o cs)[j]?=cur[j]?
 | [],_,_,_,_=>rfl
 | u::r,cur,o,j,h=>by
  rw[List.length_cons]at h
  rw[Yz,ZaI r _ (o+1) j (by omega),Array.getElem?_setIfInBounds,if_neg (by omega)]
theorem ZbO:∀ (cs:List Value) (cur:Array Value) (o j:Nat) (u:Value),o+cs.length≤cur.size→cs[j]?=some u→(Yz cur o cs)[o+j]?=some u
 | [],_,_,j,u,_,h=>by simp at h
 | v::r,cur,o,0,u,hs,h=>by
  have hv:v=u:=by simpa using h
  rw[List.length_cons]at hs
  show(Yz cur o (v::r))[o]?=some u
  rw[Yz,ZaI r _ (o+1) o (.inl (by omega)),Array.getElem?_setIfInBounds,if_pos rfl,if_pos (by omega),hv]
 | v::r,cur,o,j+1,u,hs,h=>by
  rw[List.length_cons]at hs
  rw[Yz,show o+(j+1)=o+1+j by omega]
  exact ZbO r _ (o+1) j u (by rw[Array.size_setIfInBounds];omega) (by simpa using h)
theorem YA{T:TypeId}{fz:Nat × Nat}{g:Nat}:∀ (cs:List Value) (o:Nat) (W:World) (cur:Array Value),W.heap[g]?=some (.cells cur T fz)→(W.setCells g o cs).heap[g]?=some (.cells (Yz cur o cs) T fz)
 | [],_,_,_,h=>h
 | u::r,o,W,cur,h=>by
  rw[World.setCells,Yz]
  refine YA r (o+1) _ _ ?_
  simp[World.setCell,Array.getElem?_modify,h]
def QuP(base g:Nat)(v:Value)(xs:List (Nat × Nat))(w:World):Prop:=
 ∃ off cap cur,v=.slice (some ⟨g,off,none⟩) xs.length cap∧base≤g∧w.heap[g]?=some (.cells cur 163 (0,0))∧xs.length≤cap∧cap≤maxLen∧off+cap*2≤cur.size∧∀ j u,(xs.flatMap pcs)[j]?=some u→cur[off+j]?=some u
section
variable {base g:Nat}{v:Value}{xs:List (Nat × Nat)}{w w':World}
theorem QuP.of_block(h:QuP base g v xs w)(hb:w'.heap[g]?=w.heap[g]?):QuP base g v xs w':=by
 obtain⟨off,cap,cur,h1,h2,h3,h4⟩:=h
 exact⟨off,cap,cur,h1,h2,hb.trans h3,h4⟩
theorem QuP.lt(h:QuP base g v xs w):g<w.heap.size:=by obtain⟨off,cap,cur,h1,h2,h3,-⟩:=h;exact(Array.getElem?_eq_some_iff.1 h3).1
theorem QuP.ge(h:QuP base g v xs w):base≤g:=by obtain⟨off,cap,cur,h1,h2,-⟩:=h;exact h2
theorem QuP.keep(h:QuP base g v xs w)(hb:Below w.heap.size w w'):QuP base g v xs w':=h.of_block (hb.block g h.lt)
theorem QuP.alt{row:Option Nat}(h:QuP base g v xs w)(ha:Alt row w w')(hn:row≠some g):QuP base g v xs w':=h.of_block (ha.block g h.lt (fun e=>hn e.symm))
theorem QuP.tag(h:QuP base g v xs w):∃ cur,w.heap[g]?=some (.cells cur 163 (0,0)):=by obtain⟨off,cap,cur,h1,h2,h3,-⟩:=h;exact⟨cur,h3⟩
theorem QuP.form(h:QuP base g v xs w):∃ off cap,v=.slice (some ⟨g,off,none⟩) xs.length cap∧xs.length≤cap∧cap≤maxLen:=by
 obtain⟨off,cap,cur,h1,h2,h3,h4,h5,-⟩:=h
 exact⟨off,cap,h1,h4,h5⟩
theorem QuP.head{off n cap:Nat}{e:Nat × Nat}(h:QuP base g (.slice (some ⟨g,off,none⟩) n cap) (e::xs) w):w.cell? ⟨g,off,none⟩=some (.int .i64 (e.1:Int))∧w.cell? ⟨g,off+1,none⟩=some (.int .i64 (e.2:Int)):=by
 obtain⟨off',cap',cur,h1,h2,h3,h4,h5,h6,h7⟩:=h
 injection h1 with e1 e2 e3
 injection e1 with e1
 injection e1 with _ e1
 subst e1
 have a0:=h7 0 (.int .i64 (e.1:Int)) (by simp[pcs])
 have a1:=h7 1 (.int .i64 (e.2:Int)) (by simp[pcs])
 simp only[World.cell?,h3]
 rw[if_neg (by simp)]
 exact⟨a0,a1⟩
theorem QuP.new(e:Nat × Nat)(h:base≤w.heap.size):QuP base w.heap.size (.slice (some ⟨w.heap.size,0,none⟩) 1 1) [e] (w.alloc (.cells #[.int .i64 (e.1:Int),.int .i64 (e.2:Int)] 163)):=by
 refine⟨0,1,_,rfl,h,heap_alloc_new w _,by simp,by unfold maxLen;omega,by simp,fun j u hj=>?_⟩
 rw[Nat.zero_add]
 rw[List.flatMap_cons,List.flatMap_nil,List.append_nil]at hj
 rw[← hj]
 rcases j with _ | _ | j <;> rfl
theorem QuP.tail{off cap:Nat}{e:Nat × Nat}(h:QuP base g (.slice (some ⟨g,off,none⟩) (e::xs).length cap) (e::xs) w){o2:Nat}(ho:(cap=1∧o2=off)∨o2=off+2):QuP base g (.slice (some ⟨g,o2,none⟩) xs.length (cap-1)) xs w:=by
 obtain⟨off',cap',cur,h1,h2,h3,h4,h5,h6,h7⟩:=h
 injection h1 with e1 e2 e3
 injection e1 with e1
 injection e1 with _ e1
 subst e1 e3
 rw[List.length_cons]at h4
 refine⟨o2,cap-1,cur,rfl,h2,h3,by omega,by omega,by rcases ho with⟨hc,rfl⟩ | rfl <;> omega,fun j u hj=>?_⟩
 have:=h7 (j+2) u (by rw[List.flatMap_cons,List.getElem?_append_right (by simp[pcs])];simpa[pcs] using hj)
 rcases ho with⟨hc,rfl⟩ | rfl
 ·have hx:xs=[]:=List.eq_nil_of_length_eq_zero (by omega)
  subst hx;simp at hj
 ·rw[← this];congr 1;omega
theorem ZaJ:(Tryz.prog.info? 163).map (fun i=>(i.zero,i.size,i.bytes))=some (some (.agg #[.int .i64 0,.int .i64 0]),2,16):=by kernel_rfl
theorem ZcJ(ty:TypeId)(h:QuP base g v xs w)(hb:base≤w.heap.size)(e:Nat × Nat){b c:Nat}(h0:w.cell? ⟨b,0,none⟩=some (.int .i64 (e.1:Int)))(h1:w.cell? ⟨b,1,none⟩=some (.int .i64 (e.2:Int)))(hl:xs.length≤1000000) :
  ∃ v' w' g',(Builtin.append_ #[164,164] ty #[v,.slice (some ⟨b,0,none⟩) 1 c]).run Tryz.prog w=.ok v' w'∧QuP base g' v' (xs++[e]) w'∧w.grownBy w' (some g):=by
 obtain⟨i,hi,hz,hsize,hby⟩:=info_parts ZaJ
 have hs:Src Tryz.prog i.size 164 (.slice (some ⟨b,0,none⟩) 1 c) 1 (pcs e) w:=by
  rw[hsize]
  refine Src.ofSlice w Tryz.underlying164 _ 1 c (pcs e) rfl (fun j u hj=>?_) (fun u hu=>pcs_one [e] u (by simpa using hu))
  rw[Addr.add_lit,Nat.zero_add]
  rcases j with _ | _ | j
  ·rw[h0,← hj];rfl
  ·rw[h1,← hj];rfl
  ·simp[pcs]at hj
 obtain⟨off,cap,cur,rfl,k2,k3,k4,k5,k6,k7⟩:=h
 have hcell:∀ j,j<cur.size→(w.cell? ⟨g,j,none⟩).isSome=true∧w.frozen? ⟨g,j,none⟩=false:=fun j hj=>by
  simp only[World.cell?,World.frozen?,k3]
  rw[if_neg (by simp),Array.getElem?_eq_getElem hj]
  exact⟨rfl,by simp⟩
 by_cases hr:xs.length+1≤cap
 ·have hrun:=run_append_room_src (P:=Tryz.prog) w 164 164 ty 163 i Tryz.underlying164 hi g off xs.length cap _ 1 (pcs e) hs hr
   (fun j hj=>by rw[hsize];exact(hcell _ (by simp[pcs]at hj;omega)).1) (fun j hj=>by rw[hsize];exact(hcell _ (by simp[pcs]at hj;omega)).2)
  rw[hsize]at hrun
  obtain⟨q1,q2⟩:=U2 g (pcs e) (off+xs.length*2) w
  refine⟨_,_,g,hrun,⟨off,cap,_,by rw[List.length_append,List.length_singleton],k2,YA (pcs e) _ w cur k3,by rw[List.length_append,List.length_singleton];exact hr,k5,by rw[KP];exact k6,fun j u hj=>?_⟩,q1⟩
  have hpl:(pcs e).length=2:=rfl
  rw[List.flatMap_append]at hj
  by_cases hjx:j<xs.length*2
  ·rw[List.getElem?_append_left (by rw[UT];exact hjx)]at hj
   rw[ZaI _ _ _ _ (.inl (by omega))]
   exact k7 j u hj
  ·rw[List.getElem?_append_right (by rw[UT];omega),UT]at hj
   have:=ZbO (pcs e) cur (off+xs.length*2) (j-xs.length*2) u (by rw[hpl];omega) (by simpa using hj)
   rw[show off+xs.length*2+(j-xs.length*2)=off+j by omega]at this
   exact this
 ·have hold:(Builtin.firstCells i.size xs.length (.slice (some ⟨g,off,none⟩) xs.length cap)).run Tryz.prog w.drew=.ok (xs.flatMap pcs).toArray w.drew:=by
   rw[hsize]
   refine run_firstCells_some _ 2 xs.length _ _ _ _ (UT xs) (fun j u hj=>?_)
   rw[Addr.add_lit]
   show w.cell? _=_
   simp only[World.cell?,k3]
   rw[if_neg (by simp)]
   exact k7 j u hj
  have hrun:=run_append_grow_src (P:=Tryz.prog) w 164 164 ty 163 i _ Tryz.underlying164 hi hz (some ⟨g,off,none⟩) xs.length cap (xs.flatMap pcs) hold _ 1 (pcs e) hs (by omega) (by omega) (growslice_fits (by omega) (by rw[hby];omega))
  have hge:=grownCap_ge w (xs.length+1) cap 163
  have hcm:=grownCap_le_maxLen w (xs.length+1) cap 163 (by unfold maxLen;omega)
  refine⟨_,_,w.heap.size,hrun,⟨0,_,_,by rw[List.length_append,List.length_singleton],hb,heap_alloc_new w.drew _,by rw[List.length_append,List.length_singleton];exact hge,hcm,?_,fun j u hj=>?_⟩,⟨rfl,rfl,rfl,by simp,fun k hk _=>Below.heap_alloc w.drew _ k hk⟩⟩
  ·rw[Array.size_append,List.size_toArray,List.length_append,UT,size_zeroCells]
   show 0+_≤_+(pcs e).length+_*2
   have hpl:(pcs e).length=2:=rfl
   rw[hpl];omega
  ·rw[Nat.zero_add,Array.getElem?_append_left,List.getElem?_toArray]
   ·rw[List.flatMap_append]at hj
    simpa using hj
   ·have:=(List.getElem?_eq_some_iff.1 hj).1
    rw[List.flatMap_append]at this
    simpa using this
theorem Zbk{ops:Array Oper}{rest:List Oper}{o:Oper}{a:Act}{Q:Exit→Act→World→Prop}(hgd:o.guard=none)(s x:Operand)(ho:o.op=.call { callee:=.builtin .append,args:=#[s,x],argTypes:=#[164,164] })
  (h:QuP base g v xs w) (hb:base≤w.heap.size) (e:Nat × Nat) (c:Nat) (hs:a.eval s=v) (hx:a.eval x=.slice (some ⟨w.heap.size,0,none⟩) 1 c) (hl:xs.length≤1000000)
  (K:∀ v' w' g',QuP base g' v' (xs++[e]) w'→(w.alloc (.cells #[.int .i64 (e.1:Int),.int .i64 (e.2:Int)] 163)).grownBy w' (some g)→wpList Tryz.prog ops Q rest (a.put o.dst v') w') :
  wpList Tryz.prog ops Q (o::rest) a (w.alloc (.cells #[.int .i64 (e.1:Int),.int .i64 (e.2:Int)] 163)):=by
 refine wpList_plain hgd fun _ hK=>?_
 obtain⟨v',w',g',hrun,k1,k2⟩:=ZcJ o.type (h.keep ((Below.refl _ _).alloc (Nat.le_refl _) (.cells #[.int .i64 (e.1:Int),.int .i64 (e.2:Int)] 163))) (by simp;omega) e (b:=w.heap.size) (c:=c) (by simp[go_sem]) (by simp[go_sem]) hl
 unfold Oper.wp execOp
 simp only[ho,resolve,invoke,builtin,Sem.run_bind,Sem.run_pure,Result.andThen_ok,List.map_toArray,List.map_cons,List.map_nil,hs,hx,hrun]
 exact hK _ _ (K v' w' g' k1 k2)
theorem ZiJ{off n cap:Nat}(hc:n+1≤cap)(hm:cap≤maxLen):∃ o2,((cap=1∧o2=off)∨o2=off+2)∧∀ W,(Instr.sliceAt 164 (.slice (some ⟨g,off,none⟩) (n+1) cap) (some (.int .i64 1)) none none).run Tryz.prog W=.ok (.slice (some ⟨g,o2,none⟩) n (cap-1)) W:=by
 obtain⟨i0,hi0,-,hz1,-⟩:=info_parts ZaJ
 have e1:∀ W,(asIntOf (Value.int IntKind.i64 1)).run Tryz.prog W=.ok (.i64,(1:Int)) W:=fun W=>rfl
 have hk':(1:Int)≤(n:Int)+1:=by omega
 by_cases h1:cap=1
 ·refine⟨off,.inl ⟨h1,rfl⟩,fun W=>?_⟩
  subst h1
  simp[Instr.sliceAt,Instr.slice,Instr.sliceBounds,Instr.sliceBound,run_underlying Tryz.underlying164,sizeOf,typeInfo,hi0,e1,hk',Result.andThen]
 ·refine⟨off+2,.inr rfl,fun W=>?_⟩
  simp[Instr.sliceAt,Instr.slice,Instr.sliceBounds,Instr.sliceBound,run_underlying Tryz.underlying164,sizeOf,typeInfo,hi0,hz1,e1,hk',Result.andThen,h1,Addr.add_lit]
end
end
end Go.Proofs.YthkklilhjnpedaaGreatDoor
