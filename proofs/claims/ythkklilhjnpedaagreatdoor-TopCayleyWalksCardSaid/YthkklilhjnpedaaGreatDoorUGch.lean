/- Graphs: the matrix. -/
import Derived.Test.YthkklilhjnpedaaGreatDoorURpt
import Derived.Test.YthkklilhjnpedaaGreatDoorUVs
import Derived.Maps.Own
import Derived.Maps.OwnOps
import Derived.Maps.OwnSet
import Derived.Maps.Views
import Derived.Test.YthkklilhjnpedaaGreatDoorUShelf
set_option maxHeartbeats 16000000
set_option maxRecDepth 8000
namespace Go.Proofs.YthkklilhjnpedaaGreatDoor
section
open Go.RowKit FF
open Go.Maps (Keyed string_keyed)
def eNum:El Int where
 T:=3
 n:=1
 bytes:=8
 z:=.int .i64 0
 E:=fun x cs _=>cs=[.int .i64 x]
 Bad:=fun _=>False
 pos:=by decide
 small:=by decide
 zn:=rfl
 zg:=fun _ _ h=>h
 len:=by rintro x cs W rfl;rfl
 one:=by
  rintro x cs W rfl y hy
  obtain rfl:=List.mem_singleton.1 hy
  exact⟨rfl,fun h=>h⟩
 alt:=fun h _ _=>h
theorem eNum_bad(x:Int)(cs:List Value)(W:World)(h:eNum.E x cs W):∃ u r,cs=u::r∧KJ u:=by
 obtain rfl:cs=[.int .i64 x]:=h
 exact⟨_,_,rfl,fun ⟨A,n,c,e⟩=>by cases e⟩
def eRow:El (List Int):=eSl eNum 40 eNum_bad (fun _ h=>h.elim)
def eStr:El (List UInt8) where
 T:=9
 n:=1
 bytes:=16
 z:=.string ⟨#[]⟩
 E:=fun s cs _=>cs=[.string ⟨s.toArray⟩]
 Bad:=fun _=>False
 pos:=by decide
 small:=by decide
 zn:=rfl
 zg:=fun _ _ h=>h
 len:=by rintro x cs W rfl;rfl
 one:=by
  rintro x cs W rfl y hy
  obtain rfl:=List.mem_singleton.1 hy
  exact⟨rfl,fun h=>h⟩
 alt:=fun h _ _=>h
def NP(l:List Int):Value→World→Prop:=Sl eNum l
theorem Zv{l:List Int}{A:Option Addr}{n c:Nat}{W:World}(h:NP l (.slice A n c) W){i:Nat}{z:Int}(hi:l[i]?=some z):∃ b o,A=some ⟨b,o,none⟩∧b<W.heap.size∧W.cell? ⟨b,o+i,none⟩=some (.int .i64 z):=by
 obtain⟨b,o,cs,e,hb,hcs,hc⟩:=Sl.at h hi
 obtain rfl:cs=[.int .i64 z]:=hcs
 have:=hc 0 _ rfl
 rw[show o+i*eNum.n+0=o+i from by show o+i*1+0=o+i;omega]at this
 exact⟨b,o,e,hb,this⟩
theorem Zc3{l:List (List UInt8)}{A:Option Addr}{n c:Nat}{W:World}(h:Sl eStr l (.slice A n c) W){i:Nat}{z:List UInt8}(hi:l[i]?=some z):∃ b o,A=some ⟨b,o,none⟩∧b<W.heap.size∧W.cell? ⟨b,o+i,none⟩=some (.string ⟨z.toArray⟩):=by
 obtain⟨b,o,cs,e,hb,hcs,hc⟩:=Sl.at h hi
 obtain rfl:cs=[.string ⟨z.toArray⟩]:=hcs
 have:=hc 0 _ rfl
 rw[show o+i*eStr.n+0=o+i from by show o+i*1+0=o+i;omega]at this
 exact⟨b,o,e,hb,this⟩
theorem ZP{l:List (List Int)}{A:Option Addr}{n c:Nat}{W:World}(h:Sl eRow l (.slice A n c) W){i:Nat}{z:List Int}(hi:l[i]?=some z):∃ b o u,A=some ⟨b,o,none⟩∧b<W.heap.size∧W.cell? ⟨b,o+i,none⟩=some u∧NP z u W:=by
 obtain⟨b,o,cs,e,hb,⟨u,rfl,hu⟩,hc⟩:=Sl.at h hi
 have:=hc 0 _ rfl
 rw[show o+i*eRow.n+0=o+i from by show o+i*1+0=o+i;omega]at this
 exact⟨b,o,u,e,hb,this,hu⟩
def GV(names:List (List UInt8))(edges:List (List Int))(a b:Value)(W:World):Prop:=Sl eStr names a W∧Sl eRow edges b W
theorem GV.keep{names:List (List UInt8)}{edges:List (List Int)}{a b:Value}{W W':World}(h:GV names edges a b W)(hb:Below W.heap.size W W'):GV names edges a b W':=⟨h.1.keep hb,h.2.keep hb⟩
def GBox(R:Nat)(a b:Value)(W:World):Prop:=R<W.heap.size∧W.cell? ⟨R,0,none⟩=some a∧W.cell? ⟨R,1,none⟩=some b
theorem GBox.keep{R:Nat}{a b:Value}{W W':World}(h:GBox R a b W)(hb:Below W.heap.size W W'):GBox R a b W':=⟨nLl h.1 hb.size,(hb.cell (p:=⟨R,0,none⟩) h.1).trans h.2.1,(hb.cell (p:=⟨R,1,none⟩) h.1).trans h.2.2⟩
theorem GBox.new{a b:Value}{W:World}:GBox W.heap.size a b (W.alloc (.cells #[a,b] 33)):=⟨by simp,by simp[go_sem],by simp[go_sem]⟩
theorem Ks{A:Option Addr}{n c:Nat}{b:Value}{x:Int}(h0:0≤x)(h1:x<n)(w:World):Calls Tryz.prog 43 #[.agg #[.slice A n c,b],.int .i64 x] w (Zb (VC (.bool true)) w):=by
 have d1:decide ((0:Int)≤x)=true:=deT h0
 have d2:decide (x<(n:Int))=true:=deT h1
 clear h0 h1
 go_enter Tryz.func43,Tryz.ntmps43
 go_wp2_with fail
 go_ret
 exact⟨_,rfl,rfl,(brf _ _).alloc (nlr _) _⟩
def ascL:List Int→Bool
 | x::y::l=>decide (x≤y) && ascL (y::l)
 | _=>true
theorem Zgf:∀ {l:List Int} {i:Nat} {x y:Int},ascL l=true→l[i]?=some x→l[i+1]?=some y→x≤y
 | [],_,_,_,_,h,_=>by simp at h
 | [_],i,_,_,_,_,h=>by simp at h
 | a::b::l,0,x,y,h,hx,hy=>by
  unfold ascL at h
  rw[Bool.and_eq_true]at h
  have e1:a=x:=by simpa using hx
  have e2:b=y:=by simpa using hy
  rw[← e1,← e2];exact of_decide_eq_true h.1
 | a::b::l,i+1,x,y,h,hx,hy=>by
  unfold ascL at h
  rw[Bool.and_eq_true]at h
  exact Zgf (l:=b::l) (i:=i) h.2 (by simpa using hx) (by simpa using hy)
def rowOk(n:Nat)(l:List Int):Bool:=decide (l.length≤400) && l.all (fun v=>decide (0≤v) && decide (v<n)) && ascL l
theorem Zfl{A:Option Addr}{n c:Nat}{b v:Value}{l:List Int}{w:World}(hv:NP l v w)(hok:rowOk n l=true):Calls Tryz.prog 72 #[.agg #[.slice A n c,b],v] w (Zb (VC (.int .i64 0)) w):=by
 unfold rowOk at hok
 simp only[Bool.and_eq_true,decide_eq_true_eq]at hok
 obtain⟨⟨k1,k2⟩,k3⟩:=hok
 have HV:=lhd hv
 obtain⟨A',c',rfl,h1,h2⟩:=hv.len
 obtain⟨m,hm⟩:=nmx (l.length)
 have d0:=deF (p:=(400:Int)<(m:Int)) (by omega)
 have HM:=lhd hm;have HL:=lhd (show m≤400 by omega);have HAsc:=lhd k3
 have HIn:=lhd (show ∀ x∈l,0≤x∧x<(n:Int) from fun x hx=>by have:=List.all_eq_true.1 k2 x hx;simpa using this)
 have HLe:=lhd (show ∀ i:Nat,i<m→∃ z,l[i]?=some z from fun i hi=>⟨_,gEe (by omega)⟩)
 rw[← hm]at h1 ⊢
 clear hv k1 k2 k3 hm
 go_enter Tryz.func72,Tryz.ntmps72
 go_wp2_with fail
 obtain⟨W1,hW1⟩:=nmx (w.alloc (.cells #[.slice A n c,b] 33))
 have HB1:=lhd (show Below w.heap.size w W1 by rw[hW1];exact(brf _ _).alloc (nlr _) _)
 have HG1:=lhd (show GBox w.heap.size (.slice A n c) b W1 by rw[hW1];exact GBox.new)
 rw[← hW1]
 clear hW1
 go_loopw [4,5,6,12] (fun s4 _ _ s12 wr=>∃ i:Nat,s4=.int .i64 0∧s12=.int .i64 i∧i≤m∧Below W1.heap.size W1 wr) (fun _ _ _ s12 _=>(m-(intOf s12).toNat))
 case atStart=>exact⟨0,rfl,rfl,Nat.zero_le _,brf _ _⟩
 case round =>
  obtain⟨i,rfl,rfl,hil,hB⟩:=hrel
  have HB:=lhd hB
  clear hB
  by_cases hlt:i<m
  ·have hti:=deT (p:=((i:Nat):Int)<((m:Nat):Int)) (by omega)
   obtain⟨z,hz⟩:=HLe.out i hlt
   have HZ:=lhd hz
   obtain⟨b',o',rfl,hb',q0⟩:=Zv ((HV.out.keep HB1.out).keep HB.out) hz
   obtain⟨-,g0,g1⟩:=HG1.out.keep HB.out
   have HZi:=lhd (HIn.out z (mGe hz))
   clear hz hb'
   go_wp2_with fail
   refine(Ks HZi.out.1 HZi.out.2 _).mono ?_
   rintro e w1 ⟨_,rfl,rfl,hb1⟩
   have HB2:=lhd (HB.out.trans (hb1.mono HB.out.size))
   clear hb1 q0 g0 g1
   by_cases h0:0<i
   ·obtain⟨j,rfl⟩:∃ j,i=j+1:=⟨i-1,by omega⟩
    obtain⟨y,hy⟩:=HLe.out j (by omega)
    obtain⟨b2,o2,eb,hb2,q0⟩:=Zv ((HV.out.keep HB1.out).keep HB2.out) hy
    have hyz:=Zgf HAsc.out hy HZ.out
    have d1:=deT (p:=(0:Int)<((j:Nat):Int)+1) (by omega)
    have d2:=deF (p:=z<y) (by omega)
    have d3:=deT (p:=(0:Int)<((j+1:Nat):Int)) (by omega)
    have d4:=deT (p:=(0:Nat)<j+1) (by omega)
    injection eb with eb
    injection eb with eb1 eb2
    subst eb1 eb2
    have hwj:wrap64 (j:Int)=j:=by have:=HL.out;unfold wrap64;omega
    clear hy hb2 hyz h0
    go_wp2_with fail
    clear hwj
    have hl1:j+1<m:=hlt
    have hcast:(j:Int)+1+1=((j+1:Nat):Int)+1:=by push_cast;rfl
    refine⟨⟨j+1+1,rfl,by rw[hcast,Zc hl1 (by have:=HL.out;omega)],hl1,HB2.out⟩,?_⟩
    rw[hcast,Zc hl1 (by have:=HL.out;omega)];simp only[intOf];omega
   ·obtain rfl:i=0:=by omega
    clear h0
    go_wp2_with fail
    refine⟨⟨1,rfl,rfl,hlt,HB2.out⟩,?_⟩
    simp only[intOf];omega
  ·have hti:=deF (p:=((i:Nat):Int)<((m:Nat):Int)) (by omega)
   go_wp2_with fail
   go_ret
   exact⟨_,rfl,rfl,HB1.out.trans (HB.out.mono HB1.out.size)⟩
theorem strKey:Keyed Tryz.prog 9:=string_keyed Tryz.underlying9
theorem Zic(w:World):(zeroValue 4).run Tryz.prog w=.ok (.bool false) w:=by kernel_rfl
def SetS(w:World)(b n:Nat)(S:List (List UInt8)):Prop:=
 ∃ D:DataW Unit,w.ownsMap Tryz.prog 9 (plainElem Tryz.prog 4) b n D∧Maps.IsMap D∧∀ q:List UInt8,D.atKey (.string q) (.lit (.bool false))=.lit (.bool (decide (q∈S)))
theorem SetS.made(w:World):SetS (w.alloc (.map #[] 0)) w.heap.size 0 []:=
 ⟨.map [],World.ownsMap_made _ _ _ _,Maps.isMap_empty,fun q=>by simp[DataW.atKey]⟩
theorem SetS.keep{w w':World}{b n:Nat}{S:List (List UInt8)}(h:SetS w b n S)(hb:Below w.heap.size w w'):SetS w' b n S:=by
 obtain⟨D,⟨es,clock,g1,g2⟩,h2⟩:=h
 exact⟨D,⟨es,clock,by rw[hb.block b (Array.getElem?_eq_some_iff.1 g1).1];exact g1,g2⟩,h2⟩
theorem Zap{P:Program}{e:TypeId}(he:P.underlying e=some .bool){v:Value}{x:Bool}{ps:List MemPlace}(h:plainElem (H:=Unit) P e v=some (.lit (.bool x),ps)):v=.bool x:=by
 unfold plainElem at h
 rw[he]at h
 cases v <;> simp at h
 rw[h.1]
theorem Zay(w:World){ops:Array Oper}{rest:List Oper}{o:Oper}{a:Act}{Q:Exit→Act→World→Prop}(hg:o.guard=none)(m x:Operand)(hop:o.op=Op.lookup 115 m x false)
  (b n:Nat) (S:List (List UInt8)) (hm:a.eval m=.map (some b)) (hS:SetS w b n S) (q:List UInt8) (hx:a.eval x=.string ⟨q.toArray⟩) (hq:q.length≤1000)
  (hK:wpList Tryz.prog ops Q rest (a.put o.dst (.bool (decide (q∈S)))) w):wpList Tryz.prog ops Q (o::rest) a w:=by
 obtain⟨D,h1,h2,h3⟩:=hS
 obtain⟨v,ps,hrun,hv⟩:=h1.lookup strKey Tryz.underlying115 (Zic w) (plainElem_bool Tryz.underlying4 false) (WideMaps.keyOf_string_mk (s:=⟨q.toArray⟩) Tryz.underlying9 (show q.toArray.size≤maxLen by simp;unfold maxLen;omega))
 simp only at hv
 rw[h3 q]at hv
 obtain rfl:=Zap Tryz.underlying4 hv
 refine wpList_plain hg fun K' hK'=>?_
 unfold Oper.wp
 simp[execOp,hop,hm,hx,hrun,Result.andThen]
 exact hK' _ _ hK
theorem Zaz(w:World){ops:Array Oper}{rest:List Oper}{o:Oper}{a:Act}{Q:Exit→Act→World→Prop}(hg:o.guard=none)(m x v:Operand)(hop:o.op=Op.mapUpdate 115 m x v)
  (b n:Nat) (S:List (List UInt8)) (hm:a.eval m=.map (some b)) (hS:SetS w b n S) (hn:n<maxLen) (q:List UInt8) (hx:a.eval x=.string ⟨q.toArray⟩) (hv:a.eval v=.bool true) (hq:q.length≤1000)
  (hK:∀ w',SetS w' b (n+1) (q::S)→w.grownBy w' (some b)→wpList Tryz.prog ops Q rest (a.put o.dst undef) w'):wpList Tryz.prog ops Q (o::rest) a w:=by
 obtain⟨D,h1,h2,h3⟩:=hS
 refine wpList_mapUpdate_own w hg m x v 115 hop 9 4 strKey Tryz.underlying115 _ b n D hm h1 hn _ _ _ hx hv (WideMaps.keyOf_string_mk (s:=⟨q.toArray⟩) Tryz.underlying9 (show q.toArray.size≤maxLen by simp;unfold maxLen;omega)) _ [] (plainElem_bool Tryz.underlying4 true) ?_
 intro w' h4 h5
 refine hK w' ⟨_,h4,h2.put _ _,fun r=>?_⟩ h5
 simp only
 by_cases hr:r=q
 ·subst hr
  rw[Maps.atKey_put_same h2 (by trivial)]
  simp
 ·rw[Maps.atKey_put_other (by intro e;injection e with e2;exact hr e2),h3 r]
  simp[hr]
def Zef(s:List UInt8):Bool:=decide (0<s.length) && decide (s.length≤40) && s.all (fun b=>decide (b.toNat<128) && (b != 32 && b != 10))
def YM:List (List UInt8)→Bool
 | []=>true
 | s::l=>!l.contains s && YM l
def okG(names:List (List UInt8))(edges:List (List Int)):Bool:=decide (names.length=edges.length) && decide (names.length≤2500) && names.all Zef && YM names && edges.all (rowOk names.length)
theorem Kk:∀ {l:List (List UInt8)} {i j:Nat} {x y:List UInt8},YM l=true→l[i]?=some x→l[j]?=some y→i<j→x≠y
 | [],_,_,_,_,_,h,_,_=>by simp at h
 | s::l,0,0,_,_,_,_,_,h=>by omega
 | s::l,0,j+1,x,y,h,hx,hy,_=>by
  unfold YM at h
  rw[Bool.and_eq_true]at h
  have e:s=x:=by simpa using hx
  subst e
  rintro rfl
  have:l.contains s=true:=List.contains_iff_mem.2 (List.mem_of_getElem? (by simpa using hy))
  rw[this]at h;simp at h
 | s::l,i+1,0,_,_,_,_,_,h=>by omega
 | s::l,i+1,j+1,x,y,h,hx,hy,hij=>by
  unfold YM at h
  rw[Bool.and_eq_true]at h
  exact Kk (l:=l) (i:=i) (j:=j) h.2 (by simpa using hx) (by simpa using hy) (by omega)
theorem Yc:(Tryz.prog.info? 40).map (fun i=>(i.zero,i.size,i.bytes))=some (some (.slice none 0 0),1,24):=by kernel_rfl
theorem Zah(cs:List UInt8):∀ l:List UInt8,(∀ b∈l,b ∉ cs)→Lib.indexAny l cs = -1
 | [],_=>rfl
 | b::l,h=>by
  have ih:=Zah cs l (fun x hx=>h x (List.mem_cons_of_mem _ hx))
  have hb:=h b lm0
  simp[Lib.indexAny,ih,hb]
theorem ZcE{s:List UInt8}(h:s.all (fun b=>decide (b.toNat<128) && (b != 32 && b != 10))=true):Lib.containsAny s [32,10]=false:=by
 unfold Lib.containsAny
 rw[Zah [32,10] s (fun b hb=>by
  have:=List.all_eq_true.1 h b hb
  simp only[Bool.and_eq_true,bne_iff_ne]at this
  simp[this.2.1,this.2.2])]
 rfl
theorem Uu{a b:Value}{names:List (List UInt8)}{edges:List (List Int)}{w:World}(hg:GV names edges a b w)(hok:okG names edges=true):Calls Tryz.prog 40 #[.agg #[a,b]] w (Zb (VC (.int .i64 0)) w):=by
 unfold okG at hok
 simp only[Bool.and_eq_true,decide_eq_true_eq]at hok
 obtain⟨⟨⟨⟨k1,k2⟩,k3⟩,k4⟩,k5⟩:=hok
 have HG:=lhd hg
 obtain⟨A,c,rfl,h1,h2⟩:=hg.1.len
 obtain⟨A',c',rfl,h1',h2'⟩:=hg.2.len
 obtain⟨n,hn⟩:=nmx (names.length)
 rw[← k1]at h1' ⊢
 rw[← hn]at h1 h1' ⊢
 have d0:=deF (p:=(2500:Int)<(n:Int)) (by omega)
 have HN:=lhd hn;have HE:=lhd (show edges.length=n by omega);have HL:=lhd (show n≤2500 by omega)
 have HDi:=lhd k4
 have HNa:=lhd (show ∀ s∈names,Zef s=true from fun s hs=>List.all_eq_true.1 k3 s hs)
 have HRo:=lhd (show ∀ l∈edges,rowOk n l=true from fun l hl=>by rw[hn];exact List.all_eq_true.1 k5 l hl)
 rw[← k1,← hn]at HG
 clear hg k1 k2 k3 k4 k5 hn
 have hmm:=@run_makeMap Tryz.prog
 go_enter Tryz.func40,Tryz.ntmps40
 go_wp2_with fail
 clear hmm
 obtain⟨R,hR⟩:=nmx (w.heap.size)
 have hS0:=SetS.made (w.alloc (.cells #[.slice A n c,.slice A' n c'] 33))
 have hsz:(w.alloc (.cells #[.slice A n c,.slice A' n c'] 33)).heap.size=R+1:=by rw[hR];simp
 have hG0:GBox R (.slice A n c) (.slice A' n c') ((w.alloc (.cells #[.slice A n c,.slice A' n c'] 33)).alloc (.map #[] 0)):=by
  rw[hR];exact GBox.new.keep ((brf _ _).alloc (nlr _) _)
 have hB0:=((Below.refl w.heap.size w).alloc (Nat.le_refl _) (.cells #[.slice A n c,.slice A' n c'] 33)).alloc (by simp) (.map #[] 0)
 rw[hsz]at hS0
 rw[← hR]
 obtain⟨W1,hW1⟩:=nmx ((w.alloc (.cells #[.slice A n c,.slice A' n c'] 33)).alloc (.map #[] 0))
 rw[← hW1]at hS0 hG0 hB0
 rw[← hW1]
 have HS0:=lhd hS0;have HG0:=lhd hG0;have HB0:=lhd hB0;have HR:=lhd hR
 clear hS0 hG0 hB0 hsz hW1 hR
 go_loopw [2,4,5,6,22] (fun s2 _ _ _ s22 wr=>∃ (i:Nat) (S:List (List UInt8)),s2=.int .i64 0∧s22=.int .i64 i∧i≤n∧SetS wr (R+1) i S∧(∀ x∈S,x∈names.take i)∧GBox R (.slice A n c) (.slice A' n c') wr∧Below w.heap.size w wr) (fun _ _ _ _ s22 _=>(n-(intOf s22).toNat))
 case atStart=>exact⟨0,[],rfl,rfl,Nat.zero_le _,HS0.out,(fun x hx=>by cases hx),HG0.out,HB0.out⟩
 case round =>
  obtain⟨i,S,rfl,rfl,hil,hS,hSn,hGB,hB⟩:=hrel
  have HS:=lhd hS;have HSn:=lhd hSn;have HGB:=lhd hGB;have HB:=lhd hB
  clear hS hSn hB
  by_cases hlt:i<n
  ·have hti:=deT (p:=((i:Nat):Int)<((n:Nat):Int)) (by omega)
   obtain⟨s,hs⟩:∃ s,names[i]?=some s:=⟨_,gEe (by have:=HN.out;omega)⟩
   obtain⟨l,hl⟩:∃ l,edges[i]?=some l:=⟨_,gEe (by have:=HE.out;omega)⟩
   obtain⟨bn,on,rfl,hbn,q0⟩:=Zc3 (HG.out.1.keep HB.out) hs
   obtain⟨be,oe,ue,rfl,hbe,q1,hue⟩:=ZP (HG.out.2.keep HB.out) hl
   have HUe:=lhd hue;have HQ1:=lhd q1;have HBe:=lhd hbe;have HSi:=lhd hs;have HLi:=lhd hl
   obtain⟨-,g0,g1⟩:=hGB
   have hno:=HNa.out s (mGe hs)
   unfold Zef at hno
   simp only[Bool.and_eq_true,decide_eq_true_eq]at hno
   obtain⟨⟨n1,n2⟩,n3⟩:=hno
   have HN2:=lhd n2;have HN3:=lhd n3
   have e1:s.isEmpty=false:=by cases s with | nil=>simp at n1 | cons=>rfl
   have e2:decide ((40:Int)<(s.length:Int))=false:=deF (by omega)
   have HCa:=lhd (fun w=>Tryz.strings_ContainsAny_laid ⟨s.toArray⟩ ⟨#[32,10]⟩ w (by show s.toArray.size<_;simp;omega) (by decide) (fun j b hj=>by
    have hb:=List.all_eq_true.1 n3 b (List.mem_of_getElem? (by simpa using hj))
    simp only[Bool.and_eq_true,decide_eq_true_eq]at hb
    exact hb.1) (fun j b hj=>by
     have hb:b∈[(32:UInt8),10]:=mGe hj
     simp only[List.mem_cons,List.not_mem_nil,or_false]at hb
     rcases hb with rfl | rfl <;> decide))
   rw[show(⟨s.toArray⟩:ByteArray).data.toList=s from rfl,show(⟨#[32,10]⟩:ByteArray).data.toList=[32,10] from rfl,ZcE n3]at HCa
   have hns:decide (s∈S)=false:=deF (fun hm=>by
    obtain⟨j,hj⟩:=List.mem_iff_getElem?.1 (HSn.out s hm)
    rw[List.getElem?_take]at hj
    split at hj
    ·rename_i hji;exact Kk HDi.out hj hs hji rfl
    ·cases hj)
   have HNs:=lhd hns
   clear hs hl hue q1 hbe hbn n2 n3 n1 hns
   go_wp2_with fail
   refine(HCa.out _).mono ?_
   rintro e w1 ⟨rfl,hb1⟩
   have HS1:=lhd (HS.out.keep hb1);have HGB1:=lhd (HGB.out.keep hb1);have HB1:=lhd (HB.out.trans (hb1.mono HB.out.size))
   clear hb1 q0 g0 g1 e1 e2
   have hnS:=of_decide_eq_false HNs.out
   go_upto_region 14 with(first | (at_lookup;refine Zay _ rfl (.tmp 38) (.tmp 39) rfl (R+1) i S rfl HS1.out s rfl (by have:=HN2.out;omega) ?_) | (at_mapUpdate;refine Zaz _ rfl (.tmp 41) (.tmp 42) (.const (.bool true)) rfl (R+1) i S rfl HS1.out (by have:=HL.out;unfold maxLen;omega) s rfl rfl (by have:=HN2.out;omega) ?_;intro w2 hs2 hg2;have HS2:=lhd hs2;have HGr:=lhd hg2;clear hs2 hg2))
   have hB2:Below w.heap.size w w2:=HB1.out.grown HGr.out (HB1.out.size) (fun k e=>by injection e with e;rw[← e,HR.out];omega)
   have hG2:GBox R (.slice (some ⟨bn,on,none⟩) n c) (.slice (some ⟨be,oe,none⟩) n c') w2:=by
    obtain⟨x0,x1,x2⟩:=HGB1.out
    have hb:=HGr.out.block R x0 (fun e=>by injection e with e;omega)
    have hc:∀ i,w2.cell? ⟨R,i,none⟩=w1.cell? ⟨R,i,none⟩:=fun i=>by simp only[World.cell?,hb]
    exact⟨nLl x0 HGr.out.size,(hc 0).trans x1,(hc 1).trans x2⟩
   have HB2:=lhd hB2;have HG2:=lhd hG2
   obtain⟨be2,oe2,ue2,ee,hbe2,q2,hue2⟩:=ZP (HG.out.2.keep hB2) HLi.out
   injection ee with ee
   injection ee with ee1 ee2
   subst ee1 ee2
   have HQ2:=lhd q2;have HU2:=lhd hue2;have HBe2:=lhd hbe2
   have HCk:=lhd (fun (W:World) (hb:Below w2.heap.size w2 W)=>Zfl (A:=some ⟨bn,on,none⟩) (n:=n) (c:=c) (b:=.slice (some ⟨be,oe,none⟩) n c') (v:=ue2) (l:=l) (w:=W) (Sl.keep hue2 hb) (HRo.out l (mGe HLi.out)))
   clear hB2 hG2 q2 hue2 hbe2 hnS
   obtain⟨i1,hi1,-,hi2,-⟩:=info_parts Yc
   have HI:=lhd hi1;have HI2:=lhd hi2
   have HLt:=lhd hlt
   clear hi1 hi2
   refine Zu [(0,43,VC (.agg #[.slice (some ⟨bn,on,none⟩) n c,.slice (some ⟨be,oe,none⟩) n c'])),(1,44,VC (.pointer (some ⟨R,1,none⟩))),(2,45,VC (.slice (some ⟨be,oe,none⟩) n c')),(3,46,VC (.int .i64 (i:Int))),(4,47,VC (.pointer (some ⟨be,oe+i*1,none⟩))),(5,48,VC ue2),(6,49,VC (.int .i64 0)),(7,6,VC (.int .i64 0))] (fun _=>True) [43,44,45,46,47,48,49,6] (by kernel_rfl) (by kernel_rfl) (by kernel_rfl) ⟨kv,kv,kv,kv,kv,kv,kv,kv,trivial⟩ (fun _ _ _ _ _=>trivial) trivial (Zl ⟨?_,?_,?_,?_,?_,?_,?_,?_,trivial⟩) ?_
   ·exact .of rfl rfl fun _ _ hB _ _ _=>by obtain⟨x0,x1,x2⟩:=HG2.out.keep hB;exact .loadL (us:=[.slice (some ⟨bn,on,none⟩) n c,.slice (some ⟨be,oe,none⟩) n c']) rfl (fou (v:=.pointer (some ⟨R,0,none⟩))) (Uz x1 x2) rfl Tryz.underlying33 rfl (by kernel_rfl) rfl
   ·exact .of rfl rfl fun _ _ _ _ _ _=>.fieldAddr rfl (fou (v:=.pointer (some ⟨R,0,none⟩))) (by kernel_rfl) rfl
   ·exact .of rfl rfl fun _ _ hB _ hV _=>.load1 rfl (fgt hV 1 rfl) (Za Tryz.underlying31 rfl (HG2.out.keep hB).2.2) rfl
   ·exact mvX rfl rfl rfl
   ·exact .of rfl rfl fun _ _ _ _ hV _=>.rowAt Tryz.underlying31 HI.out HI2.out rfl (fgt hV 2 rfl) (fgt hV 3 rfl) HLt.out
   ·exact .of rfl rfl fun _ _ hB _ hV _=>.load1 rfl (fgt hV 4 rfl) (Za Tryz.underlying40 rfl (by rw[Nat.mul_one];exact(hB.cell (p:=⟨be,oe+i,none⟩) HBe2.out).trans HQ2.out)) rfl
   ·exact .of rfl rfl fun _ W hB _ hV _=>.call Tryz.func72 (by kernel_rfl) rfl rfl rfl (Zg (fgt hV 0 rfl) (fgt hV 5 rfl)) (HCk.out W hB)
   ·exact .of rfl rfl fun _ _ _ _ hV _=>.assign rfl (fgt hV 6 rfl) rfl
   intro y W hB hE hV
   have e6:y 6=.int .i64 0:=hend hV 7 rfl
   have HB3:=lhd hB
   clear hB hE hV
   generalize hact:fr _ _ y=act
   simp only[fr,Zf,List.foldl_cons,List.foldl_nil,e6]at hact
   subst hact
   clear e6
   go_wp2_with fail
   refine⟨⟨i+1,s::S,rfl,by rw[Zc HLt.out (by have:=HL.out;omega)],HLt.out,HS2.out.keep HB3.out,(fun x hx=>?_),HG2.out.keep HB3.out,HB2.out.trans (HB3.out.mono HB2.out.size)⟩,?_⟩
   ·rw[List.take_add_one,HSi.out]
    rcases List.mem_cons.1 hx with rfl | hx
    ·simp
    ·exact List.mem_append_left _ (HSn.out x hx)
   ·rw[Zc HLt.out (by have:=HL.out;omega)];simp only[intOf];omega
  ·have hti:=deF (p:=((i:Nat):Int)<((n:Nat):Int)) (by omega)
   go_wp2_with fail
   go_ret
   exact⟨_,rfl,rfl,HB.out⟩
theorem Zid{a b:Value}{names:List (List UInt8)}{edges:List (List Int)}{w:World}(hg:GV names edges a b w)(hok:okG names edges=true)(hl:names.length≤60):Calls Tryz.prog 81 #[.agg #[a,b]] w (Zb (VC (.int .i64 0)) w):=by
 have hB:=(brf w.heap.size w).alloc (nlr _) (.cells #[a,b] 33)
 have HC:=lhd (Uu (hg.keep hB) hok);have HG:=lhd (GBox.new (a:=a) (b:=b) (W:=w));have HB:=lhd hB
 obtain⟨A,c,rfl,-,-⟩:=hg.1.len
 have d0:=deF (p:=(60:Int)<(names.length:Int)) (by omega)
 clear hg hok hl hB
 generalize names.length=n at *
 go_enter Tryz.func81,Tryz.ntmps81
 go_wp2_with fail
 refine HC.out.mono ?_
 rintro e w1 ⟨_,rfl,rfl,hb1⟩
 obtain⟨-,g0,g1⟩:=HG.out.keep hb1
 have HB1:=lhd (HB.out.trans (hb1.mono HB.out.size))
 clear hb1
 go_wp2_with fail
 go_ret
 exact⟨_,rfl,rfl,HB1.out⟩
def NBox(R:Nat)(d:Int)(W:World):Prop:=R<W.heap.size∧W.cell? ⟨R,0,none⟩=some (.int .i64 d)
theorem NBox.keep{R:Nat}{d:Int}{W W':World}(h:NBox R d W)(hb:Below W.heap.size W W'):NBox R d W':=⟨nLl h.1 hb.size,(hb.cell (p:=⟨R,0,none⟩) h.1).trans h.2⟩
theorem Zfm{A:Option Addr}{n c R:Nat}{w:World}(h:NBox R (n:Int) w):Calls Tryz.prog 80 #[.slice A n c,.pointer (some ⟨R,0,none⟩)] w (Zb (VC (.bool false)) w):=by
 have h1:=h.2
 clear h
 go_enter Tryz.func80,Tryz.ntmps80
 go_wp2_with fail
 go_ret
 exact⟨_,rfl,rfl,brf _ _⟩
theorem ZgN{v:Value}{l:List (List Int)}{d R:Nat}{w:World}(hv:Sl eRow l v w)(hl:l.length≤1000000)(hd:∀ x∈l,x.length=d)(hR:NBox R (d:Int) w) :
  Calls Tryz.prog 118 #[v,.func (.func 80) #[] #[.pointer (some ⟨R,0,none⟩)]] w (Zb (VC (.int .i64 (-1))) w):=by
 obtain⟨A,c,rfl,h1,h2⟩:=hv.len
 obtain⟨n,hn⟩:=nmx (l.length)
 have HV:=lhd hv;have HL:=lhd (show n≤1000000 by omega);have HD:=lhd hd;have HN:=lhd hn;have HR:=lhd hR
 have HLe:=lhd (show ∀ i:Nat,i<n→∃ z,l[i]?=some z from fun i hi=>⟨_,gEe (by omega)⟩)
 rw[← hn]at h1 ⊢
 clear hv hl hd hn hR
 go_enter Tryz.func118,Tryz.ntmps118
 go_wp2_with fail
 go_loopw [4,5,8] (fun s4 _ s8 wr=>∃ i:Nat,s4=.int .i64 0∧s8=.int .i64 i∧i≤n∧Below w.heap.size w wr) (fun _ _ s8 _=>(n-(intOf s8).toNat))
 case atStart=>exact⟨0,rfl,rfl,Nat.zero_le _,brf _ _⟩
 case round =>
  obtain⟨i,rfl,rfl,hil,hB⟩:=hrel
  have HB:=lhd hB
  clear hB
  by_cases hlt:i<n
  ·have hti:=deT (p:=((i:Nat):Int)<((n:Nat):Int)) (by omega)
   obtain⟨z,hz⟩:=HLe.out i hlt
   obtain⟨b,o,u,rfl,hb,q0,hu⟩:=ZP (HV.out.keep HB.out) hz
   obtain⟨A1,c1,rfl,-,-⟩:=Sl.len hu
   have HCl:=lhd (Zfm (A:=A1) (n:=d) (c:=c1) (HR.out.keep HB.out))
   rw[HD.out z (mGe hz)]at q0
   clear hu hz hb
   go_wp2_with fail
   refine HCl.out.mono ?_
   rintro e w1 ⟨_,rfl,rfl,hb1⟩
   have HB1:=lhd (HB.out.trans (hb1.mono HB.out.size))
   clear hb1 q0
   go_wp2_with fail
   refine⟨⟨i+1,rfl,by rw[Zc hlt HL.out],hlt,HB1.out⟩,?_⟩
   rw[Zc hlt HL.out];simp only[intOf];omega
  ·have hti:=deF (p:=((i:Nat):Int)<((n:Nat):Int)) (by omega)
   go_wp2_with fail
   go_ret
   exact⟨_,rfl,rfl,HB.out⟩
theorem ZdF{v:Value}{l:List (List Int)}{d R:Nat}{w:World}(hv:Sl eRow l v w)(hl:l.length≤1000000)(hd:∀ x∈l,x.length=d)(hR:NBox R (d:Int) w) :
  Calls Tryz.prog 79 #[v,.func (.func 80) #[] #[.pointer (some ⟨R,0,none⟩)]] w (Zb (VC (.bool false)) w):=by
 have HI:=lhd (ZgN hv hl hd hR)
 obtain⟨A,c,rfl,-,-⟩:=hv.len
 clear hv hl hd hR
 go_enter Tryz.func79,Tryz.ntmps79
 go_wp2_with fail
 refine HI.out.mono ?_
 rintro e w1 ⟨_,rfl,rfl,hb1⟩
 have HB1:=lhd hb1
 clear hb1
 go_wp2_with fail
 go_ret
 exact⟨_,rfl,rfl,HB1.out⟩
theorem ZgO{a b:Value}{names:List (List UInt8)}{edges:List (List Int)}{d:Nat}{w:World}(hg:GV names edges a b w)(hok:okG names edges=true)(hd:∀ x∈edges,x.length=d)(h0:0<edges.length):Calls Tryz.prog 47 #[.agg #[a,b]] w (Zb (VC (.tuple #[.int .i64 (d:Int),.int .i64 0])) w):=by
 have hB:=(brf w.heap.size w).alloc (nlr _) (.cells #[a,b] 33)
 have HC:=lhd (Uu (hg.keep hB) hok);have HG:=lhd (GBox.new (a:=a) (b:=b) (W:=w));have HB:=lhd hB;have HGV:=lhd hg
 have hle:edges.length≤2500:=by
  unfold okG at hok
  simp only[Bool.and_eq_true,decide_eq_true_eq]at hok
  omega
 obtain⟨A,c,rfl,-,-⟩:=hg.1.len
 obtain⟨A',c',rfl,-,-⟩:=hg.2.len
 obtain⟨x,hx⟩:∃ x,edges[0]?=some x:=⟨_,gEe h0⟩
 have HX:=lhd hx;have HD:=lhd hd;have HLe:=lhd hle
 obtain⟨m,hm⟩:∃ m,edges.length=m+1:=⟨edges.length-1,by omega⟩
 have HCo:=lhd (fun (W:World) (R:Nat) (h:Below w.heap.size w W) (hR:NBox R (d:Int) W)=>ZdF (d:=d) (hg.2.keep h) (by omega) hd hR)
 have HGV2:=lhd hg.2
 rw[hm]at HC HG HB HCo HGV2 ⊢
 clear hg hok hB hd h0 hx hle hm HGV
 go_enter Tryz.func47,Tryz.ntmps47
 go_wp2_with fail
 refine HC.out.mono ?_
 rintro e w1 ⟨_,rfl,rfl,hb1⟩
 obtain⟨g8,g0,g1⟩:=HG.out.keep hb1
 have HB1:=lhd (HB.out.trans (hb1.mono HB.out.size))
 obtain⟨b,o,u,rfl,hb,q0,hu⟩:=ZP (HGV2.out.keep HB1.out) HX.out
 obtain⟨A1,c1,rfl,-,-⟩:=Sl.len hu
 rw[HD.out x (mGe HX.out),Nat.add_zero]at q0
 have hm0:((m:Int)+1 == 0)=false:=by simp;omega
 clear hb1 hu hb
 go_upto_region 7 with fail
 have hbN:=(brf w1.heap.size w1).alloc (nlr _) (.cells #[.int .i64 (d:Int)] 3)
 have hN:NBox w1.heap.size (d:Int) (w1.alloc (.cells #[.int .i64 (d:Int)] 3)):=⟨by simp,by simp[go_sem]⟩
 have hG2:GBox w.heap.size _ _ (w1.alloc (.cells #[.int .i64 (d:Int)] 3)):=GBox.keep (a:=.slice A names.length c) (b:=.slice (some ⟨b,o,none⟩) (m+1) c') ⟨g8,g0,g1⟩ hbN
 obtain⟨W2,hW2⟩:=nmx (w1.alloc (.cells #[.int .i64 (d:Int)] 3))
 rw[← hW2]at hbN hN hG2
 rw[← hW2]
 have HB2:=lhd (HB1.out.trans (hbN.mono HB1.out.size));have HN:=lhd hN
 have HC2:=lhd (HCo.out _ _ HB2.out hN)
 obtain⟨-,g2,g3⟩:=hG2
 clear hbN hN hW2 g0 g1 g8 q0 hm0 HCo
 go_wp2_with fail
 refine HC2.out.mono ?_
 rintro e w3 ⟨_,rfl,rfl,hb3⟩
 have HB3:=lhd (HB2.out.trans (hb3.mono HB2.out.size))
 obtain⟨-,n0⟩:=HN.out.keep hb3
 clear hb3 g2 g3
 go_wp2_with fail
 go_ret2
 exact⟨_,rfl,rfl,HB3.out⟩
theorem KN(t:TypeId)(ht:Tryz.prog.underlying t=some (.slice 3))(N:Nat)(hN:N≤1000000)(W:World):(Instr.makeSlice t (.int .i64 (N:Int)) (.int .i64 (N:Int))).run Tryz.prog W =
  .ok (.slice (some ⟨W.heap.size,0,none⟩) N N) (W.alloc (.cells (madeCells #[.int .i64 0] N) 3)):=
 run_make_row' (P:=Tryz.prog) t 3 (.int .i64 0) 8 ht ZM rfl .i64 .i64 N (by omega) (by omega) W
theorem Own.made_num{w W:World}{N:Nat}(hB:Below w.heap.size w W)(hN:N≤1000000):Own eNum w (.slice (some ⟨W.heap.size,0,none⟩) N N) (List.replicate N (0,[.int .i64 0])) (W.alloc (.cells (madeCells #[.int .i64 0] N) 3)):=by
 have:=Own.made (e:=eNum) (N:=N) (x:=(0:Int)) (w:=w) (W:=W) (fun _=>rfl) hB (by unfold maxLen;omega)
 rw[show N*eNum.n=N from Nat.mul_one N]at this
 exact this
theorem YR{w W:World}{g cap n i:Nat}{rs:List (Int × List Value)}(h:Own eNum w (.slice (some ⟨g,0,none⟩) n cap) rs W){z:Int}(hz:(rs.map (·.1))[i]?=some z) :
  W.cell? ⟨g,i,none⟩=some (.int .i64 z)∧W.frozen? ⟨g,i,none⟩=false:=by
 rw[List.getElem?_map]at hz
 cases hx:rs[i]? with
 | none=>rw[hx]at hz;cases hz
 | some x =>
  rw[hx]at hz
  obtain⟨hc,he⟩:=h.cell hx
  obtain rfl:x.1=z:=oSi hz
  have he':x.2=[.int .i64 x.1]:=he
  have:=hc 0 (.int .i64 x.1) (by rw[he'];rfl)
  rw[show i*eNum.n+0=i from by show i*1+0=i;omega]at this
  exact⟨this,h.fz _⟩
theorem Uj{w W:World}{g cap n i:Nat}{rs:List (Int × List Value)}(h:Own eNum w (.slice (some ⟨g,0,none⟩) n cap) rs W)(hi:i<rs.length)(z:Int) :
  Own eNum w (.slice (some ⟨g,0,none⟩) n cap) (rs.set i (z,[.int .i64 z])) (W.setCell ⟨g,i,none⟩ (.int .i64 z)):=by
 have:=h.set (e:=eNum) hi (y:=z) (cs:=[.int .i64 z]) rfl
 rw[show i*eNum.n=i from Nat.mul_one i]at this
 exact this
def cntL:List Int→List Int→List Int
 | r,[]=>r
 | r,v::l=>cntL (r.set v.toNat (r.getD v.toNat 0+1)) l
def adjL(edges:List (List Int)):List (List Int):=edges.map fun l=>cntL (List.replicate edges.length 0) l
theorem Zc4:∀ (l r:List Int) (v:Int),cntL r (l++[v])=(cntL r l).set v.toNat ((cntL r l).getD v.toNat 0+1)
 | [],_,_=>rfl
 | x::l,r,v=>by simp only[List.cons_append,cntL];exact Zc4 l _ v
theorem Zeg:∀ (l r:List Int),(cntL r l).length=r.length
 | [],_=>rfl
 | x::l,r=>by simp only[cntL];rw[Zeg l,List.length_set]
theorem Zeh:∀ (l r:List Int) (M:Nat),(∀ x∈r,0≤x∧x≤M)→∀ x∈cntL r l,0≤x∧x≤M+l.length
 | [],r,M,h=>fun x hx=>by have:=h x hx;simp;omega
 | v::l,r,M,h=>fun x hx=>by
  have:=Zeh l (r.set v.toNat (r.getD v.toNat 0+1)) (M+1) (fun y hy=>by
   rcases List.mem_or_eq_of_mem_set hy with h1 | h1
   ·have:=h y h1;omega
   ·rw[h1]
    have h2:0≤r.getD v.toNat 0∧r.getD v.toNat 0≤M:=by
     rw[gDg]
     cases e:r[v.toNat]? with
     | none=>simp
     | some z=>exact h z (mGe e)
    omega) x hx
  rw[List.length_cons];omega
theorem ZdG{a b:Value}{names:List (List UInt8)}{edges:List (List Int)}{w:World}(hg:GV names edges a b w)(hl:edges.length≤2500)(hin:∀ l∈edges,l.length≤400∧∀ v∈l,0≤v∧v<edges.length):Calls Tryz.prog 83 #[.agg #[a,b]] w (Zb (Sl eRow (adjL edges)) w):=by
 obtain⟨i0,hi,hz0,hz1,hz2⟩:=info_parts Yc
 have HI:=lhd hi;have HZ0:=lhd hz0;have HZ1:=lhd hz1;have HZ2:=lhd hz2
 clear hi hz0 hz1 hz2
 obtain⟨A',c',rfl,h1',h2'⟩:=hg.2.len
 obtain⟨n,hn⟩:=nmx (edges.length)
 have HV:=lhd hg.2;have HL:=lhd (show n≤2500 by omega);have HN:=lhd hn
 have HIn:=lhd (show ∀ l∈edges,l.length≤400∧∀ v∈l,0≤v∧v<(n:Int) from fun l hl=>by rw[hn];exact hin l hl)
 have HMk:=lhd (KN 40 Tryz.underlying40 n (by omega))
 rw[← hn]at h1' HV ⊢
 have hB:=(brf w.heap.size w).alloc (nlr _) (.cells #[a,.slice A' n c'] 33)
 have hG:=GBox.new (a:=a) (b:=.slice A' n c') (W:=w)
 obtain⟨W1,hW1⟩:=nmx (w.alloc (.cells #[a,.slice A' n c'] 33))
 rw[← hW1]at hB hG
 have HB1:=lhd hB;have HG:=lhd hG;have HW1:=lhd hW1
 clear hg hl hin hn hB hG hW1
 go_enter Tryz.func83,Tryz.ntmps83
 go_wp2_with fail
 rw[← HW1.out]
 go_loopw [3,5,6,8,12] (fun s3 _ _ _ s12 wr=>∃ (i:Nat) (rs:List (List Int × List Value)),s12=.int .i64 i∧i≤n∧rs.map (·.1)=(edges.take i).map (fun l=>cntL (List.replicate n 0) l)∧Own eRow W1 s3 rs wr) (fun _ _ _ _ s12 _=>(n-(intOf s12).toNat))
 case atStart=>exact⟨0,[],rfl,Nat.zero_le _,rfl,Own.start eRow (brf _ _)⟩
 case round =>
  obtain⟨i,rs,rfl,hil,hrs,hO⟩:=hrel
  have HRs:=lhd hrs;have HO:=lhd hO
  clear hrs hO
  by_cases hlt:i<n
  ·have hti:=deT (p:=((i:Nat):Int)<((n:Nat):Int)) (by omega)
   obtain⟨l,hl⟩:∃ l,edges[i]?=some l:=⟨_,gEe (by have:=HN.out;omega)⟩
   obtain⟨b',o',u,rfl,hb',q0,hu⟩:=ZP (HV.out.keep (HB1.out.trans (HO.out.below.mono HB1.out.size))) hl
   obtain⟨Al,cl,rfl,e1,e2⟩:=Sl.len hu
   obtain⟨m,hm⟩:=nmx (l.length)
   have HLi:=lhd hl;have HU:=lhd hu;have HM:=lhd hm
   obtain⟨-,g0,g1⟩:=HG.out.keep HO.out.below
   rw[← hm]at q0 e1 HU
   clear hl hu hb' hm
   obtain⟨W5,hW5⟩:∃ W5:World,W5=wr:=⟨_,rfl⟩
   subst hW5
   obtain⟨s3,hs3⟩:=nmx (u3)
   subst hs3
   have hmk:=HMk.out
   go_upto_region 7 with fail
   clear hmk g0 g1 q0
   have hO5:=Own.made_num (w:=W5) (N:=n) (brf _ _) (by have:=HL.out;omega)
   obtain⟨R,hR⟩:=nmx (W5.heap.size)
   obtain⟨W6,hW6⟩:=nmx (W5.alloc (.cells (madeCells #[.int .i64 0] n) 3))
   rw[← hW6,← hR]at hO5
   rw[← hW6,← hR]
   have HO5:=lhd hO5
   have hlin:=HIn.out l (mGe HLi.out)
   have HLin:=lhd hlin
   clear hO5 hR hW6 hlin
   go_loopw [8,22] (fun _ s22 wr=>∃ (k:Nat) (rr:List (Int × List Value)),s22=.int .i64 k∧k≤m∧rr.map (·.1)=cntL (List.replicate n 0) (l.take k)∧Own eNum W5 (.slice (some ⟨R,0,none⟩) n n) rr wr) (fun _ s22 _=>(m-(intOf s22).toNat))
   case atStart=>exact⟨0,_,rfl,Nat.zero_le _,by simp[cntL],HO5.out⟩
   case round =>
    obtain⟨k,rr,rfl,hkm,hrr,hOk⟩:=hrel
    have HRr:=lhd hrr;have HOk:=lhd hOk
    clear hrr hOk
    by_cases hklt:k<m
    ·have hti:=deT (p:=((k:Nat):Int)<((m:Nat):Int)) (by omega)
     obtain⟨z,hz⟩:∃ z,l[k]?=some z:=⟨_,gEe (by have:=HM.out;omega)⟩
     obtain⟨b2,o2,rfl,hb2,q0⟩:=Zv (Sl.keep HU.out HOk.out.below) hz
     have hzb:=HLin.out.2 z (mGe hz)
     obtain⟨x,rfl⟩:∃ x:Nat,z=(x:Int):=⟨z.toNat,by omega⟩
     have hxn:x<n:=by omega
     have hlen:(cntL (List.replicate n 0) (l.take k)).length=n:=by rw[Zeg,List.length_replicate]
     obtain⟨y,hy⟩:∃ y,(cntL (List.replicate n 0) (l.take k))[x]?=some y:=⟨_,gEe (by omega)⟩
     have hyb:=Zeh (l.take k) (List.replicate n 0) 0 (fun z hz=>by rw[(List.mem_replicate.1 hz).2];omega) y (mGe hy)
     have hwy:=lhd (show wrap64 (y+1)=y+1 by have:=HLin.out.1;have:=HM.out;have h3:=List.length_take_le k l;unfold wrap64;omega)
     rw[← HRr.out]at hy
     obtain⟨q1,f1⟩:=YR HOk.out hy
     have hrl:rr.length=n:=by rw[← hlen,← HRr.out,List.length_map]
     have HSet:=lhd (Uj HOk.out (i:=x) (by omega) (y+1))
     have HZ:=lhd hz
     have HY:=lhd hy
     have hwy':=hwy.out
     clear hzb hlen hyb hz hy hb2 hrl
     go_wp2_with fail
     refine⟨⟨k+1,rr.set x (y+1,[.int .i64 (y+1)]),by rw[Zc hklt (by have:=HLin.out.1;have:=HM.out;omega)],hklt,?_,?_⟩,?_⟩
     ·rw[List.take_add_one,HZ.out,List.map_set,HRr.out]
      have h4:=HY.out
      rw[HRr.out]at h4
      show _=cntL _ (l.take k++[(x:Int)])
      rw[Zc4,Int.toNat_natCast,gDg,h4];rfl
     ·exact HSet.out
     ·rw[Zc hklt (by have:=HLin.out.1;have:=HM.out;omega)];simp only[intOf];omega
    ·have hti:=deF (p:=((k:Nat):Int)<((m:Nat):Int)) (by omega)
     have hfin:rr.map (·.1)=cntL (List.replicate n 0) l:=by rw[HRr.out,tOl (by have:=HM.out;omega)]
     have HFi:=lhd hfin
     have HOo:=lhd (HO.out.keep HOk.out.below)
     have HEl:=lhd (show eRow.E (cntL (List.replicate n 0) l) [.slice (some ⟨R,0,none⟩) n n] wr from⟨_,rfl,by rw[← HFi.out];exact HOk.out.sl⟩)
     clear hfin
     go_wp2_with (at_builtin;refine ZB rfl (.tmp 33) (.tmp 35) 31 rfl i0 Tryz.underlying31 HI.out HZ0.out HZ1.out HZ2.out (HOo.out.keep ((Below.refl _ _).alloc (Nat.le_refl _) _)) (y:=cntL (List.replicate n 0) l) (cs:=[.slice (some ⟨R,0,none⟩) n n]) (eRow.keep HEl.out ((Below.refl _ _).alloc (Nat.le_refl _) _)) ⟨wr.heap.size,0,none⟩ 1 rfl rfl (fun d u hd=>by rcases d with _ | d;(injection hd with hd;subst hd;simp[go_sem]);simp at hd) (by have:=congrArg List.length HRs.out;simp at this;have:=HL.out;omega) ?_;intro v' w2 hg2;have HG2:=lhd hg2;clear hg2)
     refine⟨⟨i+1,_,by rw[Zc hlt (by have:=HL.out;omega)],hlt,?_,HG2.out⟩,?_⟩
     ·rw[List.map_append,HRs.out,List.take_add_one,HLi.out];simp
     ·rw[Zc hlt (by have:=HL.out;omega)];simp only[intOf];omega
  ·have hti:=deF (p:=((i:Nat):Int)<((n:Nat):Int)) (by omega)
   have hfin:rs.map (·.1)=adjL edges:=by rw[HRs.out,tOl (by have:=HN.out;omega)];unfold adjL;rw[← HN.out]
   have HF:=lhd hfin
   clear hfin
   go_wp2_with fail
   go_ret
   exact⟨_,rfl,by rw[← HF.out];exact HO.out.sl,HB1.out.trans (HO.out.below.mono HB1.out.size)⟩
end
end Go.Proofs.YthkklilhjnpedaaGreatDoor
