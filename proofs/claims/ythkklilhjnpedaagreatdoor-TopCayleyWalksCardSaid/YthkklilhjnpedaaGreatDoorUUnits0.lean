/- Polynomials: the leading coefficient, normal form. -/
import Derived.Test.YthkklilhjnpedaaGreatDoorURnh
import Derived.Test.YthkklilhjnpedaaGreatDoorUIntA
import Derived.Test.YthkklilhjnpedaaGreatDoorUSp
import Derived.Test.YthkklilhjnpedaaGreatDoorUSym0
import Derived.Test.YthkklilhjnpedaaGreatDoorUNt
import Derived.Test.YthkklilhjnpedaaGreatDoorUStp
import Derived.Test.YthkklilhjnpedaaGreatDoorUShelf
import Derived.Sort.OwnSortedInts
import Derived.Lib.OwnBridge
import Derived.Laws.IdiomCopy
import Derived.Test.YthkklilhjnpedaaGreatDoorUROf
import Derived.Test.YthkklilhjnpedaaGreatDoorUWordB
import Derived.Deep.RegionHeld3
import Derived.Deep.DrawnRows
import Derived.Test.YthkklilhjnpedaaGreatDoorURw0
set_option maxHeartbeats 16000000
set_option maxRecDepth 8000
namespace Go.Proofs.YthkklilhjnpedaaGreatDoor
section
open Go.RowKit FF
def DMPost(w:World)(x y:Int)(e:Ending)(w':World):Prop:=
 ∃ A2 c2 A3 c3,e=.returned (.tuple #[.agg #[.bool (decide (x / y<0)),.slice A2 (wl (x / y).natAbs) c2],.agg #[.bool (decide (x % y<0)),.slice A3 (wl (x % y).natAbs) c3],.int .i64 0]) ∧
  Shows .u32 w' A2 (digs WB (x / y).natAbs)∧Shows .u32 w' A3 (digs WB (x % y).natAbs)∧wl (x / y).natAbs≤c2∧c2≤maxLen∧wl (x % y).natAbs≤c3∧c3≤maxLen∧Below w.heap.size w w'
theorem Zhz(s t:Bool)(A A':Option Addr)(n m c c':Nat)(x y:Int)(w:World)(hx:AI w s A n c x)(hy:AI w t A' m c' y)(hlen:n+m≤400000)(hy0:y≠0) :
  Calls Tryz.prog 168 #[.agg #[.bool s,.slice A n c],.agg #[.bool t,.slice A' m c']] w (DMPost w x y):=by
 have h1:=hx.wl_le
 have h2:=hy.wl_le
 obtain⟨xs,rfl,X,dx,hcx,hcx2,rfl,-⟩:=hx
 obtain⟨ys,rfl,Y,dy,hcy,hcy2,rfl,-⟩:=hy
 rw[Z5]at h1 h2
 have hb0:0<val WB ys:=Nat.pos_of_ne_zero fun e=>hy0 (by rw[e];cases t <;> rfl)
 refine(ZhM s t A A' xs ys c c' w X dx hcx hcx2 Y dy hcy hcy2 (by omega) (by omega) hb0 (Ze2 hb0)).mono ?_
 rintro e w' ⟨Q,R,A2,c2,A3,c3,rfl,rfl,h⟩
 obtain⟨h1,h2,h3,h4,h5,h6,h7,h8⟩:=h
 exact⟨A2,c2,A3,c3,h1,h2,h3,h4,h5,h6,h7,h8⟩
theorem ZfR(s t:Bool)(A A':Option Addr)(n m c c':Nat)(x y:Int)(w:World)(hx:AI w s A n c x)(hy:AI w t A' m c' y)(hy0:y=0) :
  Calls Tryz.prog 168 #[.agg #[.bool s,.slice A n c],.agg #[.bool t,.slice A' m c']] w fun e w' =>
   e=.returned (.tuple #[.agg #[.bool false,.slice none 0 0],.agg #[.bool false,.slice none 0 0],.int .i64 10])∧Below w.heap.size w w':=by
 obtain⟨xs,rfl,-⟩:=hx
 obtain⟨ys,rfl,Y,dy,hcy,hcy2,h0,-⟩:=hy
 refine Zf1 s t A A' xs ys c c' w Y dy hcy hcy2 ?_
 rw[hy0]at h0
 cases t <;> simp[sval]at h0 <;> omega
open Go.RowKit FF
def remZ(x y:Int):Int:=if y=0 then 0 else x % y
def errZ(y:Int):Int:=if y=0 then 10 else 0
def DMAll(w:World)(x y:Int)(e:Ending)(w':World):Prop:=
 ∃ A2 c2 A3 c3,e=.returned (.tuple #[.agg #[.bool (decide (x / y<0)),.slice A2 (wl (x / y).natAbs) c2],.agg #[.bool (decide (remZ x y<0)),.slice A3 (wl (remZ x y).natAbs) c3],.int .i64 (errZ y)]) ∧
  Shows .u32 w' A2 (digs WB (x / y).natAbs)∧Shows .u32 w' A3 (digs WB (remZ x y).natAbs)∧wl (x / y).natAbs≤c2∧c2≤maxLen∧wl (remZ x y).natAbs≤c3∧c3≤maxLen∧Below w.heap.size w w'
theorem DMAll.of_zero{w w':World}{x y:Int}{e:Ending}(h0:y=0)(he:e=.returned (.tuple #[.agg #[.bool false,.slice none 0 0],.agg #[.bool false,.slice none 0 0],.int .i64 10]))(hb:Below w.heap.size w w'):DMAll w x y e w':=by
 subst h0
 refine⟨none,0,none,0,?_,?_,?_,?_,by simp[maxLen],?_,by simp[maxLen],hb⟩
 ·rw[he,Int.ediv_zero];rfl
 ·rw[Int.ediv_zero];exact Shows.nil
 ·exact Shows.nil
 ·rw[Int.ediv_zero];exact nlr _
 ·exact nlr _
theorem DMAll.of_post{w w':World}{x y:Int}{e:Ending}(h0:y≠0)(h:DMPost w x y e w'):DMAll w x y e w':=by
 unfold DMAll
 rw[show remZ x y=x % y from if_neg h0,show errZ y=0 from if_neg h0]
 exact h
theorem ZhA(s t:Bool)(A A':Option Addr)(n m c c':Nat)(x y:Int)(w:World)(hx:AI w s A n c x)(hy:AI w t A' m c' y)(hlen:n+m≤400000) :
  Calls Tryz.prog 168 #[.agg #[.bool s,.slice A n c],.agg #[.bool t,.slice A' m c']] w (DMAll w x y):=by
 by_cases h0:y=0
 ·exact(ZfR s t A A' n m c c' x y w hx hy h0).mono fun _ _ ⟨he,hb⟩=>DMAll.of_zero h0 he hb
 ·exact(Zhz s t A A' n m c c' x y w hx hy hlen h0).mono fun _ _ h=>DMAll.of_post h0 h
end
end Go.Proofs.YthkklilhjnpedaaGreatDoor
section
namespace FF
def smI(z:Int):Bool:=decide (z.natAbs<4294967296 ^ 60)
def smL(l:List Int):Bool:=decide (l.length≤1000) && l.all smI
def Zj(l:List Int):List Int:=(l.reverse.dropWhile (· == 0)).reverse
theorem ZfS(l:List Int):Zj (l++[0])=Zj l:=by simp[Zj]
theorem Zjt(l:List Int){z:Int}(h:z≠0):Zj (l++[z])=l++[z]:=by
 simp[Zj,h]
def Zo(l:List Int):Int:=l.getLastD 0
def gcdP(l:List Int):Int:=l.foldl (fun g x=>(Int.gcd g x:Int)) 0
def ZG(l:List Int):List Int:=Zj (l.map fun x=>x / gcdP l)
def XD:List Int→Int→List Int
 | [],_=>[]
 | x::l,k=>k*x::XD l (k+1)
def derL(l:List Int):List Int:=Zj (XD (l.drop 1) 1)
def Yp:List Int→Int→List Int→Nat→Option (List Int)
 | out,_,[],_=>some out
 | out,b,x::q,i=>if h:i<out.length then if smI b && smI x && smI (out[i]) then Yp (out.set i (out[i]-b*x)) b q (i+1) else none else none
def Y1(p:List Int)(b:Int)(q:List Int)(i:Nat):Option (List Int):=(Yp p b q i).map Zj
def Xd(z:Int):Int:=(z.natAbs:Int)
def Y2:Nat→List Int→List Int→Option (List Int)
 | 0,_,_=>none
 | n+1,p,q =>
  if p.length<q.length then some p else
  if smL p && smL q then
   match Y1 (Zj (p.map (·*Xd (Zo q)))) (if Zo q<0 then -Zo p else Zo p) q (p.length-q.length) with
   | some r=>Y2 n (ZG r) q
   | none=>none
  else none
def Ki:Nat→List Int→List Int→List Int→Option (List Int)
 | 0,_,_,_=>none
 | n+1,out,p,q =>
  if p.length<q.length then (if p=[] then some (Zj out) else none) else
  if Zo q≠0∧Zo p % Zo q=0∧p.length-q.length<out.length then
   match Y1 p (Zo p / Zo q) q (p.length-q.length) with
   | some r=>Ki n (out.set (p.length-q.length) (Zo p / Zo q)) r q
   | none=>none
  else none
def overL(n:Nat)(p q:List Int):Option (List Int):=Ki n (List.replicate (p.length-q.length+1) 0) p q
def posL(l:List Int):List Int:=if Zo (ZG l)<0 then Zj ((ZG l).map (- ·)) else ZG l
def sqfF:Nat→List Int→List Int→Option (List Int)
 | 0,_,_=>none
 | n+1,f,g =>
  if smL f && smL g then
   if g=[] then some f else
   match Y2 20 f g with
   | some r=>if smL r then sqfF n g (ZG r) else none
   | none=>none
  else none
def sqfA(l:List Int):Bool:=smL l && smL (ZG l) && decide (0<(ZG l).length) && smL (posL l) && decide (0<(posL l).length)
def sqfB(l f:List Int):Bool:=smL f && smL (ZG f) && decide (0<(ZG f).length) && smL (posL f) && decide (0<(posL f).length) && decide ((posL f).length≤(posL l).length)
def sqfL(l:List Int):Option (List Int):=
 if sqfA l then
  match sqfF 20 (posL l) (derL (posL l)) with
  | some f=>if sqfB l f then overL 20 (posL l) (posL f) else none
  | none=>none
 else none
def UB:Nat→List (List Int)→List Int→List Int→Option (List (List Int))
 | 0,_,_,_=>none
 | n+1,out,f,g =>
  if smL f && smL g && decide (0<g.length) && decide (out.length≤1000) then
   if g.length=1 then some (out++[g]) else
   match Y2 20 f g with
   | some r=>if smL r && smL (Zj (r.map (- ·))) then UB n (out++[g]) g (ZG (Zj (r.map (- ·)))) else none
   | none=>none
  else none
def ZaX(l:List Int):Option (List (List Int)):=
 match sqfL l with
 | some f=>if smL f && decide (0<f.length) then (if f.length=1 then some [f] else if smL (derL f) then UB 20 [f] f (ZG (derL f)) else none) else none
 | none=>none
def sgZ(z:Int):Int:=if z=0 then 0 else if z<0 then -1 else 1
def stZ(l:List Int)(num den:Int):Int × Int:=l.foldl (fun s c=>(s.1*num+c*s.2,s.2*den)) (0,1)
def Y3(p:List Int)(num den:Int):Int:=sgZ (stZ p.reverse num den).1
def smS(l:List Int):Bool:=decide (l.length≤20) && l.all fun z=>decide (z.natAbs<4294967296 ^ 2)
def ZK:List Int→Int→Int→Int
 | [],_,n=>n
 | s::l,last,n=>if s=0 then ZK l last n else if s = -last then ZK l s (n+1) else ZK l s n
def Xk(c:List (List Int))(num den:Int):Int:=ZK (c.map fun p=>Y3 p num den) 0 0
def YK(p:List Int)(lo hi:Int):Option Int:=
 match ZaX (Zj p) with
 | some c=>if decide (c.length≤1000) && c.all (fun p=>smS p && decide (0<p.length)) then some (Xk c lo 1-Xk c hi 1) else none
 | none=>none
end FF
end
namespace Go.Proofs.YthkklilhjnpedaaGreatDoor
section
open Go.RowKit FF
section
variable {u v u' v':Value}{x y:Int}{w:World}{j k:Nat}
theorem cSub(hx:IC w u v x)(hy:IC w u' v' y)(h1:Wn j x)(h2:Wn k y)(h:j+k≤400):Calls Tryz.prog 87 #[.agg #[u,v],.agg #[u',v']] w (Zb (VI (x-y)) w):=by
 obtain⟨A,c,rfl,rfl,g⟩:=hx
 obtain⟨A',c',rfl,rfl,g'⟩:=hy
 have:=h1.wl;have:=h2.wl
 exact(Zgx _ _ _ _ _ _ _ _ x y w g g' (by omega)).mono fun _ _ h=>UU h
theorem cGcd(hx:IC w u v x)(hy:IC w u' v' y)(h1:Wn j x)(h2:Wn k y)(h:j+k≤400):Calls Tryz.prog 178 #[.agg #[u,v],.agg #[u',v']] w (Zb (VI (Int.gcd x y)) w):=by
 obtain⟨A,c,rfl,rfl,g⟩:=hx
 obtain⟨A',c',rfl,rfl,g'⟩:=hy
 have:=h1.wl;have:=h2.wl
 exact(Gcd_any _ _ _ _ _ _ _ _ x y w g g' (by omega)).mono fun _ _ h=>UU h
theorem ZcS(hx:IC w u v x)(h1:Wn j x)(h:j≤400):Calls Tryz.prog 170 #[.agg #[u,v]] w (Zb (VI x) w):=by
 obtain⟨A,c,rfl,rfl,g⟩:=hx
 have:=h1.wl
 exact(Zho _ _ _ _ x w g (by omega)).mono fun _ _ h=>UU h
theorem Xt(W:World):IC W (.bool false) (.slice none 0 0) 0:=⟨none,0,rfl,rfl,AI.of_post (z:=0) (fun h=>absurd h (by decide)) (nlr _) (Nat.zero_le _)⟩
theorem UV(k:Nat):Wn k 0:=Nat.pow_pos (by decide)
end
theorem lnW_zero{x:Int}:((lnW x:Nat):Int)=0↔x=0:=by
 unfold lnW
 have:=@XE x.natAbs
 omega
theorem Zdv{u v:Value}{x:Int}{w:World}(hx:IC w u v x):Calls Tryz.prog 173 #[.agg #[u,v]] w fun e w'=>e=.returned (.bool (decide (x=0)))∧Below w.heap.size w w':=by
 obtain⟨A,c,rfl,rfl,g⟩:=hx
 have e0:(((lnW x:Nat):Int) == 0)=decide (x=0):=decide_eq_decide.2 lnW_zero
 go_enter Tryz.func173,Tryz.ntmps173
 generalize lnW x=n at *
 go_wp2_with fail
 go_ret
 refine⟨rfl,?_⟩
 exact(brf _ _).alloc (nlr _) _
theorem ZaY{w w1:World}{R:Nat}{p q:Value}{z:Int}(u0 u1:Value)(h:IC w1 p q z)(hn:NoIntAt w1 R)(n0:∀ k n,u0≠.int k n)(B:Below w.heap.size w w1)(hR:w.heap.size≤R) :
  Zb (VI z) w (.returned (.agg #[p,q])) ((w1.setCell ⟨R,0,none⟩ u0).setCell ⟨R,1,none⟩ u1):=
 ⟨_,rfl,⟨_,_,rfl,(h.only (Only.setCell _ _ _ _) hn).only (Only.setCell _ _ _ _) (hn.set 0 n0)⟩,(B.setCell hR _).setCell hR _⟩
theorem KE(s:Bool)(A:Option Addr)(n c:Nat)(i:Nat)(k:IntKind)(z:Int):#[Value.bool s,.slice A n c][i]?≠some (.int k z):=by
 rcases i with _ | _ | i <;> simp
theorem K7{u v:Value}{x:Int}{k:Nat}{w:World}(hx:IC w u v x)(h1:Wn k x)(hk:k≤300):Calls Tryz.prog 172 #[.agg #[u,v]] w (Zb (VI (-x)) w):=by
 have hS:=lhd (fun (W:World) (h:IC W u v x)=>cSub (Xt W) h (UV 0) h1 (by omega))
 have hX:=lhd hx
 clear hx h1
 go_enter Tryz.func172,Tryz.ntmps172
 go_wp2_with fail
 refine(hS.out _ (hX.out.keep (((Below.refl _ _).alloc (Nat.le_refl _) _).alloc (by simp) _))).mono ?_
 rintro e w' ⟨_,rfl,⟨p,q,rfl,h⟩,hb⟩
 have hn:=(NoIntAt.new (w.alloc (.cells #[u,v] 57)) 57 (KE false none 0 0) (g:=w.heap.size+1) (by simp)).keep (by simp) hb
 obtain⟨-,c1,f1,hlt,B⟩:=YH (by simpa using hb)
 have c10:=c1 0;have c11:=c1 1;have f0:=f1 0;have f2:=f1 1
 simp only[List.getElem?_toArray,List.getElem?_cons_zero,List.getElem?_cons_succ]at c10 c11
 rw[Int.zero_sub]at h
 obtain⟨A,c,rfl,rfl,g⟩:=h
 have H:=lhd (show IC w' (.bool (sgB (-x))) (.slice A (lnW (-x)) c) (-x) from⟨A,c,rfl,rfl,g⟩);have HN:=lhd hn
 clear c1 f1 hn g
 generalize sgB (-x)=s at *
 generalize lnW (-x)=n at *
 go_wp2_with fail
 refine bodyPost_ret (v:=.agg #[.bool s,.slice A n c]) (by simp[results,Tryz.results172,go_sem,c10,c11]) rfl ?_
 exact ZaY _ _ H.out HN.out (fun _ _ e=>by cases e) B (by omega)
theorem UC{u v:Value}{x:Int}{k:Nat}{w:World}(hx:IC w u v x)(h1:Wn k x)(hk:k≤300):Calls Tryz.prog 147 #[.agg #[u,v]] w (Zb (VC (.int .i64 (sgn x))) w):=by
 have hS:=lhd (fun (W:World) (h:IC W u v x)=>cCmp h (Xt W) h1 (UV 0) (by omega))
 have hX:=lhd hx
 clear hx h1
 go_enter Tryz.func147,Tryz.ntmps147
 go_wp2_with fail
 refine(hS.out _ (hX.out.keep (((brf _ _).alloc (nlr _) _)))).mono ?_
 rintro e w' ⟨_,rfl,rfl,hb⟩
 rw[Int.sub_zero]
 go_wp2_with fail
 go_ret
 exact⟨_,rfl,rfl,((Below.refl w.heap.size w).alloc (Nat.le_refl _) _).trans (hb.mono (by simp))⟩
theorem ZfT(x:Int):(sgn x<0∧Xd x = -x)∨(¬ sgn x<0∧Xd x=x):=by
 unfold Xd sgn;split <;> (try split) <;> omega
theorem Zdw{u v:Value}{x:Int}{k:Nat}{w:World}(hx:IC w u v x)(h1:Wn k x)(hk:k≤300):Calls Tryz.prog 129 #[.agg #[u,v]] w (Zb (VI (Xd x)) w):=by
 have hS:=lhd (fun (W:World) (h:IC W u v x)=>UC h h1 hk)
 have hN:=lhd (fun (W:World) (h:IC W u v x)=>K7 h h1 hk)
 have hM:=lhd (fun (W:World) (h:IC W u v x)=>ZcS h h1 (by omega))
 have hX:=lhd hx
 clear hx h1
 rcases ZfT x with⟨hs,hz⟩ | ⟨hs,hz⟩ <;> rw[hz] <;> clear hz
 all_goals
  generalize sgn x=sg at *
  go_enter Tryz.func129,Tryz.ntmps129
  go_wp2_with fail
  refine(hS.out _ (hX.out.keep (((Below.refl _ _).alloc (Nat.le_refl _) _).alloc (by simp) _))).mono ?_
  rintro e w1 ⟨_,rfl,rfl,hb⟩
  obtain⟨d0,-,-,-,-⟩:=YH (by simpa using hb)
  have c00:=d0 0;have c01:=d0 1
  simp only[List.getElem?_toArray,List.getElem?_cons_zero,List.getElem?_cons_succ]at c00 c01
  clear d0
  go_wp2_with fail
  first
  | refine(hN.out _ (hX.out.keep ((((Below.refl w.heap.size w).alloc (Nat.le_refl _) _).alloc (by simp) _).trans (hb.mono (by simp;omega))))).mono ?_
  | refine(hM.out _ (hX.out.keep ((((Below.refl w.heap.size w).alloc (Nat.le_refl _) _).alloc (by simp) _).trans (hb.mono (by simp;omega))))).mono ?_
  rintro e w' ⟨_,rfl,⟨p,q,rfl,h⟩,hb'⟩
  have hb2:=hb.trans (hb'.mono hb.size)
  have hn:=(NoIntAt.new (w.alloc (.cells #[u,v] 57)) 57 (KE false none 0 0) (g:=w.heap.size+1) (by simp)).keep (by simp) hb2
  obtain⟨-,c1,f1,hlt,B⟩:=YH (by simpa using hb2)
  have c10:=c1 0;have c11:=c1 1;have f0:=f1 0;have f2:=f1 1
  simp only[List.getElem?_toArray,List.getElem?_cons_zero,List.getElem?_cons_succ]at c10 c11
  obtain⟨A,c,rfl,rfl,g⟩:=h
  have H:=lhd (show IC w' _ _ _ from⟨A,c,rfl,rfl,g⟩);have HN:=lhd hn
  clear c1 f1 hn g hb hb' hb2 c00 c01
  generalize sgB _=s at *
  generalize lnW _=n at *
  go_wp2_with fail
  refine bodyPost_ret (v:=.agg #[.bool s,.slice A n c]) (by simp[results,Tryz.results129,go_sem,c10,c11]) rfl ?_
  exact ZaY _ _ H.out HN.out (fun _ _ e=>by cases e) B (by omega)
theorem ZcT{u v u' v':Value}{x y:Int}{w:World}{j k:Nat}(hx:IC w u v x)(hy:IC w u' v' y)(h1:Wn j x)(h2:Wn k y)(h:j+k≤400):Calls Tryz.prog 168 #[.agg #[u,v],.agg #[u',v']] w
  (Zb (fun r W=>∃ a b c d,r=.tuple #[.agg #[a,b],.agg #[c,d],.int .i64 (errZ y)]∧IC W a b (x / y)∧IC W c d (remZ x y)) w):=by
 obtain⟨A,c,rfl,rfl,g⟩:=hx
 obtain⟨A',c',rfl,rfl,g'⟩:=hy
 have:=h1.wl;have:=h2.wl
 refine(ZhA _ _ _ _ _ _ _ _ x y w g g' (by omega)).mono ?_
 rintro e w' ⟨A2,c2,A3,c3,rfl,s2,s3,k2,m2,k3,m3,hb⟩
 exact⟨_,rfl,⟨_,_,_,_,rfl,⟨A2,c2,rfl,rfl,AI.of_post s2 k2 m2⟩,⟨A3,c3,rfl,rfl,AI.of_post s3 k3 m3⟩⟩,hb⟩
theorem Zdx{W:World}{R:Nat}(h:R<W.heap.size)(o o':Obj)(i:Nat):((W.alloc o).alloc o').cell? ⟨R,i,none⟩=W.cell? ⟨R,i,none⟩∧((W.alloc o).alloc o').frozen? ⟨R,i,none⟩=W.frozen? ⟨R,i,none⟩:=by
 have hb:Below W.heap.size W ((W.alloc o).alloc o'):=((Below.refl _ _).alloc (Nat.le_refl _) _).alloc (by simp) _
 exact⟨hb.cell (p:=⟨R,i,none⟩) h,hb.frozen (p:=⟨R,i,none⟩) h⟩
theorem wQuo_any{u v u' v':Value}{x y:Int}{j k:Nat}{w:World}(hx:IC w u v x)(hy:IC w u' v' y)(h1:Wn j x)(h2:Wn k y)(hk:j+k≤400):Calls Tryz.prog 180 #[.agg #[u,v],.agg #[u',v']] w (Zb (VI (x / y)) w):=by
 have hS:=lhd (fun (W:World) (h:IC W u v x) (h':IC W u' v' y)=>ZcT h h' h1 h2 hk)
 have hX:=lhd hx;have hY:=lhd hy
 clear hx hy h1 h2
 go_enter Tryz.func180,Tryz.ntmps180
 go_wp2_with fail
 have B0:Below w.heap.size w (((w.alloc (.cells #[u,v] 57)).alloc (.cells #[u',v'] 57)).alloc (.cells #[.bool false,.slice none 0 0] 57)):=(((Below.refl _ _).alloc (Nat.le_refl _) _).alloc (by simp) _).alloc (by simp;omega) _
 refine(hS.out _ (hX.out.keep B0) (hY.out.keep B0)).mono ?_
 rintro e w' ⟨_,rfl,⟨a,b,c,d,rfl,g,g'⟩,hb⟩
 have hn:=(NoIntAt.new ((w.alloc (.cells #[u,v] 57)).alloc (.cells #[u',v'] 57)) 57 (KE false none 0 0) (g:=w.heap.size+1+1) (by simp)).keep (by simp) hb
 obtain⟨-,-,c1,f1,hlt,B⟩:=ZL (by simpa using hb)
 have c10:=c1 0;have c11:=c1 1;have f0:=f1 0;have f2:=f1 1
 simp only[List.getElem?_toArray,List.getElem?_cons_zero,List.getElem?_cons_succ]at c10 c11
 obtain⟨A,c,rfl,rfl,k1⟩:=g
 obtain⟨A',c',rfl,rfl,k2⟩:=g'
 have H:=lhd (show IC w' _ _ _ from⟨A,c,rfl,rfl,k1⟩);have HN:=lhd hn
 clear c1 f1 hn k1 k2 hb B0
 generalize sgB (x / y)=s at *
 generalize lnW (x / y)=n at *
 generalize sgB (remZ x y)=s' at *
 generalize lnW (remZ x y)=n' at *
 generalize errZ y=er at *
 have w2:=fun i=>Zdx hlt (.cells #[.bool s,.slice A n c] 57) (.cells #[.bool s',.slice A' n' c'] 57) i
 have w20:=(w2 0).1.trans c10;have w21:=(w2 1).1.trans c11;have g0:=(w2 0).2.trans f0;have g1:=(w2 1).2.trans f2
 have B2:=lhd (((Below.refl w'.heap.size w').alloc (Nat.le_refl _) (.cells #[.bool s,.slice A n c] 57)).alloc (by simp) (.cells #[.bool s',.slice A' n' c'] 57))
 have hlt2:=lhd hlt
 clear w2 c10 c11 f0 f2
 go_wp2_with fail
 refine bodyPost_ret (v:=.agg #[.bool s,.slice A n c]) (by simp[results,Tryz.results180,go_sem,w20,w21]) rfl ?_
 exact ZaY _ _ (H.out.keep B2.out) (HN.out.keep hlt2.out B2.out) (fun _ _ e=>by cases e) (B.trans (B2.out.mono B.size)) (by omega)
end
section
open Go.RowKit FF
theorem Zdy{l:List Int}(h:0<l.length):l[l.length-1]?=some (Zo l):=by
 unfold Zo
 rw[← List.getLast?_eq_getElem?,List.getLastD_eq_getLast?]
 cases e:l.getLast? with
 | none=>rw[List.getLast?_eq_none_iff.1 e]at h;simp at h
 | some z=>rfl
theorem Uf{v:Value}{l:List Int}{w:World}(hv:VP l v w)(h0:0<l.length):Calls Tryz.prog 174 #[v] w (Zb (VI (Zo l)) w):=by
 obtain⟨A,c,rfl,h1,h2,h3⟩:=hv
 obtain⟨b,o,rfl,hb,hc⟩:=h3 h0
 obtain⟨x,y,cx,cy,g⟩:=hc _ _ (Zdy h0)
 obtain⟨n,hn⟩:∃ n,l.length=n+1:=⟨l.length-1,by omega⟩
 rw[hn]at cx cy h1 ⊢
 rw[Nat.add_sub_cancel]at cx cy
 have hw:wrap64 (n:Int)=n:=by unfold maxLen at h2;unfold wrap64;omega
 obtain⟨a,c',rfl,rfl,k1⟩:=g
 have H:=lhd (show IC w _ _ _ from⟨a,c',rfl,rfl,k1⟩)
 clear hc h3 hn h0 k1 h1 h2
 generalize Zo l=z at *
 generalize sgB z=s at *
 generalize lnW z=m at *
 go_enter Tryz.func174,Tryz.ntmps174
 go_wp2_with fail
 refine bodyPost_ret (v:=.agg #[.bool s,.slice a m c']) (by simp[results,Tryz.results174,go_sem]) rfl ?_
 have B:=(brf w.heap.size w).alloc (nlr _) (.cells #[.bool s,.slice a m c'] 57)
 exact⟨_,rfl,⟨_,_,rfl,H.out.keep B⟩,B⟩
theorem Xw:(Tryz.prog.info? 57).map (fun i=>(i.zero,i.size,i.bytes))=some (some (.agg #[.bool false,.slice none 0 0]),2,32):=by kernel_rfl
theorem Zbm{P:Program}{ops:Array Oper}{rest:List Oper}{o:Oper}{a:Act}{Q:Exit→Act→World→Prop}(hgd:o.guard=none)(s x:Operand)(t:TypeId)
  (ho:o.op=.call { callee:=.builtin .append,args:=#[s,x],argTypes:=#[t,t] }) (i:TypeInfo)
  (ht:P.underlying t=some (.slice 57)) (hi:P.info? 57=some i) (hz:i.zero=some (.agg #[.bool false,.slice none 0 0])) (hsize:i.size=2) (hby:i.bytes=32)
  {w W:World} {v:Value} {rs:List IRef} (h:OwnN w v rs W) (y:IRef) (hy:IR W y) (ad:Addr) (c:Nat) (hs:a.eval s=v) (hx:a.eval x=.slice (some ad) 1 c)
  (h0:W.cell? (ad.add 0)=some (.bool (sgB y.1))) (h1:W.cell? (ad.add 1)=some (.slice y.2.1 (lnW y.1) y.2.2)) (hl:rs.length≤1000000)
  (K:∀ v' W',OwnN w v' (rs++[y]) W'→W.grownBy W' v.ownBlock→wpList P ops Q rest (a.put o.dst v') W'):wpList P ops Q (o::rest) a W:=by
 refine wpList_plain hgd fun _ hK=>?_
 obtain⟨v',W',hr,k1,k2⟩:=ZcQ (P:=P) t o.type i ht hi hz hsize hby h y hy ad c h0 h1 hl
 unfold Oper.wp execOp
 simp only[ho,resolve,invoke,builtin,Sem.run_bind,Sem.run_pure,Result.andThen_ok,List.map_toArray,List.map_cons,List.map_nil,hs,hx,hr]
 exact hK _ _ (K v' W' k1 k2)
section
variable {w W:World}{v:Value}{rs:List IRef}
theorem OwnN.form(h:OwnN w v rs W)(h0:0<rs.length):∃ g cap,v=.slice (some ⟨g,0,none⟩) rs.length cap∧rs.length≤cap∧cap≤maxLen∧g<W.heap.size:=by
 rcases h.1.1.2 with⟨-,hn⟩ | ⟨g,cap,cur,rfl,hb,hg,hnc,hcm,-⟩
 ·omega
 ·exact⟨g,cap,rfl,hnc,hcm,(Array.getElem?_eq_some_iff.1 hg).1⟩
theorem OwnN.pop{g cap:Nat}{y:IRef}(h:OwnN w (.slice (some ⟨g,0,none⟩) (rs.length+1) cap) (rs++[y]) W):OwnN w (.slice (some ⟨g,0,none⟩) rs.length cap) rs W:=by
 refine⟨⟨⟨by rw[YE],?_⟩,h.1.2.1,fun x hx=>h.1.2.2 x (List.mem_append_left _ hx)⟩,h.2⟩
 rcases h.1.1.2 with⟨h',-⟩ | ⟨g',cap',cur,h',hb,hg,hnc,hcm,hcs,ht⟩
 ·cases h'
 ·simp only[Value.slice.injEq,Option.some.injEq,Addr.mk.injEq,and_true]at h'
  obtain⟨rfl,-,rfl⟩:=h'
  rw[List.length_append,List.length_singleton]at hnc ht
  refine .inr ⟨g,cap,cur,rfl,hb,hg,by omega,hcm,hcs,?_⟩
  have:=congrArg (List.take (rs.length*2)) ht
  rw[List.take_take,Nat.min_eq_left (by omega),List.flatMap_append,← YE rs,List.take_left]at this
  rw[← YE rs]
  exact this
theorem OwnN.cell{g cap n:Nat}(h:OwnN w (.slice (some ⟨g,0,none⟩) n cap) rs W)(hn:n=rs.length){i:Nat}{x:IRef}(hx:rs[i]?=some x) :
  W.cell? ⟨g,0+i*2,none⟩=some (.bool (sgB x.1))∧W.cell? ⟨g,0+i*2+1,none⟩=some (.slice x.2.1 (lnW x.1) x.2.2)∧IR W x:=by
 subst hn
 have hi:i<rs.length:=(List.getElem?_eq_some_iff.1 hx).1
 have hcell:∀ d,d<2→W.cell? ⟨g,0+i*2+d,none⟩=(ZH x)[d]?:=fun d hd=>by
  have:=h.1.1.cellAt (i*2+d) (by omega)
  rw[KX rs i d x hx hd]at this
  rw[Nat.zero_add,this]
 exact⟨hcell 0 (by omega),hcell 1 (by omega),h.1.2.2 x (mGe hx)⟩
end
theorem VP.len{l:List Int}{v:Value}{W:World}(h:VP l v W):∃ A c,v=.slice A l.length c∧l.length≤c∧c≤maxLen:=by
 obtain⟨A,c,e,h1,h2,-⟩:=h
 exact⟨A,c,e,h1,h2⟩
theorem VP.at{l:List Int}{A:Option Addr}{n c:Nat}{W:World}(h:VP l (.slice A n c) W){i:Nat}{z:Int}(hi:l[i]?=some z) :
  ∃ b o s A' m c',A=some ⟨b,o,none⟩∧W.cell? ⟨b,o+i*2,none⟩=some (.bool s)∧W.cell? ⟨b,o+i*2+1,none⟩=some (.slice A' m c')∧IC W (.bool s) (.slice A' m c') z∧b<W.heap.size:=by
 obtain⟨A0,c0,e,h1,h2,h3⟩:=h
 have hl:i<l.length:=(List.getElem?_eq_some_iff.1 hi).1
 obtain⟨b,o,e2,hlt,hc⟩:=h3 (by omega)
 obtain⟨x,y,h4,h5,g⟩:=hc i z hi
 obtain⟨A',c',rfl,rfl,k⟩:=g
 injection e with e3 e4 e5
 exact⟨b,o,_,A',_,c',e3.trans e2,h4,h5,⟨A',c',rfl,rfl,k⟩,hlt⟩
end
end Go.Proofs.YthkklilhjnpedaaGreatDoor
