/- Plain: numbers as lists of digits, the least first. Half words and words: the digits of a number to the base 2^16 and to the base 2^32. -/
import Derived.Test.YthkklilhjnpedaaGreatDoorRows
import Derived.WalkKit
import Derived.WalkSpells
import Derived.WalkLawsBesides
import Derived.IntWalk
import Derived.Outline
import Derived.Deep.QuietTactic
import Derived.BigQuiet
import Derived.Lib.Hide
import Derived.Test.YthkklilhjnpedaaGreatDoorUNt
set_option maxHeartbeats 16000000
set_option maxRecDepth 8000
namespace Go.Proofs.YthkklilhjnpedaaGreatDoor
section
open Go.RowKit FF
theorem Zp{k:IntKind}{a b:Int}(h:a=b):Ending.returned (.int k a)=.returned (.int k b):=by rw[h]
theorem ZF{a b:Bool}(h:a=b):Ending.returned (.bool a)=.returned (.bool b):=by rw[h]
theorem Y5{k l:IntKind}{a b c d:Int}(h:a=b)(g:c=d):Ending.returned (.tuple #[.int k a,.int l c])=.returned (.tuple #[.int k b,.int l d]):=by rw[h,g]
def I64(a:Int):Prop:=-9223372036854775808≤a∧a≤9223372036854775807
def Ret(w:World)(v:Value)(e:Ending)(w':World):Prop:=e=.returned v∧∃ n,w'=w.drewN n
theorem Ret.eq{w:World}{v v':Value}(n:Nat)(h:Ending.returned v=.returned v'):Ret w v' (.returned v) (w.drewN n):=⟨h,n,rfl⟩
theorem Ret.eq0{w:World}{v v':Value}(h:Ending.returned v=.returned v'):Ret w v' (.returned v) w:=⟨h,0,rfl⟩
theorem Ret.eqqq{w:World}{v v':Value}(a b c:Nat)(h:Ending.returned v=.returned v'):Ret w v' (.returned v) (((w.drewN a).drewN b).drewN c):=⟨h,a+(b+c),by rw[World.drewN_drewN,World.drewN_drewN]⟩
theorem Zq{a b:Int}(h:(a == b)=true):a=b:=beq_iff_eq.1 h
theorem ZA{a b:Int}(h:(a == b)=false):a≠b:=beq_eq_false_iff_ne.1 h
theorem t_beq{a b:Int}(h:a=b):(a == b)=true:=beq_iff_eq.2 h
theorem Xx{a b:Int}(h:a≠b):(a == b)=false:=beq_eq_false_iff_ne.2 h
theorem ZcY{a m:Int}(hm:0<m):a % m=if a.tmod m<0 then a.tmod m+m else a.tmod m:=by
 have h:=Int.emod_eq_tmod (a:=a) (b:=m)
 have e0:=Int.emod_nonneg a (b:=m) (by omega)
 have e1:=Int.emod_lt_of_pos a hm
 have t1:=Int.tmod_lt_of_pos a hm
 have t2:=Int.lt_tmod_of_pos a hm
 by_cases hc:0≤a∨m ∣ a
 ·rw[if_pos hc]at h;rw[if_neg (by omega)];omega
 ·rw[if_neg hc]at h;rw[if_pos (by omega)];omega
theorem Zd1(a b:Int):Int.gcd b (a.tmod b)=Int.gcd a b:=by
 unfold Int.gcd;rw[Int.natAbs_tmod,Nat.gcd_comm,← Nat.gcd_rec,Nat.gcd_comm]
theorem _root_.nmx{α:Sort _}(x:α):∃ y,y=x:=⟨_,rfl⟩
theorem _root_.nlr(n:Nat):n≤n:=Nat.le_refl n
theorem _root_.gEe{α:Type _}{l:List α}{i:Nat}(h:i<l.length):l[i]?=some l[i]:=List.getElem?_eq_getElem h
theorem _root_.gDg{α:Type _}{l:List α}{i:Nat}{a:α}:l.getD i a=l[i]?.getD a:=List.getD_eq_getElem?_getD
theorem _root_.deT{p:Prop}[Decidable p](h:p):decide p=true:=decide_eq_true h
theorem _root_.deF{p:Prop}[Decidable p](h:¬p):decide p=false:=decide_eq_false h
theorem _root_.oSi{α:Type _}{a b:α}(h:some a=some b):a=b:=Option.some.inj h
theorem _root_.nLl{a b c:Nat}(h:a<b)(k:b≤c):a<c:=Nat.lt_of_lt_of_le h k
theorem _root_.lEs{α:Type _}{l:List α}{i:Nat}{a:α}:l[i]?=some a↔∃ h:i<l.length,l[i]=a:=List.getElem?_eq_some_iff
theorem _root_.tOl{α:Type _}{l:List α}{i:Nat}(h:l.length≤i):l.take i=l:=List.take_of_length_le h
theorem _root_.bCo{p:Prop}(h:¬p→False):p:=Classical.byContradiction h
theorem lm0{α:Type _}{a:α}{l:List α}:a∈a::l:=List.mem_cons_self ..
theorem lm1{α:Type _}{a b0:α}{l:List α}:a∈b0::a::l:=List.mem_cons_of_mem _ lm0
theorem lm2{α:Type _}{a b0 b1:α}{l:List α}:a∈b0::b1::a::l:=List.mem_cons_of_mem _ lm1
theorem lm3{α:Type _}{a b0 b1 b2:α}{l:List α}:a∈b0::b1::b2::a::l:=List.mem_cons_of_mem _ lm2
theorem lm4{α:Type _}{a b0 b1 b2 b3:α}{l:List α}:a∈b0::b1::b2::b3::a::l:=List.mem_cons_of_mem _ lm3
theorem lm5{α:Type _}{a b0 b1 b2 b3 b4:α}{l:List α}:a∈b0::b1::b2::b3::b4::a::l:=List.mem_cons_of_mem _ lm4
theorem lm6{α:Type _}{a b0 b1 b2 b3 b4 b5:α}{l:List α}:a∈b0::b1::b2::b3::b4::b5::a::l:=List.mem_cons_of_mem _ lm5
theorem lhd{p:Prop}(h:p):RowKit.Hid p:=h
end
end Go.Proofs.YthkklilhjnpedaaGreatDoor
section
namespace FF
def val(B:Nat):List Nat→Nat
 | []=>0
 | x::xs=>x+B*val B xs
def Dig(B:Nat)(xs:List Nat):Prop:=∀ x,x∈xs→x<B
def digF(B:Nat):Nat→Nat→List Nat
 | 0,_=>[]
 | f+1,n=>if n=0 then [] else n % B::digF B f (n / B)
def digs(B n:Nat):List Nat:=digF B n n
theorem ZhQ{B:Nat}(hB:2≤B)(f:Nat):∀ g n,n≤f→n≤g→digF B f n=digF B g n:=by
  induction f with
  | zero => intro g n h1 h2; have : n = 0 := by omega
            subst this;cases g <;> simp[digF]
  | succ f ih =>
    intro g n h1 h2
    cases g with
    | zero => have : n = 0 := by omega
              subst this;simp[digF]
    | succ g =>
      simp only[digF]
      split
      · rfl
      · have:n / B<n:=Nat.div_lt_self (by omega) (by omega)
        rw[ih g (n / B) (by omega) (by omega)]
theorem XC(B:Nat):digs B 0=[]:=rfl
theorem XF{B:Nat}(hB:2≤B){n:Nat}(hn:n≠0):digs B n=n % B::digs B (n / B):=by
 unfold digs
 obtain⟨f,rfl⟩:∃ f,n=f+1:=⟨n-1,by omega⟩
 have:(f+1) / B<f+1:=Nat.div_lt_self (by omega) (by omega)
 conv=>lhs;unfold digF
 rw[if_neg hn,ZhQ hB f _ _ (by omega) (Nat.le_refl _)]
theorem Zd2{B:Nat}(hB:2≤B){x n:Nat}(hx:x<B)(h:x≠0∨n≠0):digs B (x+B*n)=x::digs B n:=by
 have h0:x+B*n≠0:=by
  rcases h with h | h
  ·omega
  ·have:0<B*n:=Nat.mul_pos (by omega) (by omega)
   omega
 rw[XF hB h0,Nat.add_mul_mod_self_left,Nat.mod_eq_of_lt hx,Nat.add_mul_div_left _ _ (by omega),Nat.div_eq_of_lt hx,Nat.zero_add]
theorem val_digs{B:Nat}(hB:2≤B):∀ b n,n≤b→val B (digs B n)=n:=by
  intro b
  induction b with
  | zero => intro n h; have : n = 0 := by omega
            subst this;rfl
  | succ b ih =>
    intro n h
    by_cases h0:n=0
    · subst h0;rfl
    · rw[XF hB h0]
      simp only[val]
      have:n / B<n:=Nat.div_lt_self (by omega) (by omega)
      rw[ih (n / B) (by omega),Nat.mod_add_div]
theorem Ze{B:Nat}(hB:2≤B)(n:Nat):val B (digs B n)=n:=val_digs hB n n (Nat.le_refl _)
theorem dig_digs{B:Nat}(hB:2≤B):∀ b n,n≤b→Dig B (digs B n):=by
  intro b
  induction b with
  | zero => intro n h; have : n = 0 := by omega
            subst this;intro x hx;simp[digs,digF]at hx
  | succ b ih =>
    intro n h
    by_cases h0:n=0
    · subst h0;intro x hx;simp[digs,digF]at hx
    · rw[XF hB h0]
      have:n / B<n:=Nat.div_lt_self (by omega) (by omega)
      intro x hx
      rcases List.mem_cons.1 hx with rfl | hx
      · exact Nat.mod_lt _ (by omega)
      · exact ih (n / B) (by omega) x hx
theorem Zh{B:Nat}(hB:2≤B)(n:Nat):Dig B (digs B n):=dig_digs hB n n (Nat.le_refl _)
theorem Dig.tail{B x:Nat}{xs:List Nat}(h:Dig B (x::xs)):Dig B xs:=fun y hy=>h y (by simp[hy])
theorem Dig.head{B x:Nat}{xs:List Nat}(h:Dig B (x::xs)):x<B:=h x (by simp)
theorem ZQ(B:Nat)(xs ys:List Nat):val B (xs++ys)=val B xs+B ^ xs.length*val B ys:=by
 induction xs with
 | nil=>simp[val]
 | cons x xs ih=>simp only[List.cons_append,val,ih,List.length_cons,Nat.pow_succ];grind
theorem Zaf(B:Nat)(xs:List Nat):val B (xs++[0])=val B xs:=by
 rw[ZQ];simp[val]
theorem ZT{B:Nat}{xs:List Nat}(h:Dig B xs):val B xs<B ^ xs.length:=by
 induction xs with
 | nil=>simp[val]
 | cons x xs ih =>
  simp only[val,List.length_cons,Nat.pow_succ]
  have h1:=h.head
  have h2:=ih h.tail
  have h3:B*val B xs+B≤B*B ^ xs.length:=by
   rw[← Nat.mul_succ];exact Nat.mul_le_mul_left _ h2
  rw[Nat.mul_comm (B ^ xs.length)];omega
theorem digs_val{B:Nat}(hB:2≤B){xs:List Nat}(h:Dig B xs)(hl:xs.getLast?≠some 0):digs B (val B xs)=xs:=by
 induction xs with
 | nil=>rfl
 | cons x xs ih =>
  have hx:=h.head
  cases xs with
  | nil =>
   have:x≠0:=by intro e;rw[e]at hl;simp at hl
   simp only[val,Nat.mul_zero,Nat.add_zero]
   have:=Zd2 hB hx (n:=0) (Or.inl this)
   simpa[XC] using this
  | cons y ys =>
   have hl':(y::ys).getLast?≠some 0:=by rw[List.getLast?_cons_cons]at hl;exact hl
   have hi:=ih h.tail hl'
   show digs B (x+B*val B (y::ys))=_
   have hne:val B (y::ys)≠0:=by
    intro e;rw[e,XC]at hi;simp at hi
   rw[Zd2 hB hx (Or.inr hne),hi]
theorem Zm{B:Nat}(hB:2≤B){n k:Nat}(h:n<B ^ k):(digs B n).length≤k:=by
  induction k generalizing n with
  | zero => have : n = 0 := by simp at h; omega
            subst this;simp[digs,digF]
  | succ k ih =>
    by_cases h0:n=0
    · subst h0;simp[digs,digF]
    · rw[XF hB h0,List.length_cons]
      have:n / B<B ^ k:=by rw[Nat.div_lt_iff_lt_mul (by omega)];rw[Nat.pow_succ]at h;exact h
      have:=ih this;omega
theorem Z3{B:Nat}(hB:2≤B)(n:Nat):n<B ^ (digs B n).length:=by
 have:=ZT (B:=B) (Zh hB n)
 rwa [Ze hB]at this
theorem Zbo{B:Nat}(hB:2≤B){n:Nat}(hn:n≠0):B ^ ((digs B n).length-1)≤n:=by
 apply Classical.byContradiction;intro hc
 have h1:=Zm hB (Nat.lt_of_not_le hc)
 have h2:(digs B n).length≠0:=by rw[XF hB hn];simp
 omega
theorem Zd3{B:Nat}(hB:2≤B){n:Nat}:(digs B n).length=0↔n=0:=by
 constructor
 ·intro h
  apply Classical.byContradiction;intro hn
  rw[XF hB hn]at h;simp at h
 ·rintro rfl;rfl
theorem Ut{B:Nat}(hB:2≤B){xs:List Nat}(h:Dig B xs){k:Nat}(hk:k≤xs.length)(hv:val B (xs.take k)=val B xs)
  (hl:0<k→xs.getD (k-1) 0≠0):xs.take k=digs B (val B xs):=by
 have hd:Dig B (xs.take k):=fun x hx=>h x (List.mem_of_mem_take hx)
 rw[← hv,digs_val hB hd]
 by_cases h0:k=0
 ·subst h0;simp
 ·have h1:=hl (by omega)
  rw[List.getLast?_eq_getElem?,List.length_take,Nat.min_eq_left hk,List.getElem?_take_of_lt (by omega)]
  intro e
  rw[List.getD_eq_getElem?_getD,e]at h1;simp at h1
theorem Yw{B:Nat}{xs:List Nat}{k:Nat}(hk:k<xs.length)(h0:xs.getD k 0=0)(hv:val B (xs.take (k+1))=val B xs):val B (xs.take k)=val B xs:=by
 rw[← hv,List.take_succ_eq_append_getElem hk]
 have:xs[k]=0:=by rw[List.getD_eq_getElem?_getD,List.getElem?_eq_getElem hk]at h0;simpa using h0
 rw[this,Zaf]
theorem Dig.getD{B:Nat}(hB:0<B){xs:List Nat}(h:Dig B xs)(i:Nat):xs.getD i 0<B:=by
 rw[List.getD_eq_getElem?_getD]
 by_cases hi:i<xs.length
 ·rw[List.getElem?_eq_getElem hi];exact h _ (List.getElem_mem hi)
 ·rw[List.getElem?_eq_none (by omega)];simpa using hB
theorem ZcZ(B:Nat)(xs:List Nat)(i:Nat):val B xs=val B (xs.take i)+B ^ (min i xs.length)*val B (xs.drop i):=by
 conv=>lhs;rw[← List.take_append_drop i xs,ZQ,List.length_take]
theorem UD{B:Nat}{xs:List Nat}{i:Nat}(hi:i<xs.length):val B (xs.take (i+1))=val B (xs.take i)+B ^ i*xs.getD i 0:=by
 rw[List.take_succ_eq_append_getElem hi,ZQ,List.length_take,Nat.min_eq_left (by omega)]
 have:xs.getD i 0=xs[i]:=by rw[List.getD_eq_getElem?_getD,List.getElem?_eq_getElem hi];rfl
 rw[this];simp[val]
theorem Zy{B:Nat}(xs:List Nat)(i:Nat):val B (xs.take (i+1))=val B (xs.take i)+B ^ i*xs.getD i 0:=by
 by_cases hi:i<xs.length
 ·exact UD hi
 ·rw[List.take_of_length_le (by omega),List.take_of_length_le (by omega),List.getD_eq_getElem?_getD,List.getElem?_eq_none (by omega)];simp
end FF
namespace FF
def cmpN(a b:Nat):Int:=if a<b then -1 else if a=b then 0 else 1
theorem Zf8{B a b:Nat}(hB:2≤B)(h:(digs B a).length<(digs B b).length):a<b:=by
 apply Classical.byContradiction;intro hc
 have h1:=Z3 hB a
 have hb:b≠0:=by rintro rfl;simp[digs,digF]at h
 have h2:=Zbo hB hb
 have h3:B ^ (digs B a).length≤B ^ ((digs B b).length-1):=Nat.pow_le_pow_right (by omega) (by omega)
 omega
theorem Zf9{B:Nat}{xs ys:List Nat}{i:Nat}(hx:Dig B xs)(hl:xs.length=ys.length)(hi:i<xs.length)
  (hd:xs.drop (i+1)=ys.drop (i+1)) (h:xs.getD i 0<ys.getD i 0):val B xs<val B ys:=by
 rw[ZcZ B xs (i+1),ZcZ B ys (i+1),UD hi,UD (xs:=ys) (by omega),hd,← hl]
 have h1:val B (xs.take i)<B ^ i:=by
  have:=ZT (B:=B) (xs:=xs.take i) (fun x hx'=>hx x (List.mem_of_mem_take hx'))
  rwa [List.length_take,Nat.min_eq_left (by omega)]at this
 have h2:B ^ i*xs.getD i 0+B ^ i≤B ^ i*ys.getD i 0:=by rw[← Nat.mul_succ];exact Nat.mul_le_mul_left _ h
 omega
theorem ZhR{xs ys:List Nat}{i:Nat}(hl:xs.length=ys.length)(hi:i<xs.length)(hd:xs.drop (i+1)=ys.drop (i+1))(h:xs.getD i 0=ys.getD i 0):xs.drop i=ys.drop i:=by
 have hi2:i<ys.length:=by omega
 rw[List.drop_eq_getElem_cons hi,List.drop_eq_getElem_cons hi2,hd]
 rw[List.getD_eq_getElem?_getD,List.getD_eq_getElem?_getD,List.getElem?_eq_getElem hi,List.getElem?_eq_getElem hi2]at h
 have h2:xs[i]=ys[i]:=h
 rw[h2]
theorem Zcz{a b:Nat}(h:a<b):cmpN a b = -1:=if_pos h
theorem Zga{a b:Nat}(h:b<a):cmpN a b=1:=by unfold cmpN;rw[if_neg (by omega),if_neg (by omega)]
theorem cmpN_eq{a b:Nat}(h:a=b):cmpN a b=0:=by unfold cmpN;rw[if_neg (by omega),if_pos h]
end FF
namespace FF
theorem drop_len{xs ys:List Nat}(h:xs.length=ys.length):xs.drop xs.length=ys.drop xs.length:=by
 rw[List.drop_length,h,List.drop_length]
end FF
namespace FF
theorem Zc0(ds:List Nat)(d j:Nat):(ds++[d]).getD j 0=if j=ds.length then d else ds.getD j 0:=by
 rw[List.getD_eq_getElem?_getD,List.getD_eq_getElem?_getD,List.getElem?_append]
 split
 ·rename_i h;rw[if_neg (by omega)]
 ·rename_i h
  by_cases e:j=ds.length
  ·subst e;simp
  ·rw[if_neg e,List.getElem?_eq_none (by simp;omega),List.getElem?_eq_none (by omega)]
theorem XS{B:Nat}{ds:List Nat}{d:Nat}(h:Dig B ds)(hd:d<B):Dig B (ds++[d]):=by
 intro x hx
 rcases List.mem_append.1 hx with h1 | h1
 ·exact h x h1
 ·rw[List.mem_singleton.1 h1];exact hd
theorem Zas{B i c s:Nat}{ds xs ys:List Nat}(hl:ds.length=i)(h:val B ds+B ^ i*c=val B (xs.take i)+val B (ys.take i))
  (hs:s=xs.getD i 0+ys.getD i 0+c):val B (ds++[s % B])+B ^ (i+1)*(s / B)=val B (xs.take (i+1))+val B (ys.take (i+1)):=by
 rw[ZQ,Zy,Zy,hl]
 simp only[val,Nat.mul_zero,Nat.add_zero]
 have e:B ^ i*s=B ^ i*(s % B)+B ^ (i+1)*(s / B):=by
  have:=Nat.mod_add_div s B
  calc B ^ i*s=B ^ i*(s % B+B*(s / B)):=by rw[this]
   _=_:=by rw[Nat.pow_succ];grind
 have e2:B ^ i*s=B ^ i*xs.getD i 0+B ^ i*ys.getD i 0+B ^ i*c:=by rw[hs];grind
 omega
theorem ZgE{B i c c' d:Nat}{ds xs ys:List Nat}(hl:ds.length=i)(h:val B ds+val B (ys.take i)=val B (xs.take i)+B ^ i*c)
  (hs:xs.getD i 0+B*c'=d+ys.getD i 0+c):val B (ds++[d])+val B (ys.take (i+1))=val B (xs.take (i+1))+B ^ (i+1)*c':=by
 rw[ZQ,Zy,Zy,hl]
 simp only[val,Nat.mul_zero,Nat.add_zero]
 have e:B ^ i*xs.getD i 0+B ^ (i+1)*c'=B ^ i*d+B ^ i*ys.getD i 0+B ^ i*c:=by
  have:=congrArg (B ^ i*·) hs
  simp only[Nat.mul_add]at this
  rw[Nat.pow_succ]
  rw[← Nat.mul_assoc]at this
  exact this
 omega
theorem ZgF{B i d r x:Nat}{qs xs:List Nat}(hi:i<xs.length)(hx:xs.getD i 0=x)(h:val B (xs.drop (i+1))=d*val B qs+r) :
  val B (xs.drop i)=d*val B (((r*B+x) / d)::qs)+(r*B+x) % d:=by
 have e:xs.drop i=x::xs.drop (i+1):=by
  rw[List.drop_eq_getElem_cons hi]
  rw[List.getD_eq_getElem?_getD,List.getElem?_eq_getElem hi]at hx
  rw[show xs[i]=x from hx]
 rw[e]
 simp only[val]
 rw[h]
 have:=Nat.div_add_mod (r*B+x) d
 have e2:d*((r*B+x) / d+B*val B qs)=d*((r*B+x) / d)+B*(d*val B qs):=by grind
 rw[e2,Nat.mul_add,Nat.mul_comm B r]
 omega
end FF
namespace FF
theorem ZV{B a b:Nat}(hB:2≤B)(h:a≤b):(digs B a).length≤(digs B b).length:=
 Zm hB (Nat.lt_of_le_of_lt h (Z3 hB b))
def sval(b:Bool)(n:Nat):Int:=if b=true then -(n:Int) else n
theorem ZhS{a b q m:Nat}(hb:0<b)(hq:a / b=q)(hm:a % b=m)(sx sy:Bool) :
  (sx=true→0<m→sval (sx != sy) (q+1)=sval sx a / sval sy b∧((b-m:Nat):Int)=sval sx a % sval sy b) ∧
  ((sx=true→m=0)→sval (sx != sy) q=sval sx a / sval sy b∧(m:Int)=sval sx a % sval sy b):=by
 have hml:m<b:=hm ▸ Nat.mod_lt a hb
 have he:a=b*q+m:=by rw[← hq,← hm];exact(Nat.div_add_mod a b).symm
 have e2:(a:Int)=(b:Int)*(q:Int)+(m:Int):=by
  have:=congrArg (fun n:Nat=>(n:Int)) he
  simpa only[Int.natCast_add,Int.natCast_mul] using this
 have uniq:∀ Q R:Int,R+sval sy b*Q=sval sx a→0≤R→R<b→Q=sval sx a / sval sy b∧R=sval sx a % sval sy b:=by
  intro Q R h1 h2 h3
  cases sy
  ·have:=(Int.ediv_emod_unique (a:=sval sx a) (b:=sval false b) (r:=R) (q:=Q) (by simp[sval];omega)).2 ⟨h1,h2,by simpa[sval] using h3⟩
   exact⟨this.1.symm,this.2.symm⟩
  ·have:=(Int.ediv_emod_unique' (a:=sval sx a) (b:=sval true b) (r:=R) (q:=Q) (by simp[sval];omega)).2 ⟨h1,h2,by simpa[sval] using h3⟩
   exact⟨this.1.symm,this.2.symm⟩
 constructor
 ·intro hsx hm0
  subst hsx
  refine uniq _ _ ?_ (by omega) (by omega)
  have h3:((b-m:Nat):Int)=b-m:=by omega
  rw[h3]
  cases sy <;> simp[sval,e2] <;> grind
 ·intro h0
  refine uniq _ _ ?_ (by omega) (by omega)
  cases sx
  ·cases sy <;> simp[sval,e2] <;> grind
  ·have hm0:m=0:=h0 rfl
   subst hm0
   cases sy <;> simp[sval,e2] <;> grind
end FF
namespace FF
def HB:Nat:=65536
theorem HB2:2≤HB:=by decide
def hl(n:Nat):Nat:=(digs HB n).length
theorem Zc1:∀ (b v:Nat),v≤b→(digs (HB*HB) v).length=(hl v+1) / 2∧∀ i,(digs (HB*HB) v).getD i 0=(digs HB v).getD (2*i) 0+HB*(digs HB v).getD (2*i+1) 0:=by
  have hW:2≤HB*HB:=by decide
  intro b
  induction b with
  | zero => intro v hv
            obtain rfl:v=0:=by omega
            refine⟨rfl,fun i=>?_⟩
            simp[XC]
  | succ b ih =>
    intro v hv
    by_cases h0:v=0
    · subst h0
      refine⟨rfl,fun i=>?_⟩
      simp[XC]
    · have hdd:v / HB / HB=v / (HB*HB):=Nat.div_div_eq_div_mul v HB HB
      have hlt:v / (HB*HB)≤b:=by
        have:=Nat.div_lt_self (Nat.pos_of_ne_zero h0) (show 1<HB*HB by decide)
        omega
      obtain⟨i1,i2⟩:=ih _ hlt
      have hmm:v % (HB*HB)=v % HB+HB*(v / HB % HB):=Nat.mod_mul
      unfold hl at *
      rw[XF hW h0,XF HB2 h0,List.length_cons,i1]
      by_cases h1:v / HB=0
      · have h2:v / (HB*HB)=0:=by rw[← hdd,h1];rfl
        rw[h1,h2,XC,XC]
        refine⟨by simp,fun i=>?_⟩
        rw[hmm,h1]
        cases i with
        | zero=>simp
        | succ i=>simp[show 2*(i+1)=2*i+1+1 by omega]
      · rw[XF HB2 h1,hdd]
        refine⟨by simp only[List.length_cons];omega,fun i=>?_⟩
        cases i with
        | zero=>simp[hmm]
        | succ i =>
          rw[show 2*(i+1)=2*i+1+1 by omega]
          simp only[List.getD_cons_succ]
          exact i2 i
theorem half_len(v:Nat):(digs (HB*HB) v).length=(hl v+1) / 2:=(Zc1 v v (Nat.le_refl _)).1
theorem half_get(v i:Nat):(digs (HB*HB) v).getD i 0=(digs HB v).getD (2*i) 0+HB*(digs HB v).getD (2*i+1) 0:=(Zc1 v v (Nat.le_refl _)).2 i
theorem ZhT{α:Type}{xs:List α}{i:Nat}(d:α)(h:i<xs.length):xs.take (i+1)=xs.take i++[xs.getD i d]:=by
 rw[List.take_add_one,List.getElem?_eq_getElem h,List.getD_eq_getElem?_getD,List.getElem?_eq_getElem h];rfl
end FF
end
