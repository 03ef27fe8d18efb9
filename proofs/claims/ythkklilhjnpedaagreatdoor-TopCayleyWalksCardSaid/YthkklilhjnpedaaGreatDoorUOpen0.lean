/- What the rows of this seat have in common: the heap in which the door's own run ends meets the condition on the listed variables. -/
import Derived.Test.YthkklilhjnpedaaGreatDoorRows
import Derived.WalkKit
import Derived.ProofKit
import Derived.OpenShut
import Derived.Below
import Derived.ChangeSame
import Derived.Test.YthkklilhjnpedaaGreatDoorUBase
import Derived.Test.YthkklilhjnpedaaGreatDoorUWordA
import Derived.ReadAgain
import Derived.ChangeSlices
import Derived.Lib.SmallJoins
import Derived.ChangeArms
import Derived.LaidMore
import Derived.Stop.Joined
set_option maxHeartbeats 16000000
set_option maxRecDepth 8000
namespace Go.Proofs.YthkklilhjnpedaaGreatDoor
section
open Go.RowKit Go.WideShapes Go.ChangeShapes FF
section
variable {H:Type}{enc:TypeId × Value→H}{P:Program}
theorem ZdL{f:Func}{s:ChangeSpec}{apart fresh handsOn again:Bool}{W W':World}{args:Array Value}{v:Value}{ds gs:List (DataW H)}{before pa pv:List MemPlace}
  (hW:DataW.Whole enc P f.params.toList s.vars apart W args.toList ds gs before)
  (hres:∀ (b:Nat) (sp:Nat→Bool) (hd:Bool),DataW.TrodAll enc P W' b sp hd f.resultTypes.toList (v.resultList f.resultTypes.size) (s.fn H (ds++gs)).results [])
  (hargs:∀ sp:Nat→Bool,(∀ p∈before,sp p.block=true)→DataW.TrodAll enc P W' 0 sp true f.params.toList args.toList (s.fn H (ds++gs)).args pa)
  (hvars:∀ sp:Nat→Bool,(∀ p∈before,sp p.block=true)→DataW.TrodVars enc P W' sp s.vars (s.fn H (ds++gs)).vars pv)
  (hps:before=pa++pv) (hb:Below W.heap.size W W')
  (hok:∀ (j:Nat) (t:TypeId) (r:Value),f.resultTypes[j]?=some t→(v.resultList f.resultTypes.size)[j]?=some r→Value.okWide P W' .any 0 t r) :
  s.post enc P f apart fresh handsOn again W args v W':=by
 have hlt:∀ p∈before,p.block<W.heap.size:=fun p hp=>hW.lt p hp
 have hold:∀ p∈before,(fun b=>decide (b<W.heap.size)) p.block=true:=fun p hp=>by simpa using hlt p hp
 refine⟨ds,gs,before,[],pa,pv,hW,hres _ _ _,hargs _ hold,hvars _ hold,World.keptBut_mono (fun p hp=>⟨hp,?_⟩) (hb.frame (·∈before)),fun _=>?_⟩
 ·rw[hps,List.mem_append]at hp
  exact Or.inr hp
 ·obtain⟨_,_,_,_,_,hz,hn⟩:=hW
  refine⟨hok,_,_,([]++pa)++pv,⟨[]++pa,pv,trodAll_append (hargs _ (fun _ _=>rfl)) (hres _ _ _),hvars _ (fun _ _=>rfl),rfl,?_,?_⟩,?_⟩
  ·intro b off hp
   have hin:MemPlace.cell b off∈before:=by rw[hps];simpa using hp
   rw[hb.frozen (hlt _ hin)]
   exact hz b off hin
  ·intro ha
   have:=hn ha
   rw[hps]at this
   simpa using this
  ·intro p hp _
   rw[hps]
   simpa using hp
end
open Go.RowKit Go.WideShapes Go.ChangeShapes FF
theorem and2{a b:Bool}(h:a=true)(g:b=true):(a && b)=true:=by rw[h,g];rfl
theorem ZiK{P:Program}{f:FuncId}{fn:Func}{s:ChangeSpec}{c:OpenClaim}
  (k1:c.wf (OpenSpec.ofChange s)=true) (k2:laidOutB P=true) (k3:mapsRowed P=true) (k4:fn.params.all (P.readableRec ·)=true) (k5:namedTie P c.named s.vars=true)
  (k6:(c.stops == [])=true) (k7:(P.stops == [])=true) (k8:(c.knobs == [])=true) (k9:(P.stopKnobs == [])=true)
  (k10:(c.inPlace == P.inPlace f)=true) (k11:(c.unfollowed == P.unfollowed f)=true) (k12:(c.recurses == P.recurses f)=true) (k13:(c.named == P.varsNamed f)=true)
  (k14:(c.maps == (fn.params.toList++s.plain.varTypes P).any (P.mapsRec ·))=true) (k15:(c.ifaces == (fn.params.toList++s.plain.varTypes P).any (P.ifacesRec ·))=true) (k16:(c.mapsOut == P.mapsAmong fn.resultTypes.toList)=true)
  (k17:(c.loops == (fn.params.toList++s.plain.varTypes P).any (P.loopsFrom ·))=true) (k18:(c.wideKeys == (fn.params.toList++s.plain.varTypes P++fn.resultTypes.toList).any (P.wideKeysFrom ·))=true)
  (k19:s.vars.all (P.varReadable ·)=true) (k20:fn.resultTypes.all (fun t=>P.readableRec t && decide (t<P.types.size))=true) (k21:(c.ifacesOut == fn.resultTypes.toList.any (P.ifacesRec ·))=true) (k22:(c.loopsOut == fn.resultTypes.toList.any (P.loopsFrom ·))=true)
  (k23:(c.plainKeys == P.plainKeys)=true) (k24:c.shortTexts.isNone=true) (k25:P.stopsHeard=true) (k26:P.mayEnter=true) (k27:(c.lifted == P.liftsFinal)=true) (k28:(P.make == some c.make)=true)
  (k29:(c.kinds == (if c.domain.isEmpty then [] else fn.params.toList.map fun t=>match P.underlying t with | some (.int k)=>some k | _=>none))=true) (k30:(c.pinned == c.pinnedBy)=true)
  (k31:(c.veiled == (fn.params.toList++s.plain.varTypes P++fn.resultTypes.toList).any (P.veiledRec ·))=true) (k32:c.veiledFits P fn.params.toList (fn.params.toList++s.plain.varTypes P++fn.resultTypes.toList)=true) :
  joinedFacts P f fn s c=true:=by
 unfold joinedFacts
 exact(and2 (and2 (and2 (and2 (and2 (and2 (and2 (and2 (and2 (and2 (and2 (and2 (and2 (and2 (and2 (and2 (and2 (and2 (and2 (and2 (and2 (and2 (and2 (and2 (and2 (and2 (and2 (and2 (and2 (and2 (and2 k1 k2) k3) k4) k5) k6) k7) k8) k9) k10) k11) k12) k13) k14) k15) k16) k17) k18) k19) k20) k21) k22) k23) k24) k25) k26) k27) k28) k29) k30) k31) k32)
theorem own:ownKnob Tryz.prog.godebug=none:=by kernel_rfl
theorem pk2:laidOutB Tryz.checked.prog=true:=by kernel_rfl
theorem pk3:mapsRowed Tryz.checked.prog=true:=by kernel_rfl
theorem pk7:(Tryz.checked.prog.stops == [])=true:=by kernel_rfl
theorem pk9:(Tryz.checked.prog.stopKnobs == [])=true:=by kernel_rfl
theorem pk23:(Rows.topCayleyWalksRow.plainKeys == Tryz.checked.prog.plainKeys)=true:=by kernel_rfl
theorem pk25:Tryz.checked.prog.stopsHeard=true:=by kernel_rfl
theorem pk26:Tryz.checked.prog.mayEnter=true:=by kernel_rfl
theorem pk27:(Rows.topCayleyWalksRow.lifted == Tryz.checked.prog.liftsFinal)=true:=by kernel_rfl
theorem pk28:(Tryz.checked.prog.make == some Rows.topCayleyWalksRow.make)=true:=by kernel_rfl
theorem ZeC{α:Type}[BEq α][LawfulBEq α]{a b x:α}(h:(a == x)=true)(e:b=a):(b == x)=true:=e ▸ h
theorem ZiL{α:Type}[BEq α][LawfulBEq α]{a b:α}{x:Option α}(h:(x == some a)=true)(e:b=a):(x == some b)=true:=e ▸ h
open Go.RowKit Go.WideShapes Go.ChangeShapes Go.Joins Go.Deep FF
theorem Zg6:((List.range Tryz.checked.prog.types.size).all fun t=>match Tryz.checked.prog.underlying t with | some (.slice e)=>decide (0<Tryz.checked.prog.cellsOf e) | _=>true)=true:=by kernel_rfl
section
variable {H:Type}{enc:TypeId × Value→H}
theorem Zan{P:Program}{w w':World}{base:Nat}{spare:Nat→Bool}{held:Bool}:∀ {ts:List TypeId} {vs:List Value} {ds:List (DataW H)} {ps:List MemPlace},
  DataW.TrodAll enc P w base spare held ts vs ds ps→(∀ p∈ps,w.sameAt w' p)→DataW.TrodAll enc P w' base spare held ts vs ds ps
 | [],[],[],_,h,_=>h
 | _::_,_::_,_::_,_,⟨p,q,⟨n,hn⟩,h2,e⟩,hs=>⟨p,q,⟨n,DataW.trod_carry n _ _ _ hn (fun x hx=>hs x (by rw[e];exact List.mem_append_left _ hx))⟩,Zan h2 (fun x hx=>hs x (by rw[e];exact List.mem_append_right _ hx)),e⟩
theorem ZfA{P:Program}(hl:laidOutB P=true)(hm:mapsRowed P=true)(hf:((List.range P.types.size).all fun t=>match P.underlying t with | some (.slice e)=>decide (0<P.cellsOf e) | _=>true)=true)
  {W W':World} {ts:List TypeId} {vs:List Value} {ds:List (DataW H)} {ps:List MemPlace} (hT:(ts.all fun t=>decide (t<P.types.size))=true)
  (h:DataW.TrodAll enc P W 0 (fun _=>true) true ts vs ds ps) (hb:Below W.heap.size W W') (sp:Nat→Bool) (hs:∀ p∈ps,sp p.block=true) :
  DataW.TrodAll enc P W' 0 sp true ts vs ds ps:=
 Zan (DataW.TrodAll.respare (kids_rows hl hm) (slices_full_of _ hf) (fun t ht=>of_decide_eq_true (List.all_eq_true.1 hT t ht)) h hs) fun p hp=>hb.same (h.lt p hp)
variable {P:Program}{w:World}{base:Nat}{spare:Nat→Bool}{held:Bool}
theorem Zg7{w:World}{b o:Nat}{v:Value}(h:w.cell? ⟨b,o,none⟩=some v):b<w.heap.size:=by
 rcases Nat.lt_or_ge b w.heap.size with hb | hb
 ·exact hb
 ·have:w.heap[b]?=none:=Array.getElem?_eq_none hb
  simp[World.cell?,this]at h
end
end
section
open Go.RowKit Go.WideShapes Go.ChangeShapes Go.ChangeAt FF
theorem door_met(os:Os)(args:Array Value):laidMetH Tryz.prog Rows.topCayleyWalksRow.laid ((World.doorLaid Tryz.prog 400 os).forCall (fun _ _=>0) ⟨#[],args,[]⟩).memory:=
 laidMetH_of_parts3 (fuel:=65) (laidMet_of_run' 65 (by kernel_rfl) (by kernel_rfl)) (by kernel_rfl) (by kernel_rfl)
end
end Go.Proofs.YthkklilhjnpedaaGreatDoor
