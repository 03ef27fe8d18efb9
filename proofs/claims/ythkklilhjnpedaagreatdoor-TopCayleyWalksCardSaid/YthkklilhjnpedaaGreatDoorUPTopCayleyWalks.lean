/- The statement TopCayleyWalks: for every input the call returns true. No condition. -/
import Derived.Test.YthkklilhjnpedaaGreatDoorCards
import Derived.Test.YthkklilhjnpedaaGreatDoorTie
import Derived.SevenTiedAt
import Derived.Test.YthkklilhjnpedaaGreatDoorUOpen0
import Derived.Test.YthkklilhjnpedaaGreatDoorUCyf
import Derived.Test.YthkklilhjnpedaaGreatDoorUTopCayleyWalks
set_option maxHeartbeats 16000000
set_option maxRecDepth 8000
namespace Go.Proofs.YthkklilhjnpedaaGreatDoor.topCayleyWalks
open Go.ChangeShapes Go.WideShapes Go.ChangeAt Go.RowKit FF
theorem k10:(Rows.topCayleyWalksRow.inPlace == Tryz.checked.prog.inPlace 3)=true:=by kernel_rfl
theorem k11:(Rows.topCayleyWalksRow.unfollowed == Tryz.checked.prog.unfollowed 3)=true:=by kernel_rfl
theorem k12:(Rows.topCayleyWalksRow.recurses == Tryz.checked.prog.recurses 3)=true:=by kernel_rfl
theorem k13:(Rows.topCayleyWalksRow.named == Tryz.checked.prog.varsNamed 3)=true:=by kernel_rfl
theorem k14:(Rows.topCayleyWalksRow.maps == (Tryz.f3.params.toList++Rows.topCayleyWalksSpec.plain.varTypes Tryz.checked.prog).any (Tryz.checked.prog.mapsRec ·))=true:=by kernel_rfl
theorem k15:(Rows.topCayleyWalksRow.ifaces == (Tryz.f3.params.toList++Rows.topCayleyWalksSpec.plain.varTypes Tryz.checked.prog).any (Tryz.checked.prog.ifacesRec ·))=true:=by kernel_rfl
theorem k16:(Rows.topCayleyWalksRow.mapsOut == Tryz.checked.prog.mapsAmong Tryz.f3.resultTypes.toList)=true:=by kernel_rfl
theorem k17:(Rows.topCayleyWalksRow.loops == (Tryz.f3.params.toList++Rows.topCayleyWalksSpec.plain.varTypes Tryz.checked.prog).any (Tryz.checked.prog.loopsFrom ·))=true:=by kernel_rfl
theorem k18:(Rows.topCayleyWalksRow.wideKeys == (Tryz.f3.params.toList++Rows.topCayleyWalksSpec.plain.varTypes Tryz.checked.prog++Tryz.f3.resultTypes.toList).any (Tryz.checked.prog.wideKeysFrom ·))=true:=by kernel_rfl
theorem k31:(Rows.topCayleyWalksRow.veiled == (Tryz.f3.params.toList++Rows.topCayleyWalksSpec.plain.varTypes Tryz.checked.prog++Tryz.f3.resultTypes.toList).any (Tryz.checked.prog.veiledRec ·))=true:=by kernel_rfl
theorem k32:Rows.topCayleyWalksRow.veiledFits Tryz.checked.prog Tryz.f3.params.toList (Tryz.f3.params.toList++Rows.topCayleyWalksSpec.plain.varTypes Tryz.checked.prog++Tryz.f3.resultTypes.toList)=true:=by kernel_rfl
theorem facts:joinedFacts Tryz.checked.prog 3 Tryz.f3 Rows.topCayleyWalksSpec Rows.topCayleyWalksRow=true:=
  ZiK (by kernel_rfl) pk2 pk3 (by kernel_rfl) (by kernel_rfl) (by kernel_rfl) pk7 (by kernel_rfl) pk9 k10 k11 k12 k13 k14 k15 k16 k17 k18 (by kernel_rfl) (by kernel_rfl) (by kernel_rfl) (by kernel_rfl) (ZeC pk23 rfl) (by kernel_rfl) pk25 pk26 (ZeC pk27 rfl) (ZiL pk28 rfl) (by kernel_rfl) (by kernel_rfl) k31 k32
set_option maxRecDepth 100000 in
theorem lifted(os:Os)(started:os.Started)(H:Type)(enc:TypeId × Value→H) :
    ReturnsInHanded {} Tryz.checked os 3 .any (fun w args=>(Rows.topCayleyWalksSpec.pre enc Tryz.prog Tryz.f3 [] false w args∧laidMetH Tryz.prog Rows.topCayleyWalksRow.laid w)∧sizedMet enc Tryz.prog Tryz.f3 (OpenSpec.ofChange Rows.topCayleyWalksSpec) false w args) (Rows.topCayleyWalksSpec.post enc Tryz.prog Tryz.f3 false true false false):=by
  refine returnsInHanded_of_change_and (C:=Tryz.checked) (X:=fun w _=>laidMetH Tryz.prog Rows.topCayleyWalksRow.laid w) (fun _ _ _ hh h=>h.of_heap hh) own started (by kernel_rfl) Tryz.func3
    (ChangeSpec.witness_shaped (enc:=enc) (C:=Tryz.checked) (os:=os) (X:=fun w _=>laidMetH Tryz.prog Rows.topCayleyWalksRow.laid w) false (World.doorLaid Tryz.prog 400 os) #[.slice none 0 0,.bool false] 8 rfl (World.shaped_of_RefB (by kernel_rfl) (by kernel_rfl)) (by kernel_rfl) (by kernel_rfl) (by kernel_rfl) (door_met os _)) ?_
  intro W base args ds gs before hval0 hW _ _ _ _
  have hval:∀ (j:Nat) t v,Tryz.f3.params[j]?=some t→args[j]?=some v→Value.okWide Tryz.prog W .any base t v:=hval0
  have hW':=hW
  obtain⟨p,q,hA0,hV,rfl,hfz,hnd⟩:=hW
  have hA:DataW.TrodAll enc Tryz.prog W 0 (fun _=>true) true Tryz.f3.params.toList args.toList ds p:=hA0
  rw[Tryz.params3]at hA hval
  have hAA:=hA
  obtain⟨v0,vs0,d0,ds0,p0,q0,hargs,rfl,rfl,h0,r0⟩:=trodAll_cons hA
  obtain⟨v1,vs1,d1,ds1,p1,q1,rfl,rfl,rfl,h1,r1⟩:=trodAll_cons r0
  obtain⟨rfl,rfl,rfl⟩:=trodAll_nil r1
  obtain rfl:args=#[v0,v1]:=by cases args;simp_all
  obtain⟨rfl,rfl⟩:=trodVars_none hV
  obtain⟨A0,l0,c0,rfl,s0,g0,m0⟩:=ZgJ Tryz.underlying22 (by kernel_rfl) Tryz.underlying5 (hval 0 22 v0 rfl rfl) h0
  obtain⟨b1,rfl⟩:=okWide_bool Tryz.underlying4 (hval 1 4 v1 rfl rfl)
  clear hA0 hval0
  refine(ZaW A0 l0 c0 b1 W s0 g0 m0 ).mono fun e W' ⟨he,hg⟩=>?_
  subst he
  exact⟨_,rfl,ZdL (pa:=_) (pv:=[]) hW' (fun _ _ _=>(trodAll_cons_mk (shut_bool Tryz.underlying4 _) trodAll_mk0)) (fun sp hsp=>ZfA pk2 pk3 Zg6 (by kernel_rfl) hAA hg sp (fun x hx=>hsp x (List.mem_append_left _ hx))) (fun _ _=>rfl) rfl
    hg (ok_one (by kernel_rfl) rfl (okWide_bool_mk Tryz.underlying4 _))⟩
theorem over:Rows.topCayleyWalksRow.holds Tryz.pinned (OpenSpec.ofChange Rows.topCayleyWalksSpec):=
  OpenClaim.holds_of_wide 3 Tryz.f3 rfl rfl rfl rfl rfl rfl rfl ⟨rfl,rfl,rfl,rfl,rfl⟩ rfl rfl rfl rfl rfl (by kernel_rfl) Tryz.func3 facts
    (of_decide_eq_true (by kernel_rfl)) (by unfold Func.isWrapper;first | (rw[if_pos (by decide +kernel)];kernel_rfl) | (rw[if_neg (by decide +kernel)];exact⟨rfl,rfl⟩))
    (fun os started H enc _=>lifted os started H enc)
theorem proved:Rows.TopCayleyWalksCardSaid:=
  Claim7.holds_tied_plain_at .later [] [.data, .data, .data] true (true, "b99b6c7bee07090bf24eeb096998843a5113f877faea24690778914030f8bba5") false
    over (fun _ h=>by cases h) (by kernel_rfl) (fun _ h=>by cases h) topCayleyWalks_row_tie rfl ⟨rfl,rfl⟩ (by kernel_rfl) rfl
    (fun f fn hf hfn=>by
      obtain rfl : f = 3 := oSi ((show Tryz.prog.funcNamed "fourfold/fourfoldtop.TopCayleyWalks" = some 3 by kernel_rfl).symm.trans hf) |>.symm
      obtain rfl:fn=Tryz.f3:=(oSi (Tryz.func3.symm.trans hfn)).symm
      exact⟨by kernel_rfl,fun j t ht=>by
        rw[Tryz.params3]at ht
        have hm:t∈[22,4]:=by have:=Array.mem_of_getElem? ht;simp at this ⊢;omega
        have hall:([22,4].all fun u=>!Tryz.prog.wantsStandIn u)=true:=by kernel_rfl
        exact(show Tryz.prog.wantsStandIn t=false by simpa using List.all_eq_true.1 hall t hm)⟩)
    (by kernel_rfl)
end Go.Proofs.YthkklilhjnpedaaGreatDoor.topCayleyWalks
