/- What is proved here: the claimed statement. Conditions: those that each theorem names, and no others. -/
import Derived.Test.YtleiinhaljdcoaaGreatDoorP21
import Derived.ProofKit
import Derived.OpenShut
import Derived.LaidMore
import Derived.Lay
import Derived.SevenTiedAt
import Derived.Stop.Joined
import Derived.Test.YtleiinhaljdcoaaGreatDoorTie
import Derived.Test.YtleiinhaljdcoaaGreatDoorCards
set_option linter.unusedSimpArgs false
set_option linter.unusedVariables false
namespace Go.Proofs.YtleiinhaljdcoaaGreatDoor
open Go Lon Go.ChangeShapes Go.WideShapes Go.ChangeAt Go.RowKit
theorem own:ownKnob Tryz.prog.godebug=none:=by kernel_rfl
theorem laid:laidOutB Tryz.prog=true:=by kernel_rfl
set_option maxRecDepth 100000 in
theorem topDetect_lifted (os:Os) (started:os.Started) (H:Type) (enc:TypeId×Value→H) :
  ReturnsInHanded {} Tryz.checked os 5 .any (fun w args=>(Rows.topDetectSpec.pre enc Tryz.prog Tryz.f5 Rows.topDetectRow.domain false w args∧laidMetH Tryz.prog Rows.topDetectRow.laid w)∧sizedMet enc Tryz.prog Tryz.f5 (OpenSpec.ofChange Rows.topDetectSpec) false w args) (Rows.topDetectSpec.post enc Tryz.prog Tryz.f5 false true false false):=by
 refine returnsInHanded_of_change_and (C:=Tryz.checked) (X:=fun w _=>laidMetH Tryz.prog Rows.topDetectRow.laid w) (fun _ _ _ hh h=>h.of_heap hh) own started (by kernel_rfl) Tryz.func5
  (ChangeSpec.witness_shaped (enc:=enc) (C:=Tryz.checked) (os:=os) (X:=fun w _=>laidMetH Tryz.prog Rows.topDetectRow.laid w) false (World.laidAll Tryz.prog os Rows.topDetectRow.laid) #[.int .u8 0,.slice none 0 0,.slice none 0 0,.int .u8 0,.int .u8 0] 8 (World.laidAll_os _ _ _)
   (World.shaped_of_ZipB (by kernel_rfl) (by kernel_rfl)) (by kernel_rfl) (by kernel_rfl) (by kernel_rfl)
   (by rw[MakeChecks.laidMetH_plain _ _ _ (by kernel_rfl)];exact laidMet_laidAll _ (by kernel_rfl) (by kernel_rfl))) ?_
 intro W base args ds gs before hval0 hW hcnd hsz _ _
 have hval:∀(j:Nat) t v,Tryz.f5.params[j]?=some t→args[j]?=some v→Value.okWide Tryz.prog W .any base t v:=hval0
 have hW':=hW
 obtain ⟨p,q,hA0,hV,rfl,hfz,hnd⟩:=hW
 have hA:DataW.TrodAll enc Tryz.prog W 0 (fun _=>true) true Tryz.f5.params.toList args.toList ds p:=hA0
 have hsz1:∀(j:Nat) t d,Tryz.f5.params.toList[j]?=some t→(ds++gs)[j]?=some d→∀n∈d.weights Tryz.prog t,n≤reachBytes:=fun j t d ht hd n hn=>by
  have h1:=DataW.weights_mem_each (ts:=Tryz.f5.params.toList++Rows.topDetectSpec.plain.varTypes Tryz.prog) (by rw[List.getElem?_append_left (List.getElem?_eq_some_iff.1 ht).1];exact ht) hd n hn
  simpa using List.all_eq_true.1 hsz _ h1
 rw[Tryz.params5] at hA hval hsz1
 obtain ⟨v0,vs0,d0,ds0,p0,q0,hargs,rfl,rfl,h0,r0⟩:=trodAll_cons hA
 obtain ⟨v1,vs1,d1,ds1,p1,q1,rfl,rfl,rfl,h1,r1⟩:=trodAll_cons r0
 obtain ⟨v2,vs2,d2,ds2,p2,q2,rfl,rfl,rfl,h2,r2⟩:=trodAll_cons r1
 obtain ⟨v3,vs3,d3,ds3,p3,q3,rfl,rfl,rfl,h3,r3⟩:=trodAll_cons r2
 obtain ⟨v4,vs4,d4,ds4,p4,q4,rfl,rfl,rfl,h4,r4⟩:=trodAll_cons r3
 obtain ⟨rfl,rfl,rfl⟩:=trodAll_nil r4
 obtain rfl:args=#[v0,v1,v2,v3,v4]:=by cases args;simp_all
 obtain ⟨rfl,rfl⟩:=trodVars_none hV
 obtain ⟨a0,rfl,rfl,rfl,w0⟩:=open_int Tryz.underlying5 (hval 0 5 v0 rfl rfl) h0
 have b0:0≤a0∧a0<256:=by
  simp[Lit.wf,IntKind.min,IntKind.max,IntKind.signed,IntKind.bits] at w0
  omega
 have s1:=k3k Tryz.underlying22 (hval 1 22 v1 rfl rfl)
 have z1:=hsz1 1 22 d1 rfl rfl
 have s2:=k3k Tryz.underlying22 (hval 2 22 v2 rfl rfl)
 have z2:=hsz1 2 22 d2 rfl rfl
 obtain ⟨a3,rfl,rfl,rfl,w3⟩:=open_int Tryz.underlying5 (hval 3 5 v3 rfl rfl) h3
 have b3:0≤a3∧a3<256:=by
  simp[Lit.wf,IntKind.min,IntKind.max,IntKind.signed,IntKind.bits] at w3
  omega
 obtain ⟨a4,rfl,rfl,rfl,w4⟩:=open_int Tryz.underlying5 (hval 4 5 v4 rfl rfl) h4
 have b4:0≤a4∧a4<256:=by
  simp[Lit.wf,IntKind.min,IntKind.max,IntKind.signed,IntKind.bits] at w4
  omega
 clear hA0 hval0
 obtain ⟨f1,g1⟩:=h1
 obtain ⟨σ1,H1,c1,R1,hh1,sb1,ex1,vr1,l1,qq1⟩:=z8I (HR.empty W.heap.size W) g1 z1
 rw[s1] at vr1
 obtain ⟨u1,rfl,k1⟩:=z8J qq1
 obtain ⟨f2,g2⟩:=h2
 obtain ⟨σ2,H2,c2,R2,hh2,sb2,ex2,vr2,l2,qq2⟩:=z8I (hh1) g2 z2
 rw[s2] at vr2
 obtain ⟨u2,rfl,k2⟩:=z8J qq2
 obtain ⟨v,H',hrun,rfl⟩:=z2c ((k1).ext ex2) (k2) b0 b3 b4
 have hv:VRs σ2 [.int .u8 a0,u1,u2,.int .u8 a3,.int .u8 a4] [.int .u8 a0,v1,v2,.int .u8 a3,.int .u8 a4]:=(.cons _ _ _ _ (.int _ _) (VRs.append ((vr1).mono sb2) (VRs.append (vr2) (.cons _ _ _ _ (.int _ _) (.cons _ _ _ _ (.int _ _) .nil)))))
 refine (k8V (q9w (base:=W.heap.size) (by kernel_rfl) gok omok hrun) hv hh2 rfl).mono fun e W' ⟨he,hb⟩=>?_
 subst he
 exact ⟨_,rfl,z5E laid (by kernel_rfl) (by kernel_rfl) Tryz.underlying4 rfl hW' rfl hb⟩
theorem topDetect_holds:Rows.TopDetectSaid:=
 OpenClaim.holds_of_wide 5 Tryz.f5 rfl rfl rfl rfl rfl rfl rfl ⟨rfl,rfl,rfl,rfl,rfl⟩ rfl rfl rfl rfl rfl (by kernel_rfl) Tryz.func5 (by kernel_rfl)
  (of_decide_eq_true (by kernel_rfl)) (by unfold Func.isWrapper;first|(rw[if_pos (by decide +kernel)];kernel_rfl)|(rw[if_neg (by decide +kernel)];exact ⟨rfl,rfl⟩))
  (fun os started H enc _=>topDetect_lifted os started H enc)
#print axioms topDetect_holds
theorem topDetectCard_holds:Rows.TopDetectCardSaid:=
 Claim7.holds_tied_plain_at .later [] [.data, .pinned, .pinned] true (true, "5176ff18c741b70a962a63e9a7062ee143e2b5aa0bc05314b7e4d56cf6ff6a5d") false topDetect_holds (fun _ h => by cases h) (by kernel_rfl) (fun _ h => by cases h) topDetect_row_tie rfl ⟨rfl, rfl⟩ (by kernel_rfl) rfl
  (fun f fn hf hfn=>by
   obtain rfl : f = 5 := Option.some.inj ((show Tryz.prog.funcNamed "lontar/lontartop.TopDetect" = some 5 by kernel_rfl).symm.trans hf) |>.symm
   obtain rfl:fn=Tryz.f5:=(Option.some.inj (Tryz.func5.symm.trans hfn)).symm
   exact ⟨by kernel_rfl,fun j t ht=>by
    rw[Tryz.params5] at ht
    have hm:t∈[5,22,22,5,5]:=by simpa using Array.mem_of_getElem? ht
    have hall:([5,22,22,5,5].all fun u=>!Tryz.prog.wantsStandIn u)=true:=by kernel_rfl
    exact (show Tryz.prog.wantsStandIn t=false by simpa using List.all_eq_true.1 hall t hm)⟩)
  (by kernel_rfl)
#print axioms topDetectCard_holds
end Go.Proofs.YtleiinhaljdcoaaGreatDoor
