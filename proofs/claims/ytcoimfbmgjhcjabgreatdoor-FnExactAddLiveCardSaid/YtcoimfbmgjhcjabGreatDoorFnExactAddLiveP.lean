/-
  The given statement of the law FnExactAddLive.
  Conditions: none beyond the statement's own.
-/
import Derived.Test.YtcoimfbmgjhcjabGreatDoorRows
import Derived.Test.YtcoimfbmgjhcjabGreatDoorCards
import Derived.Test.YtcoimfbmgjhcjabGreatDoorTie
import Derived.Test.YtcoimfbmgjhcjabGreatDoorRepW
import Derived.Test.YtcoimfbmgjhcjabGreatDoorFnExactAddLiveL
import Derived.OpenVars
import Derived.WalkKit
import Derived.ProofKit
import Derived.OpenShut
import Derived.ShutString
import Derived.ChangeOld
import Derived.Below
import Derived.LaidMore
import Derived.Lay
import Derived.Handed
import Derived.SevenTiedAt
import Derived.Stop.Joined
import Derived.Stop.LaidErr
import Derived.Lib.LaidTab
set_option linter.all false
namespace Go.Proofs.YtcoimfbmgjhcjabGreatDoor.fnExactAddLive
open Go.ChangeShapes Go.WideShapes Go.ChangeAt Go.RowKit
theorem own:ownKnob Tryz.prog.godebug=none:=by kernel_rfl
theorem laidOut:laidOutB Tryz.prog=true:=by kernel_rfl
theorem follows:Tryz.prog.follows .mixedOrders=true:=by kernel_rfl
theorem tysOk:Go.Pv.tysR Tryz.prog [31,52]=some tysLaw:=by kernel_rfl
set_option maxRecDepth 100000 in
theorem lifted (os:Os) (started:os.Started) (H:Type) (enc:TypeId×Value→H) :
  ReturnsInHanded {} Tryz.checked os 5 .any (fun w args=>(Rows.fnExactAddLiveSpec.pre enc Tryz.prog Tryz.f5 Rows.fnExactAddLiveRow.domain false w args∧laidMetH Tryz.prog Rows.fnExactAddLiveRow.laid w)∧sizedMet enc Tryz.prog Tryz.f5 (OpenSpec.ofChange Rows.fnExactAddLiveSpec) false w args)
   (Rows.fnExactAddLiveSpec.post enc Tryz.prog Tryz.f5 false true false false):=by
 refine returnsInHanded_of_change_and (C:=Tryz.checked) (X:=fun w _=>laidMetH Tryz.prog Rows.fnExactAddLiveRow.laid w) (fun _ _ _ hh h=>h.of_heap hh) own started (by kernel_rfl) Tryz.func5
  (ChangeSpec.witness_shaped (enc:=enc) (C:=Tryz.checked) (os:=os) (X:=fun w _=>laidMetH Tryz.prog Rows.fnExactAddLiveRow.laid w) false (World.laidAll Tryz.prog os Rows.fnExactAddLiveRow.laid) #[.agg #[.string ⟨#[]⟩,.slice none 0 0,.slice none 0 0,.slice none 0 0,.slice none 0 0,.slice none 0 0,.slice none 0 0,.slice none 0 0,.int .i64 0,.slice none 0 0,.slice none 0 0,.slice none 0 0,.int .i64 0,.int .i64 0],.agg #[.int .i64 0,.int .i64 0,.int .i64 0,.int .i64 0,.int .i64 0,.int .i64 0,.int .i64 0,.int .i64 0]] 8 (World.laidAll_os _ _ _)
   (World.shaped_of_ZipB (by kernel_rfl) (by kernel_rfl)) (by kernel_rfl) (by kernel_rfl) (by kernel_rfl)
   (by rw [MakeChecks.laidMetH_plain _ _ _ (by kernel_rfl)];exact laidMet_laidAll _ (by kernel_rfl) (by kernel_rfl))) ?_
 intro W base args ds gs before hval0 hW hc _ hL _
 have hval:∀ (j:Nat) t v,Tryz.f5.params[j]? = some t→args[j]? = some v→Value.okWide Tryz.prog W .any base t v:=hval0
 have hW':=hW
 obtain ⟨p,q,hA0,hV,rfl,hfz,hnd⟩:=hW
 have hA:DataW.TrodAll enc Tryz.prog W 0 (fun _=>true) true Tryz.f5.params.toList args.toList ds p:=hA0
 rw [Tryz.params5] at hA hval
 have hA1:DataW.TrodAll enc Tryz.prog W 0 (fun _=>true) true [31,52] args.toList ds p:=hA
 have hL':laidMet Tryz.prog [("math/bits.deBruijn32tab",Rows.laid_math_bits_deBruijn32tab),("math/bits.deBruijn64tab",Rows.laid_math_bits_deBruijn64tab),("internal/strconv.uint64pow10",Rows.laid_internal_strconv_uint64pow10),("loop.example/g00838/impl.keyWords",Rows.laid_loop_example_g00838_impl_keyWords)] W:=by
  have h:=hL
  rw [MakeChecks.laidMetH_plain _ _ _ (by kernel_rfl)] at h
  exact h
 have et:(Rows.laid_internal_strconv_uint64pow10:DataW Unit)=Lib.tabData .u64 Lib.pow10Tab:=by kernel_rfl
 have hLp:laidMet Tryz.prog [("internal/strconv.uint64pow10",Lib.tabData .u64 Lib.pow10Tab),("loop.example/g00838/impl.keyWords",Rows.laid_loop_example_g00838_impl_keyWords)] W:=et▸hL'.tail.tail
 obtain ⟨zp,tp,fp,bp⟩:=Qqn (Lib.tabIs_of_head Qfs (by kernel_rfl) Tryz.underlying220 Tryz.underlying196 (by kernel_rfl) (by kernel_rfl) hLp)
 have ek:(Rows.laid_loop_example_g00838_impl_keyWords:DataW Unit)=Go.Pv.strData [[113,100,105,115,99],[100,101,102,97,117,108,116],[99,108,97,115,115],[114,97,116,101],[99,101,105,108],[98,117,114,115,116],[99,98,117,114,115,116],[112,114,105,111],[108,105,109,105,116],[102,105,108,116,101,114],[115,111,117,114,99,101],[100,101,115,116],[112,111,114,116],[109,97,114,107]]:=by kernel_rfl
 have hLk:laidMet Tryz.prog [("loop.example/g00838/impl.keyWords",Go.Pv.strData [[113,100,105,115,99],[100,101,102,97,117,108,116],[99,108,97,115,115],[114,97,116,101],[99,101,105,108],[98,117,114,115,116],[99,98,117,114,115,116],[112,114,105,111],[108,105,109,105,116],[102,105,108,116,101,114],[115,111,117,114,99,101],[100,101,115,116],[112,111,114,116],[109,97,114,107]])] W:=ek▸hL'.tail.tail.tail
 obtain ⟨zk,tk,fk,bk⟩:=Go.Pv.strs_block (name := "loop.example/g00838/impl.keyWords") (g:=0) (t:=188) (e:=9) (n:=14) (by kernel_rfl) (by kernel_rfl) Tryz.underlying188 Tryz.underlying9 (by kernel_rfl) (by kernel_rfl) hLk
 have gw:Go.Ev.GW W:=by
  refine ⟨by unfold Go.Ev.gN;omega,fun p hp=>?_⟩
  unfold Go.Ev.gTabs at hp
  simp only [List.mem_cons,List.not_mem_nil,or_false] at hp
  rcases hp with rfl | rfl
  ·exact ⟨by unfold Go.Ev.gN;simp,tk,fk,bk⟩
  ·exact ⟨by unfold Go.Ev.gN;simp,tp,fp,bp⟩
 have walk:=Go.Pv.pv_any (A:=Qb) (d:=32) follows laidOut extAll lawAny (tysOk) hA1 (fun j t v h1 h2=>hval j t v (by simpa using h1) (by simpa using h2)) (gw)
 obtain ⟨v0,vs0,d0,ds0,p0,q0,hargs,rfl,rfl,h0,r0⟩:=trodAll_cons hA
 obtain ⟨v1,vs1,d1,ds1,p1,q1,rfl,rfl,rfl,h1,r1⟩:=trodAll_cons r0
 obtain ⟨rfl,rfl,rfl⟩:=trodAll_nil r1
 obtain rfl:args = #[v0,v1]:=by cases args;simp_all
 have lt0:∀ x∈p0,x.block < W.heap.size:=by obtain ⟨m,hm⟩:=h0;exact DataW.trod_lt m _ _ _ hm
 have lt1:∀ x∈p1,x.block < W.heap.size:=by obtain ⟨m,hm⟩:=h1;exact DataW.trod_lt m _ _ _ hm
 obtain ⟨y0,rfl⟩:∃ y0,gs=[y0]:=by
  obtain ⟨_,_,_,_,_,_,rfl,_⟩:=trodVars_one hV
  exact ⟨_,rfl⟩
 clear hA0 hval0
 refine walk.mono fun e W' ⟨he,bel⟩=>?_
 subst he
 exact ⟨_,rfl,_,_,_,[],_,_,hW',trodAll_mk1 (shut_bool Tryz.underlying4 _),(trodAll_cons_mk (Below.trod laidOut (by kernel_rfl) (of_decide_eq_true (by kernel_rfl)) h0 bel lt0) (trodAll_cons_mk (Below.trod laidOut (by kernel_rfl) (of_decide_eq_true (by kernel_rfl)) h1 bel lt1) trodAll_mk0)),Below.trodVars laidOut bel (by kernel_rfl) hV,bel.frame _,fun h=>by cases h⟩
theorem k0:Rows.fnExactAddLiveRow.wf (OpenSpec.ofChange Rows.fnExactAddLiveSpec)=true:=by kernel_rfl
theorem k1:laidOutB Tryz.pinned.checked.prog=true:=by kernel_rfl
theorem k2:mapsRowed Tryz.pinned.checked.prog=true:=by kernel_rfl
theorem k3:Tryz.f5.params.all (Tryz.pinned.checked.prog.readableRec ·)=true:=by kernel_rfl
theorem k4:namedTie Tryz.pinned.checked.prog Rows.fnExactAddLiveRow.named Rows.fnExactAddLiveSpec.vars=true:=by kernel_rfl
theorem k5:(Rows.fnExactAddLiveRow.stops==[])=true:=by kernel_rfl
theorem k6:(Tryz.pinned.checked.prog.stops==[])=true:=by kernel_rfl
theorem k7:(Rows.fnExactAddLiveRow.knobs==[])=true:=by kernel_rfl
theorem k8:(Tryz.pinned.checked.prog.stopKnobs==[])=true:=by kernel_rfl
theorem k9:(Rows.fnExactAddLiveRow.inPlace==Tryz.pinned.checked.prog.inPlace 5)=true:=by kernel_rfl
theorem k10:(Rows.fnExactAddLiveRow.unfollowed==Tryz.pinned.checked.prog.unfollowed 5)=true:=by kernel_rfl
theorem k11:(Rows.fnExactAddLiveRow.recurses==Tryz.pinned.checked.prog.recurses 5)=true:=by kernel_rfl
theorem k12:(Rows.fnExactAddLiveRow.named==Tryz.pinned.checked.prog.varsNamed 5)=true:=by kernel_rfl
theorem k13:(Rows.fnExactAddLiveRow.maps==(Tryz.f5.params.toList++Rows.fnExactAddLiveSpec.plain.varTypes Tryz.pinned.checked.prog).any (Tryz.pinned.checked.prog.mapsRec ·))=true:=by kernel_rfl
theorem k14:(Rows.fnExactAddLiveRow.ifaces==(Tryz.f5.params.toList++Rows.fnExactAddLiveSpec.plain.varTypes Tryz.pinned.checked.prog).any (Tryz.pinned.checked.prog.ifacesRec ·))=true:=by kernel_rfl
theorem k15:(Rows.fnExactAddLiveRow.mapsOut==Tryz.pinned.checked.prog.mapsAmong Tryz.f5.resultTypes.toList)=true:=by kernel_rfl
theorem k16:(Rows.fnExactAddLiveRow.loops==(Tryz.f5.params.toList++Rows.fnExactAddLiveSpec.plain.varTypes Tryz.pinned.checked.prog).any (Tryz.pinned.checked.prog.loopsFrom ·))=true:=by kernel_rfl
theorem k17:(Rows.fnExactAddLiveRow.wideKeys==(Tryz.f5.params.toList++Rows.fnExactAddLiveSpec.plain.varTypes Tryz.pinned.checked.prog++Tryz.f5.resultTypes.toList).any (Tryz.pinned.checked.prog.wideKeysFrom ·))=true:=by kernel_rfl
theorem k18:Rows.fnExactAddLiveSpec.vars.all (Tryz.pinned.checked.prog.varReadable ·)=true:=by kernel_rfl
theorem k19:Tryz.f5.resultTypes.all (fun t=>Tryz.pinned.checked.prog.readableRec t&&decide (t < Tryz.pinned.checked.prog.types.size))=true:=by kernel_rfl
theorem k20:(Rows.fnExactAddLiveRow.ifacesOut==Tryz.f5.resultTypes.toList.any (Tryz.pinned.checked.prog.ifacesRec ·))=true:=by kernel_rfl
theorem k21:(Rows.fnExactAddLiveRow.loopsOut==Tryz.f5.resultTypes.toList.any (Tryz.pinned.checked.prog.loopsFrom ·))=true:=by kernel_rfl
theorem k22:(Rows.fnExactAddLiveRow.plainKeys==Tryz.pinned.checked.prog.plainKeys)=true:=by kernel_rfl
theorem k23:Rows.fnExactAddLiveRow.shortTexts.isNone=true:=by kernel_rfl
theorem k24:Tryz.pinned.checked.prog.stopsHeard=true:=by kernel_rfl
theorem k25:Tryz.pinned.checked.prog.mayEnter=true:=by kernel_rfl
theorem k26:(Rows.fnExactAddLiveRow.lifted==Tryz.pinned.checked.prog.liftsFinal)=true:=by kernel_rfl
theorem k27:(Tryz.pinned.checked.prog.make==some Rows.fnExactAddLiveRow.make)=true:=by kernel_rfl
theorem k28:(Rows.fnExactAddLiveRow.pinned==Rows.fnExactAddLiveRow.pinnedBy)=true:=by kernel_rfl
theorem k29:(Rows.fnExactAddLiveRow.veiled==(Tryz.f5.params.toList++Rows.fnExactAddLiveSpec.plain.varTypes Tryz.pinned.checked.prog++Tryz.f5.resultTypes.toList).any (Tryz.pinned.checked.prog.veiledRec ·))=true:=by kernel_rfl
theorem k30:Rows.fnExactAddLiveRow.veiledFits Tryz.pinned.checked.prog Tryz.f5.params.toList (Tryz.f5.params.toList++Rows.fnExactAddLiveSpec.plain.varTypes Tryz.pinned.checked.prog++Tryz.f5.resultTypes.toList)=true:=by kernel_rfl
theorem closed:joinedFacts Tryz.pinned.checked.prog 5 Tryz.f5 Rows.fnExactAddLiveSpec Rows.fnExactAddLiveRow=true:=by
 unfold joinedFacts
 rw [k0,k1,k2,k3,k4,k5,k6,k7,k8,k9,k10,k11,k12,k13,k14,k15,k16,k17,k18,k19,k20,k21,k22,k23,k24,k25,k26,k27,k28,k29,k30]
 simp only [Bool.true_and,Bool.and_true]
 kernel_rfl
theorem over:Rows.fnExactAddLiveRow.holds Tryz.pinned (OpenSpec.ofChange Rows.fnExactAddLiveSpec) :=
 OpenClaim.holds_of_wide 5 Tryz.f5 rfl rfl rfl rfl rfl rfl rfl ⟨rfl,rfl,rfl,rfl,rfl⟩ rfl rfl rfl rfl rfl (by kernel_rfl) Tryz.func5 closed
  (of_decide_eq_true (by kernel_rfl)) (by unfold Func.isWrapper;first | (rw [if_pos (by decide +kernel)];kernel_rfl) | (rw [if_neg (by decide +kernel)];exact ⟨rfl,rfl⟩))
  (fun os started H enc _=>lifted os started H enc)
theorem proved:Rows.FnExactAddLiveCardSaid :=
 Claim7.holds_tied_plain_at .later [] [.data,.data,.data,.data] true (true,"f28df714c59bc8c10a46a78fcaf5a86e7bbf80a573745403559f7592cbf09a4d") false over (fun _ h=>by cases h) (by kernel_rfl) (fun _ h=>by cases h) fnExactAddLive_row_tie rfl ⟨rfl,rfl⟩ (by kernel_rfl) rfl
  (fun f fn hf hfn=>by
   obtain rfl:f=5:=Option.some.inj ((show Tryz.prog.funcNamed "loop.example/g00838/laws.FnExactAddLive" = some 5 by kernel_rfl).symm.trans hf) |>.symm
   obtain rfl:fn=Tryz.f5:=(Option.some.inj (Tryz.func5.symm.trans hfn)).symm
   exact ⟨by kernel_rfl,fun j t ht=>by
    rw [Tryz.params5] at ht
    have hm:t∈[31,52]:=by simpa using Array.mem_of_getElem? ht
    have hall:([31,52].all fun u => !Tryz.prog.wantsStandIn u)=true:=by kernel_rfl
    exact (show Tryz.prog.wantsStandIn t=false by simpa using List.all_eq_true.1 hall t hm)⟩)
  (by kernel_rfl)
end Go.Proofs.YtcoimfbmgjhcjabGreatDoor.fnExactAddLive
