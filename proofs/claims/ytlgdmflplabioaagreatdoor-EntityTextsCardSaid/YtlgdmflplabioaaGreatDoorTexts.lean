/- EntityTexts: whatever the list of integers and the byte, the law returns true; the package variables that the row lists are tied to the program's text. No conditions. -/
import Derived.Lay
import Derived.SevenTiedAt
import Derived.ChangeMaps5
import Derived.Test.YtlgdmflplabioaaGreatDoorLaw2
import Derived.Test.YtlgdmflplabioaaGreatDoorEng3
import Derived.Test.YtlgdmflplabioaaGreatDoorCards
import Derived.Test.YtlgdmflplabioaaGreatDoorTie
set_option linter.unusedSimpArgs false
set_option linter.unusedVariables false
namespace Go.Proofs.YtlgdmflplabioaaGreatDoor.texts
open Go.Eng Go.RowKit Go.ChangeShapes Go.WideShapes
theorem own:ownKnob Tryz.prog.godebug=none:=by kernel_rfl
theorem Jm:laidOutB Tryz.prog=true:=by kernel_rfl
theorem Mo:Tryz.prog.cellsOf 3=1:=by kernel_rfl
theorem Qq:Tryz.prog.underlying 5=some (.int .u8):=by kernel_rfl
theorem call(l:List T)(n:Int):((aA dA bH).call [.c (.t (.sl 1 l)),.c (.t (.v (.int .u8 n)))] [] fun rs po=>some (rs,po))=ob (bH (l,n,())) fun q=>some ([.c (.t (.v (.bool q.1)))],[]):=by kernel_rfl
theorem Og(zs:List Int){n:Int}(h0:0≤n)(h1:n≤255):((aA dA bH).call [.c (.t (.sl 1 (zs.map fun z=>T.v (.int .i64 z)))),.c (.t (.v (.int .u8 n)))] [] fun rs po=>some (rs,po))=some ([.c (.t (.v (.bool true)))],[]):=by
 rw[call,show (zs.map fun z=>T.v (.int .i64 z))=zs.map WT from rfl,Et.law_texts zs h0 h1]
 rfl
theorem calls(W:World)(hsh:W.ShapedOpen Tryz.prog)(zs:List Int)(n:Int)(h0:0≤n)(h1:n≤255)(v:Value)(hv:RdS W (fun _=>False) (fun _=>none) (.c (.t (.sl 1 (zs.map fun z=>T.v (.int .i64 z))))) v):
 Calls Tryz.prog 3 #[v,.int .u8 n] W fun e W'=>e=.returned (.bool true)∧Below W.heap.size W W':=
 As (b:=true) rH (Og zs h0 h1) (MA hsh _ fun _ h=>h) (vals:=[v,.int .u8 n]) (MC hv (Lj rfl))
set_option maxRecDepth 100000 in
theorem lifted(os:Os)(started:os.Started)(H:Type)(enc:TypeId×Value→H):
 ReturnsInHanded {} Tryz.checked os 3 .any (fun w args=>(Rows.entityTextsSpec.pre enc Tryz.prog Tryz.f3 Rows.entityTextsRow.domain false w args∧laidMetH Tryz.prog Rows.entityTextsRow.laid w)∧sizedMet enc Tryz.prog Tryz.f3 (OpenSpec.ofChange Rows.entityTextsSpec) false w args)
  (Rows.entityTextsSpec.post enc Tryz.prog Tryz.f3 false true false false):=by
 refine JB (C:=Tryz.checked) (tb:=4) (X:=fun w _=>laidMetH Tryz.prog Rows.entityTextsRow.laid w) own started (by kernel_rfl) Tryz.func3 Jm (by kernel_rfl) (by kernel_rfl) Tryz.underlying4 rfl (fun ds hd=>?_)
  (ChangeSpec.witness_shaped (enc:=enc) (C:=Tryz.checked) (os:=os) (X:=fun w _=>laidMetH Tryz.prog Rows.entityTextsRow.laid w) false (World.laidAll Tryz.prog os Rows.entityTextsRow.laid) #[.slice none 0 0,.int .u8 0] 8 (World.laidAll_os _ _ _)
   (World.shaped_of_ZipB (by kernel_rfl) (by kernel_rfl)) (by kernel_rfl) (by kernel_rfl) (by kernel_rfl)
   (by rw[MakeChecks.laidMetH_plain _ _ _ (by kernel_rfl)];exact laidMet_laidAll _ (by kernel_rfl) (by kernel_rfl))) ?_
 ·rw[Tryz.params3] at hd
  match ds,hd with
  | [d,d'],_=>rfl
 ·intro W base args ds p hval hA hsh
  have hval':∀(j:Nat) t v,Tryz.f3.params[j]?=some t→args[j]?=some v→Value.okWide Tryz.prog W .any base t v:=hval
  have hA':DataW.TrodAll enc Tryz.prog W 0 (fun _=>true) true Tryz.f3.params.toList args.toList ds p:=hA
  rw[Tryz.params3] at hA' hval'
  obtain⟨v,v',d,d',p0,p1,rfl,rfl,rfl,h0,h1⟩:=trodAll_two hA'
  obtain⟨zs,hz⟩:=Hv Tryz.underlying22 Tryz.underlying3 Mo (hval' 0 22 v rfl rfl) h0
  obtain⟨n,rfl,rfl,rfl,wn⟩:=open_int Qq (hval' 1 5 v' rfl rfl) h1
  have hn:0≤n∧n≤255:=by simpa[Lit.wf,IntKind.min,IntKind.max,IntKind.signed,IntKind.bits] using wn
  exact calls W hsh zs n hn.1 hn.2 v hz
theorem holds:Rows.EntityTextsSaid:=
 OpenClaim.holds_of_wide 3 Tryz.f3 rfl rfl rfl rfl rfl rfl rfl ⟨rfl,rfl,rfl,rfl,rfl⟩ rfl rfl rfl rfl rfl (by kernel_rfl) Tryz.func3 (by kernel_rfl)
  (of_decide_eq_true (by kernel_rfl)) (by unfold Func.isWrapper;first | (rw[if_pos (by decide +kernel)];kernel_rfl) | (rw[if_neg (by decide +kernel)];exact⟨rfl,rfl⟩))
  (fun os started H enc _=>lifted os started H enc)
theorem card:Rows.EntityTextsCardSaid:=
 Claim7.holds_tied_plain_at .later [] _ _ _ _ holds (fun _ h=>by cases h) (by kernel_rfl) (fun _ h=>by cases h) entityTexts_row_tie rfl ⟨rfl,rfl⟩ (by kernel_rfl) rfl
  (fun f fn hf hfn=>by
   obtain rfl:f=3:=Option.some.inj ((show Tryz.prog.funcNamed "brepkernel/brepkernellaw24.EntityTexts"=some 3 by kernel_rfl).symm.trans hf) |>.symm
   obtain rfl:fn=Tryz.f3:=(Option.some.inj (Tryz.func3.symm.trans hfn)).symm
   exact⟨by kernel_rfl,fun j t ht=>by
    rw[Tryz.params3] at ht
    have hm:t∈[22,5]:=by simpa using Array.mem_of_getElem? ht
    have hall:([22,5].all fun u=>!Tryz.prog.wantsStandIn u)=true:=by kernel_rfl
    exact(show Tryz.prog.wantsStandIn t=false by simpa using List.all_eq_true.1 hall t hm)⟩)
  (by kernel_rfl)
end Go.Proofs.YtlgdmflplabioaaGreatDoor.texts
#print axioms Go.Proofs.YtlgdmflplabioaaGreatDoor.texts.card
