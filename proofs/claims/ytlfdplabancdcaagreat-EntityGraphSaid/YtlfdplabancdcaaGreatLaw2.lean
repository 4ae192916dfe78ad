/- The functions and the laws of this seat in plain words; each statement names its conditions. -/
import Derived.Test.YtlfdplabancdcaaGreatLaw
import Derived.Test.YtlfdplabancdcaaGreatEng4
import Derived.Test.YtlfdplabancdcaaGreatProg
import Derived.Test.YtlfdplabancdcaaGreatEng3
set_option linter.unusedSimpArgs false
set_option linter.unusedVariables false
namespace Go.Eng.En
open Go.Eng Go.RowKit Go.Proofs
def opsOf:Code→Array Oper
 | .region _ ops _=>ops
 | _=>#[]
noncomputable def cpU(n:Nat)(t:List T×Unit):Option (List T×Unit):=@ite _ (t.1.length≤16∧∀x∈t.1,OkA n x) (Classical.propDecidable _) (some (t.1,())) none
theorem cpU_ok{n:Nat}{l:List T}(h:l.length≤16)(h2:∀x∈l,OkA n x):cpU n (l,())=some (l,()):=if_pos ⟨h,h2⟩
theorem cpU_some{n:Nat}{t q:List T×Unit}(h:cpU n t=some q):q=t∧t.1.length≤16∧∀x∈t.1,OkA n x:=by
 unfold cpU at h
 split at h
 ·rename_i hc;cases h;exact⟨rfl,hc⟩
 ·cases h
def sg_copies:Sig:={ na:=1,np:=0,hin:={ items:=[.slot 0],shapes:=[.sl 7] },nres:=1,kept:=[],nnew:=0,hout:={ items:=[.slot 0],shapes:=[.sl 7] },nob:=96 }
theorem room_okZ{α:Type}{l m:List α}{b:Nat}(h:l.length+m.length≤maxLen)(h2:(l.length+m.length)*b≤140737488355328):room l m b=some (l++m):=by unfold room;rw[if_pos ⟨h,h2⟩]
theorem nilL_nil:nilL ([]:List T)=true:=by unfold nilL;rfl
theorem nilL_cons(x:T)(l:List T):nilL (x::l)=false:=by unfold nilL;rfl
theorem clone_r{l:List T}(h:l.length≤16):u_slices_Clone___api_Arg_api_Arg__r (l,())=some (l,()):=by
 have hr:room [] l 112=some l:=room_okZ (by simp only[List.length_nil];exact Nat.le_trans (by omega) (show 16≤maxLen by decide)) (by simp only[List.length_nil];omega)
 unfold u_slices_Clone___api_Arg_api_Arg__r
 simp only[hr]
 cases l with
 | nil=>rw[nilL_nil];exact bothU_eq rfl rfl
 | cons x l=>rw[nilL_cons];rfl
theorem clone_u{l:List T}(h:l.length≤16):u_slices_Clone___uint32_uint32_ (l,())=some (l,()):=by
 have hr:room [] l 4=some l:=room_okZ (by simp only[List.length_nil];exact Nat.le_trans (by omega) (show 16≤maxLen by decide)) (by simp only[List.length_nil];omega)
 unfold u_slices_Clone___uint32_uint32_
 simp only[hr]
 cases l with
 | nil=>rw[nilL_nil];exact bothU_eq rfl rfl
 | cons x l=>rw[nilL_cons];rfl
theorem c_u(l:List T):((calleeOf sg_slices_Clone___uint32_uint32_ u_slices_Clone___uint32_uint32_).call [.c (.t (.sl 1 l))] [] fun rs po=>some (rs,po))=ob (u_slices_Clone___uint32_uint32_ (l,())) fun q=>some ([.c (.t (.sl 1 q.1))],[]):=by kernel_rfl
theorem c_r(l:List T):((calleeOf sg_slices_Clone___api_Arg_api_Arg__r u_slices_Clone___api_Arg_api_Arg__r).call [.c (.t (.sl 7 l))] [] fun rs po=>some (rs,po))=ob (u_slices_Clone___api_Arg_api_Arg__r (l,())) fun q=>some ([.c (.row 0)],[.row false 54 7 q.1]):=by kernel_rfl
theorem c_c(u:List T×Unit→Option (List T×Unit))(l:List T):((calleeOf sg_copies u).call [.c (.t (.sl 7 l))] [] fun rs po=>some (rs,po))=ob (u (l,())) fun q=>some ([.c (.t (.sl 7 q.1))],[]):=by kernel_rfl
theorem cc71:Callable Tryz.prog 71:=⟨_,Tryz.func71,by kernel_rfl,by kernel_rfl⟩
theorem cc90:Callable Tryz.prog 90:=⟨_,Tryz.func90,by kernel_rfl,by kernel_rfl⟩
theorem cc66:Callable Tryz.prog 66:=⟨_,Tryz.func66,by kernel_rfl,by kernel_rfl⟩
theorem u39:Tryz.prog.underlying 39=some (.slice 54):=by kernel_rfl
theorem s54:szO Tryz.prog 54=some 7:=by kernel_rfl
theorem s50:szO Tryz.prog 50=some 3:=by kernel_rfl
theorem s48:szO Tryz.prog 48=some 1:=by kernel_rfl
theorem a48:aggO Tryz.prog 48=some false:=by kernel_rfl
theorem z39:szO Tryz.prog 39=some 1:=by kernel_rfl
theorem b39:aggO Tryz.prog 39=some false:=by kernel_rfl
theorem fA:∃fs,Tryz.prog.underlying 54=some (.struct fs)∧fs.toList.map (fun f=>(f.type,f.offset))=[(3,0),(50,1),(9,4),(3,5),(39,6)]:=by
 have h:(match Tryz.prog.underlying 54 with
  | some (.struct fs)=>decide (fs.toList.map (fun f=>(f.type,f.offset))=[(3,0),(50,1),(9,4),(3,5),(39,6)])
  | _=>false)=true:=by kernel_rfl
 split at h
 ·rename_i fs e;exact⟨fs,e,of_decide_eq_true h⟩
 ·cases h
theorem fR:∃fs,Tryz.prog.underlying 50=some (.struct fs)∧fs.toList.map (fun f=>(f.type,f.offset))=[(4,0),(48,1),(48,2)]:=by
 have h:(match Tryz.prog.underlying 50 with
  | some (.struct fs)=>decide (fs.toList.map (fun f=>(f.type,f.offset))=[(4,0),(48,1),(48,2)])
  | _=>false)=true:=by kernel_rfl
 split at h
 ·rename_i fs e;exact⟨fs,e,of_decide_eq_true h⟩
 ·cases h
theorem addn(g o k:Nat):(⟨g,o,none⟩:Addr).add k=⟨g,o+k,none⟩:=by unfold Addr.add;split <;> simp_all
theorem adr2(g off i:Nat)(j k:Nat):(((⟨g,off,none⟩:Addr).add ((i:Int).toNat*7)).add j).add k=⟨g,off+(i*7+(j+k)),none⟩:=by
 rw[addn,addn,addn,Int.toNat_natCast];simp only[Nat.add_assoc]
theorem adr1(g off i:Nat)(j:Nat):((⟨g,off,none⟩:Addr).add ((i:Int).toNat*7)).add j=⟨g,off+(i*7+j),none⟩:=by
 rw[addn,addn,Int.toNat_natCast];simp only[Nat.add_assoc]
theorem cellAt{W:World}{g k:Nat}{cur:Array Value}{ty:TypeId}{y:Value}(hg:W.heap[g]?=some (.cells cur ty (0,0)))(hk:cur.toList[k]?=some y):W.cell? ⟨g,k,none⟩=some y:=by
 simp only[World.cell?,hg]
 simpa using hk
theorem evp{env:List (Nat×Value)}{x:Operand}{A B:Addr}(h:evE env x=some (.pointer (some A)))(e:A=B):evE env x=some (.pointer (some B)):=e▸h
theorem Rw.lt{X:Nat→Prop}{w W:World}{lv:Value}{l:List T}(h:Rw X w W lv l){g:Nat}{cur:Array Value}(hbk:blk lv=some g)(hg:W.heap[g]?=some (.cells cur 54 (0,0)))(hX:∀b,X b→b<w.heap.size):∀b,(blk lv=some b∨X b)→b<W.heap.size:=by
 intro b hb
 rcases hb with hb | hb
 ·rw[hbk] at hb;cases hb;exact(Array.getElem?_eq_some_iff.1 hg).1
 ·exact Nat.lt_of_lt_of_le (hX b hb) h.stp.size
theorem Rw.shape{X:Nat→Prop}{w W:World}{lv:Value}{l:List T}(h:Rw X w W lv l):∃p cap,lv=.slice p l.length cap:=by
 obtain⟨_,hu,⟨xs,hr,ht⟩,_⟩:=h.ok
 rcases hr.2 with⟨h1 | ⟨a,h1⟩,h0⟩ | ⟨g,off,cap,cur,e1,_⟩
 ·exact⟨none,0,by rw[h1,h0]⟩
 ·exact⟨some a,0,by rw[h1,h0]⟩
 ·exact⟨_,_,e1⟩
theorem gd_stp{w W:World}(hG:Good Tryz.prog w fun _=>False)(hs:Stp (fun _=>False) w W):Good Tryz.prog W fun _=>False:=hG.call hs fun b h=>h.elim
section
variable {a:Act} {w W:World} {Q:Exit→Act→World→Prop} {X:Nat→Prop} {lv:Value} {l:List T} {i:Nat} {x:T}
theorem small_len{q:Rat}(h:Rt.Sm q):(Rt.rNum q).length≤16∧(Rt.rDen q).length≤16:=by
 obtain⟨h1,h2⟩:=h
 have hb:(2147483648:Nat)<Rt.BB:=by decide
 refine⟨?_,?_⟩
 ·rw[Rt.rNum_sm (by omega)];split <;> simp
 ·rw[Rt.rDen_sm (by omega)];split <;> simp
set_option maxRecDepth 20000 in
set_option maxHeartbeats 8000000 in
theorem wr5{num den:List T}(hx:l[i]?=some x)(h2:x.cells[2]?=some (.sl 1 num))(h3:x.cells[3]?=some (.sl 1 den))(hn2:num.length≤16)(hn3:den.length≤16)(hG:Good Tryz.prog w fun _=>False)(hX:∀b,X b→b<w.heap.size)(hR:Rw X w W lv l)
 (hQ:∀c a d v w,Q (.panic c) (a.put d v) w→Q (.panic c) a w) (hf:Fr 48 [(4,vI (i:Nat)),(9,vI (i:Nat)),(8,vI (l.length:Nat)),(3,lv)] a)
 (hn:∀a' W',Fr 48 [(4,vI (i:Nat)),(9,vI (i:Nat)),(8,vI (l.length:Nat)),(3,lv)] a'→Rw X w W' lv l→Q .normal a' W'):(cdGo [1,1,0,1,0,0,1,1,0,0,1,0] (cdOf Tryz.f66)).wp Tryz.prog Q a W:=by
 obtain⟨g,off,cap,cur,rfl,hbk,hg,hsz,hcells⟩:=hR.open_ hx
 have hil:i<l.length:=(List.getElem?_eq_some_iff.1 hx).1
 obtain⟨y2,p2,r2,o2⟩:=hcells 2 _ (by decide) h2
 obtain⟨y3,p3,r3,o3⟩:=hcells 3 _ (by decide) h3
 have hXX:=hR.lt hbk hg hX
 have hR:=hR.step (Stp.drew (fun _=>False) W)
 have tail:∀(L:Array Bool) (a:Act) (W2:World) (v1 v2:Value),L=#[true,true,true,true,true,true,true,true,true,true,true,true,true,true,true,true,true,true,false,false,false,false,false,false,false,false] →
  Fr 48 [(22,v1),(29,v2),(12,.slice (some ⟨g,off,none⟩) l.length cap),(13,vI (i:Nat)),(14,.slice (some ⟨g,off,none⟩) l.length cap),(15,vI (i:Nat)),(4,vI (i:Nat)),(9,vI (i:Nat)),(8,vI (l.length:Nat)),(3,.slice (some ⟨g,off,none⟩) l.length cap)] a →
  Rw X w W2 (.slice (some ⟨g,off,none⟩) l.length cap) l→Rd W2 (fun b=>blk (.slice (some ⟨g,off,none⟩) l.length cap)=some b∨X b) (.sl 1 num) v1→v1.oneCell'=true →
  Rd W2 (fun b=>blk (.slice (some ⟨g,off,none⟩) l.length cap)=some b∨X b) (.sl 1 den) v2→v2.oneCell'=true→wpAny Tryz.prog .any (opsOf (cdGo [1,1,0,1,0,0,1,1,0,0,1,0] (cdOf Tryz.f66))) Q 8 L a W2:=by
  intro L a W2 v1 v2 eL hf hR k1 m1 k2 m2
  subst eL
  obtain⟨g',off',cap',cur',e',hbk',hg',hsz',_⟩:=hR.open_ hx
  simp only[Value.slice.injEq,Option.some.injEq,Addr.mk.injEq,true_and,and_true] at e'
  obtain⟨⟨rfl,rfl⟩,rfl⟩:=e'
  refine any_op (i:=18) (fuel:=7) (by kernel_rfl) rfl rfl ?_
  refine op_val hf rfl (by decide) (rn_index hf rfl u39 s54 rfl rfl (Int.natCast_nonneg _) (Int.ofNat_lt.2 hil)) fun a hf=>?_
  refine any_op (i:=19) (fuel:=6) (by kernel_rfl) rfl rfl ?_
  refine op_val hf rfl (by decide) (rn_fld hf rfl fA rfl s50 (by decide) rfl) fun a hf=>?_
  refine any_op (i:=20) (fuel:=5) (by kernel_rfl) rfl rfl ?_
  refine op_val hf rfl (by decide) (rn_fld hf rfl fR rfl s48 (by decide) rfl) fun a hf=>?_
  refine any_op (i:=21) (fuel:=4) (by kernel_rfl) rfl rfl ?_
  refine op_store hf rfl rfl s48 (evp rfl (adr2 g off i 1 1)) rfl m1 hg' (by omega) fun a hf=>?_
  have hR':=hR.put hx (by decide:2<7) h2 rfl hbk' hg' k1 m1
  have hs':=setRow_stp W2 g (cur'.toList.set (off+(i*7+2)) v1).toArray
  have k2':Rd (W2.setRow g (cur'.toList.set (off+(i*7+2)) v1).toArray) (fun b=>blk (.slice (some ⟨g,off,none⟩) l.length cap)=some b∨X b) (.sl 1 den) v2:=k2.step hs' (fun b hb=>by subst hb;exact .inl hbk') fun b hb=>.inl hb
  have hg2:=setRow_heap W2 g cur' (cur'.toList.set (off+(i*7+2)) v1).toArray 54 (0,0) hg'
  refine any_op (i:=22) (fuel:=3) (by kernel_rfl) rfl rfl ?_
  refine op_val hf rfl (by decide) (rn_index hf rfl u39 s54 rfl rfl (Int.natCast_nonneg _) (Int.ofNat_lt.2 hil)) fun a hf=>?_
  refine any_op (i:=23) (fuel:=2) (by kernel_rfl) rfl rfl ?_
  refine op_val hf rfl (by decide) (rn_fld hf rfl fA rfl s50 (by decide) rfl) fun a hf=>?_
  refine any_op (i:=24) (fuel:=1) (by kernel_rfl) rfl rfl ?_
  refine op_val hf rfl (by decide) (rn_fld hf rfl fR rfl s48 (by decide) rfl) fun a hf=>?_
  refine any_op (i:=25) (fuel:=0) (by kernel_rfl) rfl rfl ?_
  refine op_store hf rfl rfl s48 (evp rfl (adr2 g off i 1 2)) rfl m2 hg2 (by simp;omega) fun a hf=>?_
  have hR'':=hR'.put hx (by decide:3<7) h3 rfl hbk' hg2 k2' m2
  exact wpAny_done (by kernel_rfl) (hn a _ (hf.weak ⟨rfl,rfl,rfl,rfl,trivial⟩) hR'') _
 have mv:∀{W1:World},Stp (fun _=>False) W.drew W1→W1.heap[g]?=some (.cells cur 54 (0,0)):=fun h=>(h.blk g (Array.getElem?_eq_some_iff.1 hg).1 id).trans hg
 have hXd:∀{W1:World},Stp (fun _=>False) W.drew W1→∀b,(blk (.slice (some ⟨g,off,none⟩) l.length cap)=some b∨X b)→b<W1.heap.size:=fun h b hb=>Nat.lt_of_lt_of_le (hXX b hb) h.size
 have rs2:∀{W1:World},Stp (fun _=>False) W.drew W1→RdSs W1 (fun b=>blk (.slice (some ⟨g,off,none⟩) l.length cap)=some b∨X b) (fun _=>none) [.c (.t (.sl 1 num))] [y2]:=fun h=>rdss_one (.inr ⟨(r2.step (Stp.drew (fun _=>False) W) (fun _ h=>h.elim) fun b hb=>.inl hb).step h (fun _ h=>h.elim) fun b hb=>.inl hb,o2⟩)
 have rs3:∀{W1:World},Stp (fun _=>False) W.drew W1→RdSs W1 (fun b=>blk (.slice (some ⟨g,off,none⟩) l.length cap)=some b∨X b) (fun _=>none) [.c (.t (.sl 1 den))] [y3]:=fun h=>rdss_one (.inr ⟨(r3.step (Stp.drew (fun _=>False) W) (fun _ h=>h.elim) fun b hb=>.inl hb).step h (fun _ h=>h.elim) fun b hb=>.inl hb,o3⟩)
 have st0:=Stp.refl (fun _=>False) W.drew
 have cu2:((calleeOf sg_slices_Clone___uint32_uint32_ u_slices_Clone___uint32_uint32_).call [.c (.t (.sl 1 num))] [] fun rs po=>some (rs,po))=some ([.c (.t (.sl 1 num))],[]):=by rw[c_u,clone_u hn2];rfl
 have cu3:((calleeOf sg_slices_Clone___uint32_uint32_ u_slices_Clone___uint32_uint32_).call [.c (.t (.sl 1 den))] [] fun rs po=>some (rs,po))=some ([.c (.t (.sl 1 den))],[]):=by rw[c_u,clone_u hn3];rfl
 refine wp_region_any mixed ?_
 refine any_take (ops:=opsOf (cdGo [1,1,0,1,0,0,1,1,0,0,1,0] (cdOf Tryz.f66))) (i:=0) (fuel:=25) hf rfl (by kernel_rfl) (by kernel_rfl) (by kernel_rfl) hQ rfl rfl (by decide) (fun w=>rn_move hf rfl rfl) fun a hf=>?_
 refine any_take (ops:=opsOf (cdGo [1,1,0,1,0,0,1,1,0,0,1,0] (cdOf Tryz.f66))) (i:=1) (fuel:=24) hf rfl (by kernel_rfl) (by kernel_rfl) (by kernel_rfl) hQ rfl rfl (by decide) (fun w=>rn_move hf rfl rfl) fun a hf=>?_
 refine any_take (ops:=opsOf (cdGo [1,1,0,1,0,0,1,1,0,0,1,0] (cdOf Tryz.f66))) (i:=2) (fuel:=23) hf rfl (by kernel_rfl) (by kernel_rfl) (by kernel_rfl) hQ rfl rfl (by decide) (fun w=>rn_move hf rfl rfl) fun a hf=>?_
 refine any_take (ops:=opsOf (cdGo [1,1,0,1,0,0,1,1,0,0,1,0] (cdOf Tryz.f66))) (i:=3) (fuel:=22) hf rfl (by kernel_rfl) (by kernel_rfl) (by kernel_rfl) hQ rfl rfl (by decide) (fun w=>rn_move hf rfl rfl) fun a hf=>?_
 refine any_take (ops:=opsOf (cdGo [1,1,0,1,0,0,1,1,0,0,1,0] (cdOf Tryz.f66))) (i:=4) (fuel:=21) hf rfl (by kernel_rfl) (by kernel_rfl) (by kernel_rfl) hQ rfl rfl (by decide) (fun w=>rn_move hf rfl rfl) fun a hf=>?_
 refine any_take (ops:=opsOf (cdGo [1,1,0,1,0,0,1,1,0,0,1,0] (cdOf Tryz.f66))) (i:=5) (fuel:=20) hf rfl (by kernel_rfl) (by kernel_rfl) (by kernel_rfl) hQ rfl rfl (by decide) (fun w=>rn_move hf rfl rfl) fun a hf=>?_
 refine any_take (ops:=opsOf (cdGo [1,1,0,1,0,0,1,1,0,0,1,0] (cdOf Tryz.f66))) (i:=6) (fuel:=19) hf rfl (by kernel_rfl) (by kernel_rfl) (by kernel_rfl) hQ rfl rfl (by decide) (fun w=>rn_index hf rfl u39 s54 rfl rfl (Int.natCast_nonneg _) (Int.ofNat_lt.2 hil)) fun a hf=>?_
 refine any_take (ops:=opsOf (cdGo [1,1,0,1,0,0,1,1,0,0,1,0] (cdOf Tryz.f66))) (i:=7) (fuel:=18) hf rfl (by kernel_rfl) (by kernel_rfl) (by kernel_rfl) hQ rfl rfl (by decide) (fun w=>rn_fld hf rfl fA rfl s50 (by decide) rfl) fun a hf=>?_
 refine any_take (ops:=opsOf (cdGo [1,1,0,1,0,0,1,1,0,0,1,0] (cdOf Tryz.f66))) (i:=8) (fuel:=17) hf rfl (by kernel_rfl) (by kernel_rfl) (by kernel_rfl) hQ rfl rfl (by decide) (fun w=>rn_fld hf rfl fR rfl s48 (by decide) rfl) fun a hf=>?_
 refine any_take (ops:=opsOf (cdGo [1,1,0,1,0,0,1,1,0,0,1,0] (cdOf Tryz.f66))) (i:=11) (fuel:=16) hf rfl (by kernel_rfl) (by kernel_rfl) (by kernel_rfl) hQ rfl rfl (by decide) (fun w=>rn_move hf rfl rfl) fun a hf=>?_
 refine any_take (ops:=opsOf (cdGo [1,1,0,1,0,0,1,1,0,0,1,0] (cdOf Tryz.f66))) (i:=12) (fuel:=15) hf rfl (by kernel_rfl) (by kernel_rfl) (by kernel_rfl) hQ rfl rfl (by decide) (fun w=>rn_move hf rfl rfl) fun a hf=>?_
 refine any_take (ops:=opsOf (cdGo [1,1,0,1,0,0,1,1,0,0,1,0] (cdOf Tryz.f66))) (i:=13) (fuel:=14) hf rfl (by kernel_rfl) (by kernel_rfl) (by kernel_rfl) hQ rfl rfl (by decide) (fun w=>rn_index hf rfl u39 s54 rfl rfl (Int.natCast_nonneg _) (Int.ofNat_lt.2 hil)) fun a hf=>?_
 refine any_take (ops:=opsOf (cdGo [1,1,0,1,0,0,1,1,0,0,1,0] (cdOf Tryz.f66))) (i:=14) (fuel:=13) hf rfl (by kernel_rfl) (by kernel_rfl) (by kernel_rfl) hQ rfl rfl (by decide) (fun w=>rn_fld hf rfl fA rfl s50 (by decide) rfl) fun a hf=>?_
 refine any_take (ops:=opsOf (cdGo [1,1,0,1,0,0,1,1,0,0,1,0] (cdOf Tryz.f66))) (i:=15) (fuel:=12) hf rfl (by kernel_rfl) (by kernel_rfl) (by kernel_rfl) hQ rfl rfl (by decide) (fun w=>rn_fld hf rfl fR rfl s48 (by decide) rfl) fun a hf=>?_
 have l2:∀{W1:World},Stp (fun _=>False) W.drew W1→W1.cell? ((((⟨g,off,none⟩:Addr).add ((i:Int).toNat*7)).add 1).add 1)=some y2:=fun h=>by rw[adr2];exact cellAt (mv h) p2
 have l3:∀{W1:World},Stp (fun _=>False) W.drew W1→W1.cell? ((((⟨g,off,none⟩:Addr).add ((i:Int).toNat*7)).add 1).add 2)=some y3:=fun h=>by rw[adr2];exact cellAt (mv h) p3
 refine any_two (i:=9) (j:=16) (fuel:=11) (by kernel_rfl) rfl rfl rfl rfl ?_ ?_
 ·refine op_load hf rfl rfl (by decide) s48 a48 rfl (l2 st0) fun a hf=>?_
  refine any_two (i:=10) (j:=16) (fuel:=10) (by kernel_rfl) rfl rfl rfl rfl ?_ ?_
  ·refine op_treeX hf rfl rfl rfl (by decide) cc71 rfl k_slices_Clone___uint32_uint32_ cu2 (gd_stp hG hR.stp) (hXd st0) (rs2 st0) fun v1 a W1 hf t1 k1 m1=>?_
   refine any_op (i:=16) (fuel:=9) (by kernel_rfl) rfl rfl ?_
   refine op_load hf rfl rfl (by decide) s48 a48 rfl (l3 t1) fun a hf=>?_
   refine any_op (i:=17) (fuel:=8) (by kernel_rfl) rfl rfl ?_
   refine op_treeX hf rfl rfl rfl (by decide) cc71 rfl k_slices_Clone___uint32_uint32_ cu3 (gd_stp hG (hR.step t1).stp) (hXd t1) (rs3 t1) fun v2 a W2 hf t2 k2 m2=>?_
   exact tail _ a W2 v1 v2 (by kernel_rfl) (hf.weak ⟨rfl,rfl,rfl,rfl,rfl,rfl,rfl,rfl,rfl,rfl,trivial⟩) ((hR.step t1).step t2) (k1.step t2 (fun _ h=>h.elim) fun b hb=>.inl hb) m1 k2 m2
  ·refine op_load hf rfl rfl (by decide) s48 a48 rfl (l3 st0) fun a hf=>?_
   refine any_op (i:=10) (fuel:=9) (by kernel_rfl) rfl rfl ?_
   refine op_treeX hf rfl rfl rfl (by decide) cc71 rfl k_slices_Clone___uint32_uint32_ cu2 (gd_stp hG hR.stp) (hXd st0) (rs2 st0) fun v1 a W1 hf t1 k1 m1=>?_
   refine any_op (i:=17) (fuel:=8) (by kernel_rfl) rfl rfl ?_
   refine op_treeX hf rfl rfl rfl (by decide) cc71 rfl k_slices_Clone___uint32_uint32_ cu3 (gd_stp hG (hR.step t1).stp) (hXd t1) (rs3 t1) fun v2 a W2 hf t2 k2 m2=>?_
   exact tail _ a W2 v1 v2 (by kernel_rfl) (hf.weak ⟨rfl,rfl,rfl,rfl,rfl,rfl,rfl,rfl,rfl,rfl,trivial⟩) ((hR.step t1).step t2) (k1.step t2 (fun _ h=>h.elim) fun b hb=>.inl hb) m1 k2 m2
 ·refine op_load hf rfl rfl (by decide) s48 a48 rfl (l3 st0) fun a hf=>?_
  refine any_op (i:=9) (fuel:=10) (by kernel_rfl) rfl rfl ?_
  refine op_load hf rfl rfl (by decide) s48 a48 rfl (l2 st0) fun a hf=>?_
  refine any_op (i:=10) (fuel:=9) (by kernel_rfl) rfl rfl ?_
  refine op_treeX hf rfl rfl rfl (by decide) cc71 rfl k_slices_Clone___uint32_uint32_ cu2 (gd_stp hG hR.stp) (hXd st0) (rs2 st0) fun v1 a W1 hf t1 k1 m1=>?_
  refine any_op (i:=17) (fuel:=8) (by kernel_rfl) rfl rfl ?_
  refine op_treeX hf rfl rfl rfl (by decide) cc71 rfl k_slices_Clone___uint32_uint32_ cu3 (gd_stp hG (hR.step t1).stp) (hXd t1) (rs3 t1) fun v2 a W2 hf t2 k2 m2=>?_
  exact tail _ a W2 v1 v2 (by kernel_rfl) (hf.weak ⟨rfl,rfl,rfl,rfl,rfl,rfl,rfl,rfl,rfl,rfl,trivial⟩) ((hR.step t1).step t2) (k1.step t2 (fun _ h=>h.elim) fun b hb=>.inl hb) m1 k2 m2
end
end Go.Eng.En
namespace Go.Eng.En
open Go.Eng Go.RowKit Go.Proofs
section
variable {a:Act} {w W:World} {Q:Exit→Act→World→Prop} {X:Nat→Prop} {lv:Value} {l:List T} {i:Nat} {x:T}
set_option maxRecDepth 20000 in
set_option maxHeartbeats 8000000 in
theorem wr6{u:List T×Unit→Option (List T×Unit)}{sub:List T}(hx:l[i]?=some x)(h6:x.cells[6]?=some (.sl 7 sub))(hu:u (sub,())=some (sub,()))(hself:(calleeOf sg_copies u).OK Tryz.prog 66)(hG:Good Tryz.prog w fun _=>False)(hX:∀b,X b→b<w.heap.size)(hR:Rw X w W lv l)
 (hf:Fr 48 [(4,vI (i:Nat)),(9,vI (i:Nat)),(8,vI (l.length:Nat)),(3,lv)] a)
 (hn:∀a' W',Fr 48 [(4,vI (i:Nat)),(9,vI (i:Nat)),(8,vI (l.length:Nat)),(3,lv)] a'→Rw X w W' lv l→Q .normal a' W'):(cdGo [1,1,0,1,0,0,1,1,0,0,1,1] (cdOf Tryz.f66)).wp Tryz.prog Q a W:=by
 obtain⟨g,off,cap,cur,rfl,hbk,hg,hsz,hcells⟩:=hR.open_ hx
 have hil:i<l.length:=(List.getElem?_eq_some_iff.1 hx).1
 obtain⟨y6,p6,r6,o6⟩:=hcells 6 _ (by decide) h6
 have hXX:=hR.lt hbk hg hX
 refine wp_reg (by kernel_rfl) ?_
 refine op_move hf rfl rfl (by decide) rfl fun a hf=>?_
 refine op_move hf rfl rfl (by decide) rfl fun a hf=>?_
 refine op_move hf rfl rfl (by decide) rfl fun a hf=>?_
 refine op_move hf rfl rfl (by decide) rfl fun a hf=>?_
 refine op_val hf rfl (by decide) (rn_index hf rfl u39 s54 rfl rfl (Int.natCast_nonneg _) (Int.ofNat_lt.2 hil)) fun a hf=>?_
 refine op_val hf rfl (by decide) (rn_fld hf rfl fA rfl z39 (by decide) rfl) fun a hf=>?_
 refine op_load hf rfl rfl (by decide) z39 b39 rfl (by rw[adr1];exact cellAt hg p6) fun a hf=>?_
 refine op_treeX (args:=[.c (.t (.sl 7 sub))]) (t:=.sl 7 sub) hf rfl rfl rfl (by decide) cc66 rfl hself (by rw[c_c,hu];rfl) (gd_stp hG hR.stp) hXX (rdss_one (.inr ⟨r6,o6⟩)) fun v a W1 hf t1 k1 m1=>?_
 have hR1:=hR.step t1
 have hg1:W1.heap[g]?=some (.cells cur 54 (0,0)):=(t1.blk g (Array.getElem?_eq_some_iff.1 hg).1 id).trans hg
 refine op_val hf rfl (by decide) (rn_index hf rfl u39 s54 rfl rfl (Int.natCast_nonneg _) (Int.ofNat_lt.2 hil)) fun a hf=>?_
 refine op_val hf rfl (by decide) (rn_fld hf rfl fA rfl z39 (by decide) rfl) fun a hf=>?_
 refine op_store hf rfl rfl z39 (evp rfl (adr1 g off i 6)) rfl m1 hg1 (by omega) fun a hf=>?_
 exact hn a _ (hf.weak ⟨rfl,rfl,rfl,rfl,trivial⟩) (hR1.put hx (by decide:6<7) h6 rfl hbk hg1 k1 m1)
set_option maxRecDepth 20000 in
set_option maxHeartbeats 8000000 in
theorem wrd{n:Nat}(hx:l[i]?=some x)(hok:OkA (n+1) x)(hl:l.length≤16)(hself:(calleeOf sg_copies (cpU n)).OK Tryz.prog 66)(hG:Good Tryz.prog w fun _=>False)(hX:∀b,X b→b<w.heap.size)(hR:Rw X w W lv l)
 (hQ:∀c a d v w,Q (.panic c) (a.put d v) w→Q (.panic c) a w) (hf:Fr 48 [(9,vI (i:Nat)),(8,vI (l.length:Nat)),(3,lv)] a)
 (hn:∀a' W',Fr 48 [(9,vI ((i+1:Nat):Int)),(8,vI (l.length:Nat)),(3,lv)] a'→Rw X w W' lv l→Q .normal a' W'):(cdGo [1,1,0,1,0,0,1,1] (cdOf Tryz.f66)).wp Tryz.prog Q a W:=by
 obtain⟨k,neg,num,den,text,ref,sub,rfl,hs4,hsub,q,hq,_,rfl,rfl⟩:=hok
 have hil:i<l.length:=(List.getElem?_eq_some_iff.1 hx).1
 obtain⟨b1,b2⟩:=small_len hq
 refine wp_seq (wp_block (wp_seq (wp_reg (by kernel_rfl) ?_)))
 refine op_move hf rfl rfl (by decide) rfl fun a hf=>?_
 refine op_assign hf rfl rfl (by decide) rfl fun a hf=>?_
 refine wp_seq ?_
 refine wr5 hx rfl rfl b1 b2 hG hX hR (fun c a d v w h=>hQ c a d v w h) (hf.weak ⟨rfl,rfl,rfl,rfl,trivial⟩) fun a W1 hf hR=>?_
 refine wr6 (u:=cpU n) hx rfl (cpU_ok (by omega) hsub) hself hG hX hR hf fun a W2 hf hR=>?_
 refine wp_reg (by kernel_rfl) ?_
 refine op_bin (v:=vI ((i+1:Nat):Int)) hf rfl rfl (by decide) rfl rfl rfl rfl ?_ fun a hf=>?_
 ·rw[bk_add,wr64 (by omega) (by omega)]
  rfl
 refine op_move hf rfl rfl (by decide) rfl fun a hf=>?_
 exact hn a W2 (hf.weak ⟨rfl,rfl,rfl,trivial⟩) hR
end
set_option maxRecDepth 20000 in
set_option maxHeartbeats 8000000 in
theorem copies1{l:List T}{w:World}{X:Nat→Prop}{v:Value}(hl:l.length≤16)(hok:∀x∈l,∃n,OkA (n+1) x∧(calleeOf sg_copies (cpU n)).OK Tryz.prog 66)(hG:Good Tryz.prog w fun _=>False)(hX:∀b,X b→b<w.heap.size)(hr:Rd w X (.sl 7 l) v)(h1:v.oneCell'=true)
 {R:Ending→World→Prop} (hR:∀v' w',Rw X w w' v' l→R (.returned v') w'):Calls Tryz.prog 66 #[v] w R:=by
 refine calls_start [v] 47 48 Tryz.func66 rfl rfl rfl fun a hf=>?_
 refine wp_seq (wp_reg (by kernel_rfl) ?_)
 refine op_assign hf rfl rfl (by decide) rfl fun a hf=>?_
 refine wp_seq (wp_reg (by kernel_rfl) ?_)
 refine op_move hf rfl rfl (by decide) rfl fun a hf=>?_
 refine op_rowX (args:=[.c (.t (.sl 7 l))]) (l:=l) hf rfl rfl rfl (by decide) cc90 rfl k_slices_Clone___api_Arg_api_Arg__r (by rw[c_r,clone_r hl];rfl) hG hX (rdss_one (.inr ⟨hr,h1⟩)) fun lv a W hf hw=>?_
 obtain⟨p,cap,rfl⟩:=hw.shape
 refine op_assign hf rfl rfl (by decide) rfl fun a hf=>?_
 refine wp_seq (wp_seq (wp_reg (by kernel_rfl) ?_))
 refine op_move hf rfl rfl (by decide) rfl fun a hf=>?_
 refine op_len hf rfl rfl (by decide) u39 rfl fun a hf=>?_
 refine op_move hf rfl rfl (by decide) rfl fun a hf=>?_
 refine wp_block ?_
 refine loop_ind (m:=l.length) (fun k a W=>∃i:Nat,i+k=l.length∧Fr 48 [(9,vI (i:Nat)),(8,vI (l.length:Nat)),(3,.slice p l.length cap)] a∧Rw X w W (.slice p l.length cap) l) ?_ ?_
  ⟨0,Nat.zero_add _,hf.weak ⟨rfl,rfl,rfl,trivial⟩,hw⟩
 ·rintro K a W ⟨i,hi,hf,hw⟩
  have hil:i=l.length:=by omega
  subst hil
  refine wp_seq (wp_reg (by kernel_rfl) ?_)
  refine op_bin (v:=.bool false) hf rfl rfl (by decide) rfl rfl rfl rfl ?_ fun a hf=>?_
  ·rw[bk_lss,ltI_eq,decide_eq_false (by omega)]
  refine wp_seq (wp_cond_false (hf.ev rfl) (wp_exit ?_))
  show Code.wp Tryz.prog (cdGo [1,1,1] (cdOf Tryz.f66)) _ a W
  refine wp_seq (wp_reg (by kernel_rfl) ?_)
  refine op_move hf rfl rfl (by decide) rfl fun a hf=>?_
  refine op_assign hf rfl rfl (by decide) rfl fun a hf=>?_
  refine wp_ret ?_
  exact ret_one rfl hf rfl (hR _ W hw)
 ·rintro k K hK a W ⟨i,hi,hf,hw⟩
  have hil:i<l.length:=by omega
  obtain⟨x,hx⟩:∃x,l[i]?=some x:=⟨_,List.getElem?_eq_getElem hil⟩
  obtain⟨n,ho,hs⟩:=hok x (List.mem_of_getElem? hx)
  refine wp_seq (wp_reg (by kernel_rfl) ?_)
  refine op_bin (v:=.bool true) hf rfl rfl (by decide) rfl rfl rfl rfl ?_ fun a hf=>?_
  ·rw[bk_lss,ltI_eq,decide_eq_true (by omega)]
  refine wp_seq (wp_cond_true (hf.ev rfl) (wp_skip ?_))
  exact wrd hx ho hl hs hG hX hw (fun c a d v w h=>by cases d <;> exact h) (hf.weak ⟨rfl,rfl,rfl,trivial⟩) fun a' W' hf' hw'=>hK a' W' ⟨i+1,by omega,hf',hw'⟩
theorem k_copies:∀n,(calleeOf sg_copies (cpU n)).OK Tryz.prog 66:=by
 intro n
 induction n with
 | zero=>exact step 0 fun x _ h=>h.elim
 | succ n ih=>exact step (n+1) fun x _ h=>⟨n,h,ih⟩
where
 step (n:Nat) (hs:∀(x:T) (_:True),OkA n x→∃m,OkA (m+1) x∧(calleeOf sg_copies (cpU m)).OK Tryz.prog 66):(calleeOf sg_copies (cpU n)).OK Tryz.prog 66:=by
  refine libCallee rfl rfl fun t q hq w X F ρ vals hG hX hvl hv rs hrs=>?_
  obtain⟨l,u⟩:=t
  obtain⟨e,hl,hok⟩:=cpU_some hq
  subst e
  match vals,hvl with
  | [v],_=>
  have hr:RdC1 w X ρ (.t (.sl 7 l)) v:=hv 0 _ v rfl rfl
  rcases hr with hr | ⟨hr,h1⟩
  ·cases hr
  refine copies1 (l:=l) (X:=X) hl (fun x hx=>hs x trivial (hok x hx)) (fun g k hg=>⟨id,(hG g k hg).2⟩) hX hr h1 fun v' w' hw=>⟨v',rfl,hw.stp,?_⟩
  have:rs=[.c (.t (.sl 7 l))]:=by
   have h:s1s [.s (.c (.t (.sl 7 l)))]=some rs:=hrs
   simp only[s1s,Option.map_some,Option.some.injEq] at h
   exact h.symm
  subst this
  exact .inr ⟨hw.tree hX,hw.one⟩
end Go.Eng.En
namespace Go.Eng
open En
def sg_entity_copies:Sig:={ na:=1,np:=0,hin:={ items:=[.slot 0],shapes:=[.sl 7] },nres:=1,kept:=[],nnew:=0,hout:={ items:=[.slot 0],shapes:=[.sl 7] },nob:=96 }
noncomputable def u_entity_copies(t:((List T)×Unit)):Option ((List T)×Unit):=cpU 8 t
theorem k_entity_copies:(calleeOf sg_entity_copies u_entity_copies).OK Go.Proofs.Tryz.prog 66:=k_copies 8
open Go.Proofs
def sg_entity_clone:Sig:=⟨1,0,⟨[.aggs 0 2],[.str,.sl 7]⟩,1,[],0,⟨[.aggs 0 2],[.str,.sl 7]⟩,18⟩
noncomputable def g_entity_clone:List (FuncId×Callee):=[(66,trC (calleeOf sg_entity_copies u_entity_copies))]
noncomputable def u_entity_clone(t:ByteArray×List T×Unit):Option (ByteArray×List T×Unit):=ob (u_entity_copies (t.2.1,())) fun x0=>some (t.1,x0.1,())
def h_entity_clone:HT:=.leaf
theorem ok_entity_clone:TabOK Tryz.prog [1000066] g_entity_clone:=(TabOK.consP (fun _=>⟨_,Tryz.func66,by kernel_rfl,by kernel_rfl⟩) (trC_ok k_entity_copies) (trC_nat (calleeOf_nat _ _)) (fun h=>by cases h) (fun _=>trC_pureP (calleeOf_nat _ _)) (fun _=>(trC_pureP (calleeOf_nat _ _)).framed) (by kernel_rfl) TabOK.nil)
theorem e_entity_clone:∀t,bodyG Tryz.prog g_entity_clone [1000066] h_entity_clone Tryz.f39 sg_entity_clone t=u_entity_clone t:=fun _=>by kernel_rfl
theorem k_entity_clone:(calleeOf sg_entity_clone u_entity_clone).OK Tryz.prog 39:=mkK mixed [1000066] h_entity_clone ok_entity_clone Tryz.func39 e_entity_clone
def sg_entity_Find:Sig:=⟨2,0,⟨[.aggs 0 2,.slot 1],[.sl 2,.sl 3,I6]⟩,2,[],0,⟨[.aggs 0 2,.slot 1],[.str,.sl 7,.bool]⟩,42⟩
noncomputable def u_entity_Find(t:List T×List T×Int×Unit):Option (ByteArray×List T×Bool×Unit):=ob (u_slices_IndexFunc___api_Entity_api_Entity_ (t.2.1,(),t.2.2.1,())) fun x0=>bif ltI x0.1 (0:Int) then some (ByteArray.mk #[],[],false,()) else ob (idxL t.2.1 x0.1) fun x1=>ob (T.str? (T.cell x1 1)) fun x2=>ob (T.sl? 7 (T.cell x1 2)) fun x3=>ob (u_entity_clone (x2,x3,())) fun x4=>some (x4.1,x4.2.1,true,())
theorem k_entity_Find:(calleeOf sg_entity_Find u_entity_Find).OK Tryz.prog 16:=mkK mixed [] .leaf (.cs Tryz.func37 k_slices_IndexFunc___api_Entity_api_Entity_ <| .cs Tryz.func38 k_entity_Find_1 <| .cs Tryz.func39 k_entity_clone <| .nil) Tryz.func16 fun _=>by kernel_rfl
def sg_brepkernellaw24_sane:Sig:=⟨0,0,⟨[],[]⟩,1,[],0,⟨[.slot 0],[.bool]⟩,168⟩
noncomputable def u_brepkernellaw24_sane(t:Unit):Option (Bool×Unit):=ob (u_ref02_Frac ((-3:Int),(8:Int),())) fun x0=>ob (u_entity_Decimal (x0.1,x0.2.1,x0.2.2.1,())) fun x1=>ob (u_ref02_Int ((5:Int),())) fun x2=>ob (u_entity_Decimal (x2.1,x2.2.1,x2.2.2.1,())) fun x3=>ob (u_ref02_Frac ((1:Int),(3:Int),())) fun x4=>ob (u_entity_Decimal (x4.1,x4.2.1,x4.2.2.1,())) fun x5=>ob (u_entity_Typed ([],[T.agg [T.v (.int .i64 (1:Int)),T.v (.string (ByteArray.mk #[80,76,65,78,69])),T.sl 7 [T.agg [T.v (.int .i64 (3:Int)),T.v (.bool false),T.sl 1 [],T.sl 1 [],T.v (.string (ByteArray.mk #[])),T.v (.int .i64 (0:Int)),T.sl 7 []],T.agg [T.v (.int .i64 (5:Int)),T.v (.bool false),T.sl 1 [],T.sl 1 [],T.v (.string (ByteArray.mk #[])),T.v (.int .i64 (2:Int)),T.sl 7 []],T.agg [T.v (.int .i64 (5:Int)),T.v (.bool false),T.sl 1 [],T.sl 1 [],T.v (.string (ByteArray.mk #[])),T.v (.int .i64 (2:Int)),T.sl 7 []]]],T.agg [T.v (.int .i64 (2:Int)),T.v (.string (ByteArray.mk #[67,65,82,84,69,83,73,65,78,95,80,79,73,78,84])),T.sl 7 [T.agg [T.v (.int .i64 (3:Int)),T.v (.bool false),T.sl 1 [],T.sl 1 [],T.v (.string (ByteArray.mk #[])),T.v (.int .i64 (0:Int)),T.sl 7 []],T.agg [T.v (.int .i64 (6:Int)),T.v (.bool false),T.sl 1 [],T.sl 1 [],T.v (.string (ByteArray.mk #[])),T.v (.int .i64 (0:Int)),T.sl 7 [T.agg [T.v (.int .i64 (1:Int)),T.v (.bool false),T.sl 1 [],T.sl 1 [],T.v (.string (ByteArray.mk #[])),T.v (.int .i64 (0:Int)),T.sl 7 []],T.agg [T.v (.int .i64 (1:Int)),T.v (.bool false),T.sl 1 [],T.sl 1 [],T.v (.string (ByteArray.mk #[])),T.v (.int .i64 (0:Int)),T.sl 7 []],T.agg [T.v (.int .i64 (1:Int)),T.v (.bool false),T.sl 1 [],T.sl 1 [],T.v (.string (ByteArray.mk #[])),T.v (.int .i64 (0:Int)),T.sl 7 []]]]]]],())) fun x6=>bif x1.2.1 then bif eqS x1.1 (ByteArray.mk #[45,48,46,51,55,53]) then bif x3.2.1 then bif eqS x3.1 (ByteArray.mk #[53,46]) then bif Bool.not x5.2.1 then bif eqI (lenL x6.1) (1:Int) then ob (idxL x6.1 (0:Int)) fun x7=>ob (T.int? .i64 (T.cell x7 0)) fun x8=>bif eqI x8 (35:Int) then ob (idxL x6.1 (0:Int)) fun x9=>ob (T.int? .i64 (T.cell x9 1)) fun x10=>some (eqI x10 (1:Int),()) else some (false,()) else some (false,()) else some (false,()) else some (false,()) else some (false,()) else some (false,()) else some (false,())
theorem k_brepkernellaw24_sane:(calleeOf sg_brepkernellaw24_sane u_brepkernellaw24_sane).OK Tryz.prog 5:=mkK mixed [19] .leaf (.cs Tryz.func20 k_ref02_Frac <| .cs Tryz.func19 k_entity_Decimal <| .cs Tryz.func21 k_ref02_Int <| .cs Tryz.func14 k_entity_Typed <| .nil) Tryz.func5 fun _=>by kernel_rfl
def sg_brepkernellaw24_EntityGraph:Sig:=⟨2,0,⟨[.slot 0,.slot 1],[.sl 1,I6]⟩,1,[],0,⟨[.slot 0],[.bool]⟩,238⟩
noncomputable def g_brepkernellaw24_EntityGraph:List (FuncId×Callee):=[(4,(calleeOf sg_brepkernelmade_Light u_brepkernelmade_Light)),(5,(calleeOf sg_brepkernellaw24_sane u_brepkernellaw24_sane)),(6,(calleeOf sg_brepkernelmade_Roll u_brepkernelmade_Roll)),(7,(calleeOf sg___brepkernelmade_Dice__Small u___brepkernelmade_Dice__Small)),(8,(calleeOf sg___brepkernelmade_Dice__File u___brepkernelmade_Dice__File)),(9,(calleeOf sg_entity_Order u_entity_Order)),(10,(calleeOf sg_ref24_Order u_ref24_Order)),(12,trC (calleeOf sg_entity_Check u_entity_Check)),(13,trC (calleeOf sg_ref24_Check u_ref24_Check)),(11,(calleeOf sg_ref24_SameDiags u_ref24_SameDiags)),(14,trC (calleeOf sg_entity_Typed u_entity_Typed)),(15,trC (calleeOf sg_ref24_Typed u_ref24_Typed)),(16,(calleeOf sg_entity_Find u_entity_Find)),(17,(calleeOf sg_ref24_Find u_ref24_Find)),(18,(calleeOf sg_ref24_SameRecord u_ref24_SameRecord))]
noncomputable def u_brepkernellaw24_EntityGraph_l1(s29:Int×Unit×List T×List T×List T×Int×Int×Int×Int×T×T×Unit):Option (Int×Unit×List T×List T×List T×Int×Int×Int×Int×T×T×Unit⊕Bool×Unit⊕Int×Unit×List T×Int×Int×T×T×Unit⊕Empty):=bif ltI s29.2.2.2.2.2.2.2.2.1 s29.2.2.2.2.2.2.2.1 then ob (idxL s29.2.2.1 s29.2.2.2.2.2.2.2.2.1) fun x30=>ob (idxL s29.2.2.2.1 s29.2.2.2.2.2.2.2.2.1) fun x31=>ob (T.int? .i64 (T.cell x30 0)) fun x32=>ob (T.int? .i64 (T.cell x31 0)) fun x33=>bif Bool.not (eqI x32 x33) then some (.inr (.inl (false,()))) else some (.inl (s29.1,(),s29.2.2.1,s29.2.2.2.1,s29.2.2.2.2.1,s29.2.2.2.2.2.1,s29.2.2.2.2.2.2.1,s29.2.2.2.2.2.2.2.1,wr .i64 (addI s29.2.2.2.2.2.2.2.2.1 (1:Int)),s29.2.2.2.2.2.2.2.2.2.1,s29.2.2.2.2.2.2.2.2.2.2.1,())) else some (.inr (.inr (.inl (s29.1,(),s29.2.2.2.2.1,s29.2.2.2.2.2.1,s29.2.2.2.2.2.2.1,s29.2.2.2.2.2.2.2.2.2.1,s29.2.2.2.2.2.2.2.2.2.2.1,()))))
noncomputable def u_brepkernellaw24_EntityGraph_l2(s38:Int×Unit×List T×Int×Int×List T×Int×Int×T×T×Unit):Option (Int×Unit×List T×Int×Int×List T×Int×Int×T×T×Unit⊕Bool×Unit⊕Int×List T×Int×Int×Unit⊕Empty):=bif ltI s38.2.2.2.2.2.2.2.1 s38.2.2.2.2.2.2.1 then ob (chkI (lenL s38.2.2.2.2.2.1) s38.2.2.2.2.2.2.2.1) fun x39=>ob (idxN s38.2.2.2.2.2.1 x39) fun x40=>ob (T.sl? 2 s38.2.2.2.2.2.2.2.2.1) fun x41=>ob (T.sl? 3 s38.2.2.2.2.2.2.2.2.2.1) fun x42=>ob (T.int? .i64 (T.cell x40 0)) fun x43=>ob (u_entity_Find (x41,x42,x43,())) fun x44=>ob (T.sl? 2 s38.2.2.2.2.2.2.2.2.1) fun x45=>ob (T.sl? 3 s38.2.2.2.2.2.2.2.2.2.1) fun x46=>ob (T.int? .i64 (T.cell x40 0)) fun x47=>ob (u_ref24_Find (x45,x46,x47,())) fun x48=>bif Bool.not (eqB x44.2.2.1 x48.2.2.1) then some (.inr (.inl (false,()))) else ob (u_ref24_SameRecord (x44.1,x44.2.1,x48.1,x48.2.1,())) fun x49=>bif Bool.not x49.1 then some (.inr (.inl (false,()))) else some (.inl (s38.1,(),s38.2.2.1,s38.2.2.2.1,s38.2.2.2.2.1,s38.2.2.2.2.2.1,s38.2.2.2.2.2.2.1,wr .i64 (addI s38.2.2.2.2.2.2.2.1 (1:Int)),s38.2.2.2.2.2.2.2.2.1,s38.2.2.2.2.2.2.2.2.2.1,())) else some (.inr (.inr (.inl (s38.1,s38.2.2.1,s38.2.2.2.1,s38.2.2.2.2.1,()))))
noncomputable def u_brepkernellaw24_EntityGraph_l0(s6:Int×List T×Int×Int×Unit):Option (Int×List T×Int×Int×Unit⊕Bool×Unit⊕Unit⊕Empty):=bif ltI s6.2.2.2.1 s6.2.2.1 then ob (chkI (lenL s6.2.1) s6.2.2.2.1) fun x7=>ob (idxN s6.2.1 x7) fun x8=>ob (T.sl? 2 (T.cell x8 0)) fun x9=>ob (T.sl? 3 (T.cell x8 1)) fun x10=>ob (u_entity_Order (x9,x10,())) fun x11=>ob (T.sl? 2 (T.cell x8 0)) fun x12=>ob (T.sl? 3 (T.cell x8 1)) fun x13=>ob (u_ref24_Order (x12,x13,())) fun x14=>bif Bool.not (eqB x11.2.1 x14.2.1) then some (.inr (.inl (false,()))) else bif Bool.not (eqI (lenL x11.1) (lenL x14.1)) then some (.inr (.inl (false,()))) else ob (T.sl? 2 (T.cell x8 0)) fun x15=>ob (T.sl? 3 (T.cell x8 1)) fun x16=>ob (u_entity_Check (x15,x16,())) fun x17=>ob (T.sl? 2 (T.cell x8 0)) fun x18=>ob (T.sl? 3 (T.cell x8 1)) fun x19=>ob (u_ref24_Check (x18,x19,())) fun x20=>ob (u_ref24_SameDiags (x17.1,x20.1,())) fun x21=>bif Bool.not x21.1 then some (.inr (.inl (false,()))) else ob (T.sl? 2 (T.cell x8 0)) fun x22=>ob (T.sl? 3 (T.cell x8 1)) fun x23=>ob (u_entity_Typed (x22,x23,())) fun x24=>ob (T.sl? 2 (T.cell x8 0)) fun x25=>ob (T.sl? 3 (T.cell x8 1)) fun x26=>ob (u_ref24_Typed (x25,x26,())) fun x27=>ob (u_ref24_SameDiags (x24.1,x27.1,())) fun x28=>bif Bool.not x28.1 then some (.inr (.inl (false,()))) else ob (loopU u_brepkernellaw24_EntityGraph_l1 (s6.1,(),x11.1,x14.1,s6.2.1,s6.2.2.1,s6.2.2.2.1,lenL x11.1,(0:Int),T.cell x8 0,T.cell x8 1,())) fun q34=>onS q34 (fun t35=>some (.inr (.inl (t35.1,())))) fun q36=>onS q36 (fun t37=>ob (loopU u_brepkernellaw24_EntityGraph_l2 (t37.1,(),t37.2.2.1,t37.2.2.2.1,t37.2.2.2.2.1,[T.v (.int .i64 t37.1),T.v (.int .i64 (1:Int)),T.v (.int .i64 (4:Int)),T.v (.int .i64 (0:Int))],lenL [T.v (.int .i64 t37.1),T.v (.int .i64 (1:Int)),T.v (.int .i64 (4:Int)),T.v (.int .i64 (0:Int))],(0:Int),t37.2.2.2.2.2.1,t37.2.2.2.2.2.2.1,())) fun q50=>onS q50 (fun t51=>some (.inr (.inl (t51.1,())))) fun q52=>onS q52 (fun t53=>some (.inl (t53.1,t53.2.1,t53.2.2.1,wr .i64 (addI t53.2.2.2.1 (1:Int)),()))) fun q54=>noS q54) fun q55=>noS q55 else some (.inr (.inr (.inl ())))
noncomputable def u_brepkernellaw24_EntityGraph(t:List T×Int×Unit):Option (Bool×Unit):=ob (u_brepkernelmade_Light (t.1,())) fun x0=>bif Bool.not x0.1 then ob (u_brepkernellaw24_sane ()) fun x1=>some (x1.1,()) else ob (u_brepkernelmade_Roll (t.1,())) fun x2=>ob (u___brepkernelmade_Dice__Small ((),x2.1,x2.2.1,())) fun x3=>ob (u___brepkernelmade_Dice__File ((),(6:Int),x3.2.2.1,x3.2.2.2.1,())) fun x4=>ob (u___brepkernelmade_Dice__Small ((),x4.2.2.1,x4.2.2.2.1,())) fun x5=>ob (loopU u_brepkernellaw24_EntityGraph_l0 (t.2.1,[T.agg [T.sl 2 x3.1,T.sl 3 x3.2.1],T.agg [T.sl 2 x4.1,T.sl 3 x4.2.1],T.agg [T.sl 2 x5.1,T.sl 3 x5.2.1]],lenL [T.agg [T.sl 2 x3.1,T.sl 3 x3.2.1],T.agg [T.sl 2 x4.1,T.sl 3 x4.2.1],T.agg [T.sl 2 x5.1,T.sl 3 x5.2.1]],(0:Int),())) fun q56=>onS q56 (fun t57=>some (t57.1,())) fun q58=>onS q58 (fun t59=>ob (u_brepkernellaw24_sane ()) fun x60=>some (x60.1,())) fun q61=>noS q61
def h_brepkernellaw24_EntityGraph:HT:=(.l (.l (.l (.seq (.l (.one (.loop ⟨[.slot 1,.slot 31,.slot 32,.slot 33],[I6,.row 30 2 31,I6,I6]⟩ [(.ret,⟨[.slot 4],[.bool]⟩),((.exit 0),⟨[],[]⟩)] (.l (.l (.seq (.one (.l (.l (.l (.l (.seq (.l (.one (.loop ⟨[.slot 1,.slot 7,.slot 8,.slot 10,.slot 31,.slot 32,.slot 33,.slot 74,.slot 75,.box 7 2],[I6,.lit (.box 7 0),.sl 1,.sl 1,.row 30 2 31,I6,I6,I6,I6,.tree,.tree]⟩ [(.ret,⟨[.slot 4],[.bool]⟩),((.exit 2),⟨[.slot 1,.slot 7,.slot 31,.slot 32,.slot 33,.box 7 2],[I6,.lit (.box 7 0),.row 30 2 31,I6,I6,.tree,.tree]⟩)] .leaf))) (.l (.one (.loop ⟨[.slot 1,.slot 7,.slot 31,.slot 32,.slot 33,.slot 89,.slot 90,.slot 91,.box 7 2],[I6,.lit (.box 7 0),.row 30 2 31,I6,I6,.row 3 1 89,I6,I6,.tree,.tree]⟩ [(.ret,⟨[.slot 4],[.bool]⟩),((.exit 4),⟨[.slot 1,.slot 31,.slot 32,.slot 33],[I6,.row 30 2 31,I6,I6]⟩)] .leaf))))))))) .leaf)))))) .leaf))))
theorem ok_brepkernellaw24_EntityGraph:TabOK Tryz.prog [4,5,1000012,1000013,11,1000014,1000015,18] g_brepkernellaw24_EntityGraph:=(.cs Tryz.func4 k_brepkernelmade_Light (.cs Tryz.func5 k_brepkernellaw24_sane (.cs Tryz.func6 k_brepkernelmade_Roll (.cs Tryz.func7 k___brepkernelmade_Dice__Small (.cs Tryz.func8 k___brepkernelmade_Dice__File (.cs Tryz.func9 k_entity_Order (.cs Tryz.func10 k_ref24_Order (TabOK.consP (fun _=>⟨_,Tryz.func12,by kernel_rfl,by kernel_rfl⟩) (trC_ok k_entity_Check) (trC_nat (calleeOf_nat _ _)) (fun h=>by cases h) (fun _=>trC_pureP (calleeOf_nat _ _)) (fun _=>(trC_pureP (calleeOf_nat _ _)).framed) (by kernel_rfl) (TabOK.consP (fun _=>⟨_,Tryz.func13,by kernel_rfl,by kernel_rfl⟩) (trC_ok k_ref24_Check) (trC_nat (calleeOf_nat _ _)) (fun h=>by cases h) (fun _=>trC_pureP (calleeOf_nat _ _)) (fun _=>(trC_pureP (calleeOf_nat _ _)).framed) (by kernel_rfl) (.cs Tryz.func11 k_ref24_SameDiags (TabOK.consP (fun _=>⟨_,Tryz.func14,by kernel_rfl,by kernel_rfl⟩) (trC_ok k_entity_Typed) (trC_nat (calleeOf_nat _ _)) (fun h=>by cases h) (fun _=>trC_pureP (calleeOf_nat _ _)) (fun _=>(trC_pureP (calleeOf_nat _ _)).framed) (by kernel_rfl) (TabOK.consP (fun _=>⟨_,Tryz.func15,by kernel_rfl,by kernel_rfl⟩) (trC_ok k_ref24_Typed) (trC_nat (calleeOf_nat _ _)) (fun h=>by cases h) (fun _=>trC_pureP (calleeOf_nat _ _)) (fun _=>(trC_pureP (calleeOf_nat _ _)).framed) (by kernel_rfl) (.cs Tryz.func16 k_entity_Find (.cs Tryz.func17 k_ref24_Find (.cs Tryz.func18 k_ref24_SameRecord TabOK.nil)))))))))))))))
theorem e_brepkernellaw24_EntityGraph:∀t,bodyG Tryz.prog g_brepkernellaw24_EntityGraph [4,5,1000012,1000013,11,1000014,1000015,18] h_brepkernellaw24_EntityGraph Tryz.f3 sg_brepkernellaw24_EntityGraph t=u_brepkernellaw24_EntityGraph t:=fun _=>by kernel_rfl
theorem k_brepkernellaw24_EntityGraph:(calleeOf sg_brepkernellaw24_EntityGraph u_brepkernellaw24_EntityGraph).OK Tryz.prog 3:=mkK mixed [4,5,1000012,1000013,11,1000014,1000015,18] h_brepkernellaw24_EntityGraph ok_brepkernellaw24_EntityGraph Tryz.func3 e_brepkernellaw24_EntityGraph
end Go.Eng
namespace Go.Eng.En
open Go.Eng
def ref1(m:Nat)(t:T):List Int:=if kd t=5 then [rf t] else if kd t=6 then refs m (sb t) else []
theorem refs_succ(m:Nat)(l:List T):refs (m+1) l=l.flatMap (ref1 m):=rfl
theorem take_flat{m k:Nat}{l:List T}{t:T}(h:l[k]?=some t):(l.take (k+1)).flatMap (ref1 m)=(l.take k).flatMap (ref1 m)++ref1 m t:=by
 rw[List.take_add_one,h,List.flatMap_append];simp
theorem ref1_len{m n:Nat}{l:List T}{k:Nat}(h:∀x∈l,OkA n x):((l.take k).flatMap (ref1 m)).length≤l.length*4 ^ n:=by
 have h1:(refs (m+1) (l.take k)).length≤(l.take k).length*4 ^ n:=refs_len _ _ _ fun x hx=>h x (List.mem_of_mem_take hx)
 rw[List.length_take] at h1
 exact Nat.le_trans h1 (Nat.mul_le_mul_right _ (Nat.min_le_right ..))
theorem ref1_len1{m n:Nat}{t:T}(h:OkA n t):(ref1 m t).length≤4 ^ n:=by
 have:=refs_len (m+1) n [t] fun x hx=>by rw[List.mem_singleton] at hx;exact hx▸h
 simpa[refs,ref1] using this
theorem run_refs:∀(n d:Nat) (l:List T),n≤8→l.length≤8→(∀x∈l,OkA n x)→v_entity_references (n+1+d) (l,())=some ((refs (n+1+d) l).map tI,())
 | n,d,l,hn,hl,h=>by
  have e0:n+1+d=(n+d)+1:=by omega
  rw[e0]
  show b_entity_references (v_entity_references (n+d)) (l,())=_
  unfold b_entity_references
  have hp:4 ^ n≤4 ^ 8:=Nat.pow_le_pow_right (by decide) hn
  have step:∀k,k<l.length→u_entity_references_l0 (v_entity_references (n+d)) ((((l.take k).flatMap (ref1 (n+d))).map tI),l,(l.length:Int),(k:Nat),())=some (.inl ((((l.take (k+1)).flatMap (ref1 (n+d))).map tI),l,(l.length:Int),((k+1:Nat):Int),())):=by
   intro k hk
   obtain⟨t,ht⟩:∃t,l[k]?=some t:=⟨_,List.getElem?_eq_getElem hk⟩
   have hto:=h t (List.mem_of_getElem? ht)
   rw[take_flat ht]
   have hlen:=ref1_len (m:=n+d) (k:=k) h
   have hb:l.length*4 ^ n≤8*4 ^ 8:=Nat.mul_le_mul hl hp
   have hw:wr .i64 ((k:Int)+1)=((k+1:Nat):Int):=by rw[wr64 (by omega) (by omega)];rfl
   have hw2:wr .i64 ((k:Int)+1)=(k:Int)+1:=wr64 (by omega) (by omega)
   have hl1:=ref1_len1 (m:=n+d) hto
   unfold u_entity_references_l0
   simp only[ltI_eq,addI_eq,hw]
   rw[decide_eq_true (by omega),idxL_nat,ht]
   cases n with
   | zero=>exact hto.elim
   | succ n=>
    obtain⟨kk,neg,num,den,text,ref,q,rfl,hq,hs,_⟩:=hto
    have er:ref1 (n+1+d) (argT kk neg num den text ref q)=if kk=5 then [ref] else if kk=6 then refs (n+1+d) q else []:=by unfold ref1;rw[kd_arg,rf_arg,sb_arg]
    rw[er] at hl1 ⊢
    simp only[cond_true,obS,show T.cell (argT kk neg num den text ref q) 0=tI kk from rfl,show T.cell (argT kk neg num den text ref q) 5=tI ref from rfl,show T.cell (argT kk neg num den text ref q) 6=.sl 7 q from rfl,T_int,T_sl,eqI_eq]
    by_cases h5:kk=5
    ·rw[decide_eq_true h5,if_pos h5]
     simp only[cond_true]
     rw[room_ok (by simp only[List.length_map,List.length_cons,List.length_nil];omega) (by decide)]
     simp[hw2]
    ·rw[decide_eq_false h5,if_neg h5]
     rw[if_neg h5] at hl1
     simp only[cond_false]
     by_cases h6:kk=6
     ·rw[decide_eq_true h6,if_pos h6]
      rw[if_pos h6] at hl1
      simp only[cond_true]
      rw[show n+1+d=n+1+d from rfl,run_refs n d q (by omega) (by omega) hs]
      simp only[obS]
      rw[room_ok (by simp only[List.length_map];omega) (by decide)]
      simp[hw2]
     ·rw[decide_eq_false h6,if_neg h6]
      simp[hw2]
  have hfin:u_entity_references_l0 (v_entity_references (n+d)) ((((l.take l.length).flatMap (ref1 (n+d))).map tI),l,(l.length:Int),(l.length:Nat),())=some (.inr (.inl ((((l.take l.length).flatMap (ref1 (n+d))).map tI),()))):=by
   unfold u_entity_references_l0
   simp only[ltI_eq]
   rw[decide_eq_false (by omega)]
   rfl
  have hgo:=loopU_for (F:=u_entity_references_l0 (v_entity_references (n+d))) l.length (fun k=>((((l.take k).flatMap (ref1 (n+d))).map tI),l,(l.length:Int),(k:Nat),())) step
  simp only[lenL_eq]
  rw[show (([]:List T),l,(l.length:Int),(0:Int),())=((((l.take 0).flatMap (ref1 (n+d))).map tI),l,(l.length:Int),((0:Nat):Int),()) from by simp]
  rw[hgo,loopU_out hfin]
  simp[refs_succ]
theorem e_refs{l:List T}(hl:l.length≤8)(h:∀x∈l,OkA 8 x):u_entity_references (l,())=some ((refs 20 l).map tI,()):=run_refs 8 11 l (Nat.le_refl _) hl h
theorem run_Refs:∀(n d:Nat) (l:List T),n≤8→l.length≤8→(∀x∈l,OkA n x)→v_ref24_Refs (n+1+d) (l,())=some ((refs (n+1+d) l).map tI,())
 | n,d,l,hn,hl,h=>by
  have e0:n+1+d=(n+d)+1:=by omega
  rw[e0]
  show b_ref24_Refs (v_ref24_Refs (n+d)) (l,())=_
  unfold b_ref24_Refs
  have hp:4 ^ n≤4 ^ 8:=Nat.pow_le_pow_right (by decide) hn
  have step:∀k,k<l.length→u_ref24_Refs_l0 (v_ref24_Refs (n+d)) (l,(((l.take k).flatMap (ref1 (n+d))).map tI),(k:Nat),())=some (.inl (l,(((l.take (k+1)).flatMap (ref1 (n+d))).map tI),((k+1:Nat):Int),())):=by
   intro k hk
   obtain⟨t,ht⟩:∃t,l[k]?=some t:=⟨_,List.getElem?_eq_getElem hk⟩
   have hto:=h t (List.mem_of_getElem? ht)
   rw[take_flat ht]
   have hlen:=ref1_len (m:=n+d) (k:=k) h
   have hb:l.length*4 ^ n≤8*4 ^ 8:=Nat.mul_le_mul hl hp
   have hw:wr .i64 ((k:Int)+1)=((k+1:Nat):Int):=by rw[wr64 (by omega) (by omega)];rfl
   have hw2:wr .i64 ((k:Int)+1)=(k:Int)+1:=wr64 (by omega) (by omega)
   have hl1:=ref1_len1 (m:=n+d) hto
   unfold u_ref24_Refs_l0
   simp only[ltI_eq,addI_eq,lenL_eq,idxL_nat,ht]
   rw[decide_eq_true (by omega)]
   cases n with
   | zero=>exact hto.elim
   | succ n=>
    obtain⟨kk,neg,num,den,text,ref,q,rfl,hq,hs,_⟩:=hto
    have er:ref1 (n+1+d) (argT kk neg num den text ref q)=if kk=5 then [ref] else if kk=6 then refs (n+1+d) q else []:=by unfold ref1;rw[kd_arg,rf_arg,sb_arg]
    rw[er] at hl1 ⊢
    simp only[cond_true,obS,show T.cell (argT kk neg num den text ref q) 0=tI kk from rfl,show T.cell (argT kk neg num den text ref q) 5=tI ref from rfl,show T.cell (argT kk neg num den text ref q) 6=.sl 7 q from rfl,T_int,T_sl,eqI_eq]
    by_cases h5:kk=5
    ·have h6:¬kk=6:=by omega
     rw[decide_eq_true h5,if_pos h5]
     simp only[cond_true]
     rw[room_ok (by simp only[List.length_map,List.length_cons,List.length_nil];omega) (by decide)]
     simp only[obS,onS_l,idxL_nat,ht,show T.cell (argT kk neg num den text ref q) 0=tI kk from rfl,T_int,decide_eq_false h6,cond_false]
     simp[hw2]
    ·rw[decide_eq_false h5,if_neg h5]
     rw[if_neg h5] at hl1
     simp only[cond_false]
     by_cases h6:kk=6
     ·rw[if_pos h6]
      rw[if_pos h6] at hl1
      simp only[obS,onS_l,idxL_nat,ht,show T.cell (argT kk neg num den text ref q) 0=tI kk from rfl,show T.cell (argT kk neg num den text ref q) 6=.sl 7 q from rfl,T_int,T_sl,decide_eq_true h6,cond_true]
      rw[run_Refs n d q (by omega) (by omega) hs]
      simp only[obS]
      rw[room_ok (by simp only[List.length_map];omega) (by decide)]
      simp[hw2]
     ·rw[if_neg h6]
      simp only[obS,onS_l,idxL_nat,ht,show T.cell (argT kk neg num den text ref q) 0=tI kk from rfl,T_int,decide_eq_false h6,cond_false]
      simp[hw2]
  have hfin:u_ref24_Refs_l0 (v_ref24_Refs (n+d)) (l,(((l.take l.length).flatMap (ref1 (n+d))).map tI),(l.length:Nat),())=some (.inr (.inl ((((l.take l.length).flatMap (ref1 (n+d))).map tI),()))):=by
   unfold u_ref24_Refs_l0
   simp only[ltI_eq,lenL_eq]
   rw[decide_eq_false (by omega)]
   rfl
  have hgo:=loopU_for (F:=u_ref24_Refs_l0 (v_ref24_Refs (n+d))) l.length (fun k=>(l,(((l.take k).flatMap (ref1 (n+d))).map tI),(k:Nat),())) step
  simp only[lenL_eq]
  rw[show (l,([]:List T),(0:Int),())=(l,(((l.take 0).flatMap (ref1 (n+d))).map tI),((0:Nat):Int),()) from by simp]
  rw[hgo,loopU_out hfin]
  simp[refs_succ]
theorem e_Refs{l:List T}(hl:l.length≤8)(h:∀x∈l,OkA 8 x):u_ref24_Refs (l,())=some ((refs 20 l).map tI,()):=run_Refs 8 11 l (Nat.le_refl _) hl h
end Go.Eng.En
namespace Go.Eng.En
open Go.Eng
def entT(id:Int)(name:ByteArray)(args:List T):T:=.agg [tI id,.v (.string name),.sl 7 args]
def OkE(t:T):Prop:=∃id name args,t=entT id name args∧args.length≤8∧∀x∈args,OkA 8 x
def OkD(D:List T):Prop:=D.length≤16∧∀x∈D,OkE x
def idT(t:T):Int:=(T.int? .i64 (T.cell t 0)).getD 0
def rfs(t:T):List Int:=refs 20 ((T.sl? 7 (T.cell t 2)).getD [])
def ids(D:List T):List Int:=D.map idT
theorem id_ent{id:Int}{name:ByteArray}{args:List T}:idT (entT id name args)=id:=by unfold idT;rw[show T.cell (entT id name args) 0=tI id from rfl,T_int];rfl
theorem rfs_ent{id:Int}{name:ByteArray}{args:List T}:rfs (entT id name args)=refs 20 args:=by unfold rfs;rw[show T.cell (entT id name args) 2=.sl 7 args from rfl,T_sl];rfl
theorem rfs_len{t:T}(h:OkE t):(rfs t).length≤524288:=by
 obtain⟨id,name,args,rfl,h1,h2⟩:=h
 rw[rfs_ent]
 exact Nat.le_trans (refs_len 20 8 args h2) (Nat.le_trans (Nat.mul_le_mul_right _ h1) (by decide))
noncomputable def idM(l:List T):List T:=l.foldl (fun m x=>mapPut (tI (idT x)) (tB true) m) []
theorem idM_snoc(l:List T)(x:T):idM (l++[x])=mapPut (tI (idT x)) (tB true) (idM l):=by unfold idM;rw[List.foldl_append];rfl
theorem idM_take{D:List T}{k:Nat}{x:T}(h:D[k]?=some x):idM (D.take (k+1))=mapPut (tI (idT x)) (tB true) (idM (D.take k)):=by
 rw[List.take_add_one,h];exact idM_snoc _ _
theorem idM_has:∀(l:List T),IsS (idM l) fun i=>decide (i∈ids l):=by
 intro l
 induction h:l.length generalizing l with
 | zero=>rw[List.length_eq_zero_iff.1 h];intro i;exact get_nil _ _
 | succ n ih=>
  obtain⟨l',x,rfl⟩:∃l' x,l=l'++[x]:=⟨l.dropLast,l.getLast (by intro e;subst e;cases h),(List.dropLast_concat_getLast _).symm⟩
  have:=(ih l' (by simp at h;omega)).put (idT x)
  rw[←idM_snoc] at this
  intro i
  rw[this i]
  congr 1
  rw[Bool.eq_iff_iff]
  simp[ids,or_comm]
theorem has_id(l:List T)(i:Int):T.one? (mapGetD (tI i) (idM l) (tB false))=some (tB (decide (i∈ids l))):=by rw[idM_has l i];rfl
def chkR(D:List T)(x:T)(l:List Int):List (Int×Int):=(l.filter fun r=>decide (r∉ids D)).map fun _=>(35,idT x)
def chk1(D:List T)(i:Nat)(x:T):List (Int×Int):=(if idT x∈ids (D.take i) then [(37,idT x)] else [])++chkR D x (rfs x)
def chkT(D:List T)(k:Nat):List (Int×Int):=(List.range k).flatMap fun i=>match D[i]? with
 | some x=>chk1 D i x
 | none=>[]
theorem chkT_succ{D:List T}{k:Nat}{x:T}(h:D[k]?=some x):chkT D (k+1)=chkT D k++chk1 D k x:=by
 unfold chkT;rw[List.range_succ,List.flatMap_append];simp[h]
theorem chkR_len(D:List T)(x:T)(l:List Int):(chkR D x l).length≤l.length:=by unfold chkR;rw[List.length_map];exact List.length_filter_le ..
theorem chk1_len{D:List T}{i:Nat}{x:T}(h:OkE x):(chk1 D i x).length≤524289:=by
 unfold chk1
 rw[List.length_append]
 have h1:=chkR_len D x (rfs x)
 have h2:=rfs_len h
 have h3:(if idT x∈ids (D.take i) then [((37:Int),idT x)] else []).length≤1:=by split <;> simp
 omega
theorem chkT_len{D:List T}(h:OkD D):∀k,k≤D.length→(chkT D k).length≤k*524289
 | 0,_=>by simp[chkT]
 | k+1,hk=>by
  obtain⟨x,hx⟩:∃x,D[k]?=some x:=⟨_,List.getElem?_eq_getElem hk⟩
  rw[chkT_succ hx,List.length_append,Nat.add_mul,Nat.one_mul]
  have:=chkT_len h k (by omega)
  have:=chk1_len (D:=D) (i:=k) (h.2 x (List.mem_of_getElem? hx))
  omega
theorem chk_l0{H D:List T}(h:OkD D):loopU u_entity_Check_l0 ((),[],D,(D.length:Int),(0:Int),H,D,())=some (.inl ((),idM D,H,D,())):=by
 have hgo:=loopU_for (F:=u_entity_Check_l0) D.length (fun k=>((),idM (D.take k),D,(D.length:Int),(k:Nat),H,D,())) fun k hk=>by
  obtain⟨x,hx⟩:∃x,D[k]?=some x:=⟨_,List.getElem?_eq_getElem hk⟩
  obtain⟨id,name,args,rfl,_⟩:=h.2 x (List.mem_of_getElem? hx)
  have h16:=h.1
  unfold u_entity_Check_l0
  simp only[ltI_eq,addI_eq]
  rw[decide_eq_true (by omega),idxL_nat,hx,idM_take hx,id_ent]
  simp only[cond_true,obS,show T.cell (entT id name args) 0=tI id from rfl,T_int]
  rw[wr64 (by omega) (by omega)]
  rfl
 rw[show ((),([]:List T),D,(D.length:Int),(0:Int),H,D,())=((),idM (D.take 0),D,(D.length:Int),((0:Nat):Int),H,D,()) from rfl]
 rw[hgo]
 refine loopU_out ?_
 unfold u_entity_Check_l0
 simp only[ltI_eq]
 rw[decide_eq_false (by omega),List.take_length]
 rfl
theorem wrong_eq(e id:Int):u_entity_wrong (e,id,())=some (e,id,(-1:Int),(-1:Int),(-1:Int),()):=rfl
theorem filt_take{D:List T}{x:T}{l:List Int}{j:Nat}{r:Int}(h:l[j]?=some r):chkR D x (l.take (j+1))=chkR D x (l.take j)++(if r∈ids D then [] else [(35,idT x)]):=by
 unfold chkR
 rw[List.take_add_one,h,List.filter_append,List.map_append]
 congr 1
 by_cases hr:r∈ids D <;> simp[hr]
theorem chk_l2{D M:List T}{o:List (Int×Int)}{x:T}{l:List Int}{i:Nat}{c1 c2:T}(hl:l.length≤524288)(ho:o.length≤10000000):
 loopU u_entity_Check_l2 (idM D,M,o.map dT,(),D,(D.length:Int),(i:Int),l.map tI,(l.length:Int),(0:Int),tI (idT x),c1,c2,())=some (.inl (idM D,M,(o++chkR D x l).map dT,D,(D.length:Int),(i:Int),())):=by
 have hgo:=loopU_for (F:=u_entity_Check_l2) l.length (fun k=>(idM D,M,(o++chkR D x (l.take k)).map dT,(),D,(D.length:Int),(i:Int),l.map tI,(l.length:Int),(k:Nat),tI (idT x),c1,c2,())) fun k hk=>by
  obtain⟨r,hr⟩:∃r,l[k]?=some r:=⟨_,List.getElem?_eq_getElem hk⟩
  have hlen:=chkR_len D x (l.take k)
  rw[List.length_take] at hlen
  unfold u_entity_Check_l2
  simp only[ltI_eq,addI_eq]
  rw[decide_eq_true (by omega),idxL_nat,List.getElem?_map,hr,filt_take hr]
  simp only[cond_true,Option.map_some,obS,T_cell_v,T_int,has_id,T_bool]
  have hw:wr .i64 ((k:Int)+1)=(k:Int)+1:=wr64 (by omega) (by omega)
  by_cases hD:r∈ids D
  ·rw[if_pos hD,decide_eq_true hD]
   simp[hw]
  ·rw[if_neg hD,decide_eq_false hD]
   simp only[Bool.not_false,cond_true,wrong_eq,obS]
   rw[room_ok (by simp only[List.length_map,List.length_append,List.length_cons,List.length_nil];omega) (by decide)]
   simp[hw,dT,vI]
 rw[show (idM D,M,o.map dT,(),D,(D.length:Int),(i:Int),l.map tI,(l.length:Int),(0:Int),tI (idT x),c1,c2,())=(idM D,M,(o++chkR D x (l.take 0)).map dT,(),D,(D.length:Int),(i:Int),l.map tI,(l.length:Int),((0:Nat):Int),tI (idT x),c1,c2,()) from by simp[chkR]]
 rw[hgo]
 refine loopU_out ?_
 unfold u_entity_Check_l2
 simp only[ltI_eq]
 rw[decide_eq_false (by omega),List.take_length]
 rfl
theorem e_Check{H D:List T}(h:OkD D):u_entity_Check (H,D,())=some ((chkT D D.length).map dT,()):=by
 unfold u_entity_Check
 simp only[lenL_eq]
 rw[chk_l0 h]
 simp only[obS,onS_l]
 have h16:=h.1
 have hgo:=loopU_for (F:=u_entity_Check_l1) D.length (fun k=>(idM D,idM (D.take k),(chkT D k).map dT,D,(D.length:Int),(k:Nat),())) fun k hk=>by
  obtain⟨x,hx⟩:∃x,D[k]?=some x:=⟨_,List.getElem?_eq_getElem hk⟩
  have hok:=h.2 x (List.mem_of_getElem? hx)
  have hlen:=chkT_len h k (by omega)
  have hrl:=rfs_len hok
  have hkb:k*524289≤16*524289:=Nat.mul_le_mul_right _ (by omega)
  rw[idM_take hx,chkT_succ hx]
  have hxid:idT x=idT x:=rfl
  obtain⟨id,name,args,e,ha1,ha2⟩:=hok
  have hid:idT x=id:=by rw[e,id_ent]
  have hrf:rfs x=refs 20 args:=by rw[e,rfs_ent]
  unfold u_entity_Check_l1
  simp only[ltI_eq,addI_eq]
  rw[decide_eq_true (by omega),idxL_nat,hx]
  simp only[cond_true,obS,show T.cell x 0=tI id from by rw[e];rfl,show T.cell x 1=.v (.string name) from by rw[e];rfl,show T.cell x 2=.sl 7 args from by rw[e];rfl,T_int,has_id,T_bool,hid]
  have hw:wr .i64 ((k:Int)+1)=(k:Int)+1:=wr64 (by omega) (by omega)
  unfold chk1
  rw[hid]
  by_cases hD:id∈ids (D.take k)
  ·rw[if_pos hD,decide_eq_true hD]
   simp only[cond_true,wrong_eq,obS]
   rw[room_ok (by simp only[List.length_map,List.length_cons,List.length_nil];omega) (by decide)]
   simp only[obS,onS_l,T_int,T_sl,e_refs ha1 ha2,lenL_eq,List.length_map]
   have hl2:=chk_l2 (D:=D) (M:=mapPut (tI id) (tB true) (idM (D.take k))) (o:=chkT D k++[(37,id)]) (x:=x) (l:=refs 20 args) (i:=k) (c1:=.v (.string name)) (c2:=.sl 7 args) (by rw[←hrf];exact hrl) (by rw[List.length_append,List.length_singleton];omega)
   rw[hid] at hl2
   rw[List.map_append] at hl2
   rw[show List.map dT (chkT D k)++[T.agg [T.v (Value.int IntKind.i64 37),T.v (Value.int IntKind.i64 id),T.v (Value.int IntKind.i64 (-1)),T.v (Value.int IntKind.i64 (-1)),T.v (Value.int IntKind.i64 (-1))]]=List.map dT (chkT D k)++List.map dT [(37,id)] from rfl,hl2]
   simp[hw,hrf]
  ·rw[if_neg hD,decide_eq_false hD]
   simp only[cond_false,obS,onS_l,T_int,T_sl,e_refs ha1 ha2,lenL_eq,List.length_map]
   have hl2:=chk_l2 (D:=D) (M:=mapPut (tI id) (tB true) (idM (D.take k))) (o:=chkT D k) (x:=x) (l:=refs 20 args) (i:=k) (c1:=.v (.string name)) (c2:=.sl 7 args) (by rw[←hrf];exact hrl) (by omega)
   rw[hid] at hl2
   rw[hl2]
   simp[hw,hrf]
 rw[show (idM D,([]:List T),([]:List T),D,(D.length:Int),(0:Int),())=(idM D,idM (D.take 0),(chkT D 0).map dT,D,(D.length:Int),((0:Nat):Int),()) from rfl]
 rw[hgo,loopU_out (e:=.inl ((chkT D D.length).map dT,())) (by
  unfold u_entity_Check_l1
  simp only[ltI_eq]
  rw[decide_eq_false (by omega)]
  rfl)]
 rfl
end Go.Eng.En
namespace Go.Eng.En
open Go.Eng
theorem order1{r:Int}{M:List T}{S:Int→Bool}(hM:IsS M S):u_entity_Order_1 (r,(),M,())=some (!S r,M,()):=by
 unfold u_entity_Order_1
 simp only[hM r]
 rfl
theorem idx_loop{l:List Int}{M:List T}{S:Int→Bool}(hM:IsS M S)(hl:l.length≤524288):∀j k,k+j=l.length →
 ∃e,loopU u_slices_IndexFunc___int_int__l0 (l.map tI,(),(l.length:Int),(k:Nat),M,())=some e ∧
  (if (l.drop k).any (fun r=>!S r) then ∃q:Nat,e=.inl ((q:Int),M,()) else e=.inr (.inl (M,())))
 | 0,k,hk=>by
  refine⟨.inr (.inl (M,())),loopU_out ?_,?_⟩
  ·unfold u_slices_IndexFunc___int_int__l0
   simp only[ltI_eq]
   rw[decide_eq_false (by omega)]
   rfl
  ·rw[List.drop_of_length_le (by omega)];rfl
 | j+1,k,hk=>by
  obtain⟨r,hr⟩:∃r,l[k]?=some r:=⟨_,List.getElem?_eq_getElem (by omega)⟩
  have hdr:l.drop k=r::l.drop (k+1):=by
   obtain⟨h,rfl⟩:=List.getElem?_eq_some_iff.1 hr
   exact List.drop_eq_getElem_cons h
  have hF:u_slices_IndexFunc___int_int__l0 (l.map tI,(),(l.length:Int),(k:Nat),M,())=if S r then some (.inl (l.map tI,(),(l.length:Int),((k+1:Nat):Int),M,())) else some (.inr (.inl ((k:Int),M,()))):=by
   unfold u_slices_IndexFunc___int_int__l0
   simp only[ltI_eq,addI_eq]
   rw[decide_eq_true (by omega),idxL_nat,List.getElem?_map,hr]
   simp only[cond_true,Option.map_some,obS,T_cell_v,T_int,order1 hM]
   rw[wr64 (by omega) (by omega)]
   cases S r <;> rfl
  rw[hdr,List.any_cons]
  cases hS:S r with
  | false=>
   rw[hS] at hF
   exact⟨_,loopU_out hF,by simp;exact⟨k,rfl⟩⟩
  | true=>
   rw[hS] at hF
   obtain⟨e,h1,h2⟩:=idx_loop hM hl j (k+1) (by omega)
   exact⟨e,(loopU_go hF).trans h1,by simpa using h2⟩
theorem e_Contains{l:List Int}{M:List T}{S:Int→Bool}(hM:IsS M S)(hl:l.length≤524288):u_slices_ContainsFunc___int_int_ (l.map tI,(),M,())=some (l.any (fun r=>!S r),M,()):=by
 unfold u_slices_ContainsFunc___int_int_ u_slices_IndexFunc___int_int_
 simp only[lenL_eq,List.length_map]
 obtain⟨e,h1,h2⟩:=idx_loop hM hl l.length 0 (Nat.zero_add _)
 rw[show ((0:Nat):Int)=0 from rfl] at h1
 rw[h1]
 rw[List.drop_zero] at h2
 cases hb:l.any (fun r=>!S r) with
 | true=>
  rw[hb,if_pos rfl] at h2
  obtain⟨q,rfl⟩:=h2
  simp
 | false=>
  rw[hb] at h2
  simp only[Bool.false_eq_true,if_false] at h2
  subst h2
  simp
def good(D:List T)(S:Int→Bool)(k:Nat):Bool:=match D[k]? with
 | some x=>!S (idT x)&&!(rfs x).any (fun r=>!S r)
 | none=>false
def nxt(D:List T)(S:Int→Bool):Nat→Nat→Nat
 | 0,k=>k
 | j+1,k=>if good D S k then k else nxt D S j (k+1)
def rowsR(D:List T):List T:=D.map fun x=>.sl 1 ((rfs x).map tI)
theorem upd_sl(x:Value)(l:List T):T.upd 1 (.v x) 0 [.sl 1 l]=.sl 1 l:=by unfold T.upd;rfl
theorem ord_l2{D H out M:List T}{S:Int→Bool}(hM:IsS M S)(hD:OkD D):∀j k,k+j=D.length →
 loopU u_entity_Order_l2 ((),rowsR D,(),out,(k:Nat),H,D,M,())=some (.inl ((),rowsR D,(),out,(nxt D S j k:Nat),H,D,M,()))
 | 0,k,hk=>by
  refine loopU_out ?_
  unfold u_entity_Order_l2
  simp only[ltI_eq,lenL_eq]
  rw[decide_eq_false (by omega)]
  rfl
 | j+1,k,hk=>by
  have h16:=hD.1
  obtain⟨x,hx⟩:∃x,D[k]?=some x:=⟨_,List.getElem?_eq_getElem (by omega)⟩
  have hok:=hD.2 x (List.mem_of_getElem? hx)
  have hrl:=rfs_len hok
  obtain⟨id,name,args,e,ha1,ha2⟩:=hok
  have hid:idT x=id:=by rw[e,id_ent]
  have hF:u_entity_Order_l2 ((),rowsR D,(),out,(k:Nat),H,D,M,())=if good D S k then some (.inr (.inl ((),rowsR D,(),out,(k:Nat),H,D,M,()))) else some (.inl ((),rowsR D,(),out,((k+1:Nat):Int),H,D,M,())):=by
   unfold u_entity_Order_l2 good
   simp only[ltI_eq,addI_eq,lenL_eq,hx,hid]
   rw[decide_eq_true (by omega),idxL_nat,hx,wr64 (by omega) (by omega)]
   simp only[cond_true,obS,show T.cell x 0=tI id from by rw[e];rfl,T_int,hM id,show T.one? (tB (S id))=some (tB (S id)) from rfl,T_bool]
   cases hS:S id with
   | true=>simp
   | false=>
    simp only[cond_false,rowsR,List.length_map]
    rw[chkI_nat (by omega)]
    simp only[obS,idxN_eq,List.getElem?_map,hx,Option.map_some,T_cell_sl,T_sl,e_Contains hM hrl]
    cases(rfs x).any (fun r=>!S r) <;> rfl
  simp only[nxt]
  cases hg:good D S k with
  | true=>
   rw[hg] at hF
   exact loopU_out hF
  | false=>
   rw[hg] at hF
   exact(loopU_go hF).trans (ord_l2 hM hD j (k+1) (by omega))
theorem nxt_le(D:List T)(S:Int→Bool):∀j k,k+j=D.length→nxt D S j k≤D.length
 | 0,k,h=>by simp only[nxt];omega
 | j+1,k,h=>by
  simp only[nxt]
  split
  ·omega
  ·exact nxt_le D S j (k+1) (by omega)
def tkn(D:List T)(out:List Nat):List Int:=out.map fun i=>idT (D.getD i (.agg []))
def tS(D:List T)(out:List Nat)(i:Int):Bool:=decide (i∈tkn D out)
noncomputable def tkM(D:List T)(out:List Nat):List T:=out.foldl (fun m i=>mapPut (tI (idT (D.getD i (.agg [])))) (tB true) m) []
theorem tkM_snoc(D:List T)(out:List Nat)(i:Nat):tkM D (out++[i])=mapPut (tI (idT (D.getD i (.agg [])))) (tB true) (tkM D out):=by unfold tkM;rw[List.foldl_append];rfl
theorem tkM_has(D:List T):∀out:List Nat,IsS (tkM D out) (tS D out):=by
 intro l
 induction h:l.length generalizing l with
 | zero=>rw[List.length_eq_zero_iff.1 h];intro i;exact get_nil _ _
 | succ n ih=>
  obtain⟨l',x,rfl⟩:∃l' x,l=l'++[x]:=⟨l.dropLast,l.getLast (by intro e;subst e;cases h),(List.dropLast_concat_getLast _).symm⟩
  have:=(ih l' (by simp at h;omega)).put (idT (D.getD x (.agg [])))
  rw[←tkM_snoc] at this
  intro i
  rw[this i]
  congr 1
  rw[Bool.eq_iff_iff]
  simp[tS,tkn,or_comm]
def ordS(D:List T):Nat→List Nat→Option (List Nat)
 | 0,out=>some out
 | n+1,out=>if nxt D (tS D out) D.length 0=D.length then none else ordS D n (out++[nxt D (tS D out) D.length 0])
theorem ord_l0{H D:List T}(hD:OkD D):loopU u_entity_Order_l0 ((),List.replicate D.length (.v (.slice none 0 0)),D,(D.length:Int),(0:Int),H,D,())=some (.inl ((),rowsR D,H,D,())):=by
 have h16:=hD.1
 have hgo:=loopU_for (F:=u_entity_Order_l0) D.length (fun k=>((),rowsR (D.take k)++List.replicate (D.length-k) (.v (.slice none 0 0)),D,(D.length:Int),(k:Nat),H,D,())) fun k hk=>by
  obtain⟨x,hx⟩:∃x,D[k]?=some x:=⟨_,List.getElem?_eq_getElem hk⟩
  have hok:=hD.2 x (List.mem_of_getElem? hx)
  obtain⟨id,name,args,e,ha1,ha2⟩:=hok
  have hrf:rfs x=refs 20 args:=by rw[e,rfs_ent]
  have hlen:(rowsR (D.take k)).length=k:=by unfold rowsR;rw[List.length_map,List.length_take];omega
  unfold u_entity_Order_l0
  simp only[ltI_eq,addI_eq,lenL_eq,List.length_append,hlen,List.length_replicate]
  rw[decide_eq_true (by omega),idxL_nat,hx,wr64 (by omega) (by omega),chkI_nat (by omega)]
  have hget:(rowsR (D.take k)++List.replicate (D.length-k) (T.v (.slice none 0 0)))[k]?=some (.v (.slice none 0 0)):=by
   rw[List.getElem?_append_right (by omega),hlen,Nat.sub_self,List.getElem?_replicate]
   rw[if_pos (by omega)]
  simp only[cond_true,obS,show T.cell x 2=.sl 7 args from by rw[e];rfl,T_sl,e_refs ha1 ha2,idxN_eq,hget,upd_sl]
  have hset:(rowsR (D.take k)++List.replicate (D.length-k) (T.v (.slice none 0 0))).set k (.sl 1 ((refs 20 args).map tI))=rowsR (D.take (k+1))++List.replicate (D.length-(k+1)) (T.v (.slice none 0 0)):=by
   rw[List.set_append_right _ _ (by omega),hlen,Nat.sub_self,show D.length-k=D.length-(k+1)+1 from by omega,List.replicate_succ,List.set_cons_zero,List.take_add_one,hx]
   unfold rowsR
   rw[List.map_append]
   simp[hrf]
  rw[hset]
  rfl
 rw[show ((),List.replicate D.length (T.v (.slice none 0 0)),D,(D.length:Int),(0:Int),H,D,())=((),rowsR (D.take 0)++List.replicate (D.length-0) (T.v (.slice none 0 0)),D,(D.length:Int),((0:Nat):Int),H,D,()) from rfl]
 rw[hgo]
 refine loopU_out ?_
 unfold u_entity_Order_l0
 simp only[ltI_eq]
 rw[decide_eq_false (by omega),List.take_length,Nat.sub_self,List.replicate_zero,List.append_nil]
 rfl
def tN(i:Nat):T:=tI (i:Int)
theorem ord_l1{D H:List T}(hD:OkD D):∀(n:Nat) (out:List Nat),out.length+n=D.length →
 loopU u_entity_Order_l1 ((),rowsR D,(),out.map tN,H,D,tkM D out,())=some (match ordS D n out with
  | none=>.inl (.v (.slice none 0 0),false,())
  | some o=>.inr (.inl (o.map tN,())))
 | 0,out,h=>by
  refine loopU_out ?_
  unfold u_entity_Order_l1
  simp only[ltI_eq,lenL_eq,List.length_map]
  rw[decide_eq_false (by omega)]
  rfl
 | n+1,out,h=>by
  have h16:=hD.1
  have hl2:=ord_l2 (H:=H) (out:=out.map tN) (tkM_has D out) hD D.length 0 (Nat.zero_add _)
  rw[show ((0:Nat):Int)=0 from rfl] at hl2
  have hle:=nxt_le D (tS D out) D.length 0 (Nat.zero_add _)
  simp only[ordS]
  generalize nxt D (tS D out) D.length 0=q at hl2 hle
  by_cases hq:q=D.length
  ·rw[if_pos hq]
   refine loopU_out ?_
   unfold u_entity_Order_l1
   simp only[ltI_eq,lenL_eq,List.length_map]
   rw[decide_eq_true (by omega),hl2]
   simp only[cond_true,obS,onS_l,eqI_eq]
   rw[decide_eq_true (by omega)]
   rfl
  ·rw[if_neg hq]
   obtain⟨x,hx⟩:∃x,D[q]?=some x:=⟨_,List.getElem?_eq_getElem (by omega)⟩
   obtain⟨id,name,args,e,ha1,ha2⟩:=hD.2 x (List.mem_of_getElem? hx)
   have hF:u_entity_Order_l1 ((),rowsR D,(),out.map tN,H,D,tkM D out,())=some (.inl ((),rowsR D,(),(out++[q]).map tN,H,D,tkM D (out++[q]),())):=by
    unfold u_entity_Order_l1
    simp only[ltI_eq,lenL_eq,List.length_map]
    rw[decide_eq_true (by omega),hl2]
    simp only[cond_true,obS,onS_l,eqI_eq]
    rw[decide_eq_false (by omega)]
    simp only[cond_false,idxL_nat,hx,obS,show T.cell x 0=tI id from by rw[e];rfl,T_int]
    rw[room_ok (by simp only[List.length_map,List.length_cons,List.length_nil];omega) (by decide)]
    rw[tkM_snoc,List.getD_eq_getElem?_getD,hx,Option.getD_some,e,id_ent,List.map_append]
    rfl
   exact(loopU_go hF).trans (ord_l1 hD n (out++[q]) (by rw[List.length_append,List.length_singleton];omega))
theorem e_Order{H D:List T}(hD:OkD D):u_entity_Order (H,D,())=some (if chkT D D.length=[] then (match ordS D D.length [] with
 | none=>([],false,())
 | some o=>(o.map tN,true,())) else ([],false,())):=by
 have h16:=hD.1
 unfold u_entity_Order
 rw[e_Check hD]
 simp only[obS,ltI_eq,lenL_eq,List.length_map]
 by_cases hc:chkT D D.length=[]
 ·rw[if_pos hc,hc]
  simp only[List.length_nil]
  rw[show decide ((0:Int)<((0:Nat):Int))=false from rfl]
  simp only[cond_false]
  rw[mkLen_ok (by omega) (Int.le_refl _) (by omega) (by decide)]
  simp only[obS,repL_eq,Int.toNat_natCast]
  rw[ord_l0 hD]
  simp only[obS,onS_l]
  have h1:=ord_l1 (H:=H) hD D.length [] (by simp)
  rw[show (([]:List Nat).map tN)=[] from rfl,show tkM D []=[] from rfl] at h1
  rw[h1]
  cases ordS D D.length [] with
  | none=>rfl
  | some o=>rfl
 ·rw[if_neg hc]
  rw[decide_eq_true (by have:0<(chkT D D.length).length:=List.length_pos_iff.2 hc;omega)]
  rfl
end Go.Eng.En
namespace Go.Eng.En
open Go.Eng
def posF(r:Int):List Int→Nat→Int
 | [],_=>-1
 | x::l,k=>if x=r then (k:Int) else posF r l (k+1)
theorem posF_spec(r:Int):∀(l:List Int) (k:Nat),(posF r l k=-1∧r∉l)∨∃n,l[n]?=some r∧posF r l k=((k+n:Nat):Int)∧r∉l.take n
 | [],k=>.inl ⟨rfl,by simp⟩
 | x::l,k=>by
  unfold posF
  by_cases h:x=r
  ·rw[if_pos h]
   exact .inr ⟨0,by simp[h],by simp,by simp⟩
  ·rw[if_neg h]
   rcases posF_spec r l (k+1) with⟨h1,h2⟩ | ⟨n,h1,h2,h3⟩
   ·exact .inl ⟨h1,by simp[h2,Ne.symm h]⟩
   ·refine .inr ⟨n+1,by simpa using h1,by rw[h2];congr 1;omega,?_⟩
    rw[List.take_succ_cons,List.mem_cons]
    exact fun hh=>hh.elim (fun e=>h e.symm) h3
theorem posF_neg{r:Int}{l:List Int}:posF r l 0<0↔r∉l:=by
 rcases posF_spec r l 0 with⟨h1,h2⟩ | ⟨n,h1,h2,_⟩
 ·rw[h1];exact⟨fun _=>h2,fun _=>by decide⟩
 ·rw[h2];exact⟨fun h=>by omega,fun h=>absurd (List.mem_of_getElem? h1) h⟩
theorem posF_lt{l:List Int}{i:Nat}{r:Int}(h:l[i]?=some r):posF r l 0<(i:Int)↔r∈l.take i:=by
 rcases posF_spec r l 0 with⟨h1,h2⟩ | ⟨n,h1,h2,h3⟩
 ·exact absurd (List.mem_of_getElem? h) h2
 ·rw[h2,Nat.zero_add]
  constructor
  ·intro hn
   have hn':n<i:=by omega
   refine List.mem_of_getElem? (i:=n) ?_
   rw[List.getElem?_take,if_pos hn',h1]
  ·intro hm
   rcases Nat.lt_or_ge n i with hn | hn
   ·omega
   ·refine absurd ?_ h3
    rw[show l.take i=(l.take n).take i from by rw[List.take_take,Nat.min_eq_left hn]] at hm
    exact List.mem_of_mem_take hm
theorem ent_of{D:List T}(h:OkD D){k:Nat}{x:T}(hx:D[k]?=some x):∃name args,x=entT (idT x) name args∧args.length≤8∧(∀y∈args,OkA 8 y)∧rfs x=refs 20 args:=by
 obtain⟨id,name,args,e,h1,h2⟩:=h.2 x (List.mem_of_getElem? hx)
 refine⟨name,args,?_,h1,h2,by rw[e,rfs_ent]⟩
 rw[show idT x=id from by rw[e,id_ent]];exact e
theorem cell0{x:T}{name:ByteArray}{args:List T}(e:x=entT (idT x) name args):T.cell x 0=tI (idT x)∧T.cell x 1=.v (.string name)∧T.cell x 2=.sl 7 args:=by
 generalize idT x=id at e
 subst e
 exact⟨rfl,rfl,rfl⟩
theorem place_loop{D H:List T}(hD:OkD D)(r:Int):∀j k,k+j=D.length →
 loopU u_ref24_place_l0 (r,(),(k:Int),H,D,())=some (if posF r (ids (D.drop k)) k<0 then .inr (.inl ()) else .inl (posF r (ids (D.drop k)) k,()))
 | 0,k,hk=>by
  rw[List.drop_of_length_le (by omega)]
  refine loopU_out ?_
  unfold u_ref24_place_l0
  simp only[lenL_eq,ltI_eq]
  rw[decide_eq_false (by omega)]
  rfl
 | j+1,k,hk=>by
  obtain⟨x,hx⟩:∃x,D[k]?=some x:=⟨_,List.getElem?_eq_getElem (by omega)⟩
  have hdr:D.drop k=x::D.drop (k+1):=by
   obtain⟨h,rfl⟩:=List.getElem?_eq_some_iff.1 hx
   exact List.drop_eq_getElem_cons h
  obtain⟨name,args,e,_⟩:=ent_of hD hx
  have h16:=hD.1
  have ec:ids (x::D.drop (k+1))=idT x::ids (D.drop (k+1)):=rfl
  have hs:u_ref24_place_l0 (r,(),(k:Int),H,D,())=if idT x=r then some (.inr (.inl ((k:Int),()))) else some (.inl (r,(),((k+1:Nat):Int),H,D,())):=by
   unfold u_ref24_place_l0
   simp only[lenL_eq,ltI_eq,addI_eq,eqI_eq]
   rw[decide_eq_true (by omega),idxL_nat,hx]
   simp only[cond_true,obS,(cell0 e).1,T_int]
   rw[wr64 (by omega) (by omega)]
   by_cases h:idT x=r
   ·rw[if_pos h,decide_eq_true h];rfl
   ·rw[if_neg h,decide_eq_false h];rfl
  rw[hdr,ec]
  unfold posF
  by_cases h:idT x=r
  ·rw[if_pos h,if_neg (by omega)]
   exact loopU_out (by rw[hs,if_pos h])
  ·rw[if_neg h,loopU_go (by rw[hs,if_neg h])]
   exact place_loop hD r j (k+1) (by omega)
theorem e_place{D H:List T}(hD:OkD D)(r:Int):u_ref24_place (H,D,r,())=some (posF r (ids D) 0,()):=by
 unfold u_ref24_place
 have h:=place_loop (H:=H) hD r D.length 0 (by omega)
 rw[List.drop_zero] at h
 rw[show ((0:Nat):Int)=0 from rfl] at h
 rw[h]
 rcases posF_spec r (ids D) 0 with⟨h1,_⟩ | ⟨n,_,h1,_⟩
 ·rw[h1];rfl
 ·rw[h1,if_neg (by omega)];rfl
theorem At_eq(e id:Int):u_ref24_At (e,id,())=some (e,id,(-1:Int),(-1:Int),(-1:Int),()):=rfl
theorem rchk_l1{D H:List T}(hD:OkD D){o:List (Int×Int)}{x:T}{l:List Int}{i:Nat}(hx:D[i]?=some x)(hl:l.length≤524288)(ho:o.length≤10000000):
 loopU u_ref24_Check_l1 ((),o.map dT,(i:Int),l.map tI,(0:Int),H,D,())=some (.inl ((),(o++chkR D x l).map dT,(i:Int),H,D,())):=by
 have h16:=hD.1
 obtain⟨name,args,e,_⟩:=ent_of hD hx
 have hgo:=loopU_for (F:=u_ref24_Check_l1) l.length (fun k=>((),(o++chkR D x (l.take k)).map dT,(i:Int),l.map tI,(k:Nat),H,D,())) fun k hk=>by
  obtain⟨r,hr⟩:∃r,l[k]?=some r:=⟨_,List.getElem?_eq_getElem hk⟩
  have hlen:=chkR_len D x (l.take k)
  rw[List.length_take] at hlen
  have hw:wr .i64 ((k:Int)+1)=(k:Int)+1:=wr64 (by omega) (by omega)
  unfold u_ref24_Check_l1
  simp only[ltI_eq,addI_eq,lenL_eq,List.length_map]
  rw[decide_eq_true (by omega),idxL_nat,List.getElem?_map,hr,filt_take hr]
  simp only[cond_true,Option.map_some,obS,T_cell_v,T_int,e_place hD]
  by_cases hm:r∈ids D
  ·rw[if_pos hm,decide_eq_false (fun h=>posF_neg.1 h hm)]
   simp[hw]
  ·rw[if_neg hm,decide_eq_true (posF_neg.2 hm)]
   simp only[cond_true]
   rw[idxL_nat,hx]
   simp only[obS,(cell0 e).1,T_int,At_eq]
   rw[room_ok (by simp only[List.length_map,List.length_append,List.length_cons,List.length_nil];omega) (by decide)]
   simp[hw,dT,vI]
 rw[show ((),o.map dT,(i:Int),l.map tI,(0:Int),H,D,())=((),(o++chkR D x (l.take 0)).map dT,(i:Int),l.map tI,((0:Nat):Int),H,D,()) from by simp[chkR]]
 rw[hgo]
 refine loopU_out ?_
 unfold u_ref24_Check_l1
 simp only[ltI_eq,lenL_eq,List.length_map]
 rw[decide_eq_false (by omega),List.take_length]
 rfl
theorem e_rCheck{H D:List T}(h:OkD D):u_ref24_Check (H,D,())=some ((chkT D D.length).map dT,()):=by
 unfold u_ref24_Check
 have h16:=h.1
 have hgo:=loopU_for (F:=u_ref24_Check_l0) D.length (fun k=>((),(chkT D k).map dT,(k:Nat),H,D,())) fun k hk=>by
  obtain⟨x,hx⟩:∃x,D[k]?=some x:=⟨_,List.getElem?_eq_getElem hk⟩
  have hok:=h.2 x (List.mem_of_getElem? hx)
  have hlen:=chkT_len h k (by omega)
  have hrl:=rfs_len hok
  have hkb:k*524289≤16*524289:=Nat.mul_le_mul_right _ (by omega)
  obtain⟨name,args,e,ha1,ha2,hrf⟩:=ent_of h hx
  have hw:wr .i64 ((k:Int)+1)=(k:Int)+1:=wr64 (by omega) (by omega)
  have hid:(ids D)[k]?=some (idT x):=by unfold ids;rw[List.getElem?_map,hx];rfl
  have htk:(ids D).take k=ids (D.take k):=by unfold ids;rw[List.map_take]
  rw[chkT_succ hx]
  unfold u_ref24_Check_l0
  simp only[ltI_eq,addI_eq,lenL_eq]
  rw[decide_eq_true (by omega),idxL_nat,hx]
  simp only[cond_true,obS,(cell0 e).1,(cell0 e).2.2,T_int,T_sl,e_place h]
  unfold chk1
  by_cases hm:idT x∈ids (D.take k)
  ·rw[if_pos hm,decide_eq_true ((posF_lt hid).2 (htk▸hm))]
   simp only[cond_true,At_eq,obS]
   rw[room_ok (by simp only[List.length_map,List.length_cons,List.length_nil];omega) (by decide)]
   simp only[obS,onS_l]
   rw[idxL_nat,hx]
   simp only[obS,(cell0 e).2.2,T_sl,e_Refs ha1 ha2]
   have hl2:=rchk_l1 (H:=H) h (o:=chkT D k++[(37,idT x)]) (l:=refs 20 args) hx (by rw[←hrf];exact hrl) (by rw[List.length_append,List.length_singleton];omega)
   rw[List.map_append] at hl2
   rw[show List.map dT (chkT D k)++[T.agg [T.v (Value.int IntKind.i64 37),T.v (Value.int IntKind.i64 (idT x)),T.v (Value.int IntKind.i64 (-1)),T.v (Value.int IntKind.i64 (-1)),T.v (Value.int IntKind.i64 (-1))]]=List.map dT (chkT D k)++List.map dT [(37,idT x)] from rfl,hl2]
   simp[hw,hrf]
  ·rw[if_neg hm,decide_eq_false (fun hh=>hm (htk▸(posF_lt hid).1 hh))]
   simp only[cond_false,obS,onS_l]
   rw[idxL_nat,hx]
   simp only[obS,(cell0 e).2.2,T_sl,e_Refs ha1 ha2]
   rw[rchk_l1 (H:=H) h (o:=chkT D k) (l:=refs 20 args) hx (by rw[←hrf];exact hrl) (by omega)]
   simp[hw,hrf]
 rw[show ((),([]:List T),(0:Int),H,D,())=((),(chkT D 0).map dT,((0:Nat):Int),H,D,()) from rfl]
 rw[hgo,loopU_out (e:=.inl ((chkT D D.length).map dT,())) (by
  unfold u_ref24_Check_l0
  simp only[ltI_eq,lenL_eq]
  rw[decide_eq_false (by omega)]
  rfl)]
 rfl
end Go.Eng.En
namespace Go.Eng.En
open Go.Eng
theorem chk_nil{D:List T}(h:chkT D D.length=[]):(∀(i:Nat) x,D[i]?=some x→idT x∉ids (D.take i))∧∀x∈D,∀r∈rfs x,r∈ids D:=by
 unfold chkT at h
 rw[List.flatMap_eq_nil_iff] at h
 have h1:∀(i:Nat) x,D[i]?=some x→chk1 D i x=[]:=fun i x hx=>by
  have:=h i (List.mem_range.2 (List.getElem?_eq_some_iff.1 hx).1)
  simpa[hx] using this
 refine⟨fun i x hx hm=>?_,fun x hx r hr=>?_⟩
 ·have:=h1 i x hx
  unfold chk1 at this
  rw[if_pos hm] at this
  simp at this
 ·obtain⟨i,hi⟩:=List.mem_iff_getElem?.1 hx
  have:=h1 i x hi
  unfold chk1 at this
  rw[List.append_eq_nil_iff] at this
  have h2:=this.2
  unfold chkR at h2
  rw[List.map_eq_nil_iff,List.filter_eq_nil_iff] at h2
  have:=h2 r hr
  simpa using this
def Dist(D:List T):Prop:=∀(i j:Nat) x y,D[i]?=some x→D[j]?=some y→idT x=idT y→i=j
theorem dist_of{D:List T}(h:∀(i:Nat) x,D[i]?=some x→idT x∉ids (D.take i)):Dist D:=by
 have key:∀(i j:Nat) x y,D[i]?=some x→D[j]?=some y→idT x=idT y→¬i<j:=fun i j x y hx hy e hlt=>by
  refine h j y hy ?_
  unfold ids
  refine List.mem_map.2 ⟨x,List.mem_of_getElem? (i:=i) ?_,e⟩
  rw[List.getElem?_take,if_pos hlt,hx]
 intro i j x y hx hy e
 have h1:=key i j x y hx hy e
 have h2:=key j i y x hy hx e.symm
 omega
theorem tS_iff{D:List T}(hd:Dist D){out:List Nat}(ho:∀i∈out,i<D.length){n:Nat}{x:T}(hx:D[n]?=some x):tS D out (idT x)=decide (n∈out):=by
 unfold tS tkn
 refine decide_eq_decide.2 ⟨fun h=>?_,fun h=>?_⟩
 ·obtain⟨i,hi,e⟩:=List.mem_map.1 h
  obtain⟨y,hy⟩:∃y,D[i]?=some y:=⟨_,List.getElem?_eq_getElem (ho i hi)⟩
  rw[List.getD_eq_getElem?_getD,hy,Option.getD_some] at e
  rw[hd n i x y hx hy e.symm];exact hi
 ·exact List.mem_map.2 ⟨n,h,by rw[List.getD_eq_getElem?_getD,hx,Option.getD_some]⟩
def doneL(D:List T)(out:List Nat):List T:=(List.range D.length).map fun i=>tB (decide (i∈out))
theorem doneL_get{D:List T}{out:List Nat}{n:Nat}(h:n<D.length):(doneL D out)[n]?=some (tB (decide (n∈out))):=by
 unfold doneL
 rw[List.getElem?_map,List.getElem?_range h];rfl
theorem doneL_len{D:List T}{out:List Nat}:(doneL D out).length=D.length:=by unfold doneL;simp
theorem doneL_set{D:List T}{out:List Nat}{p:Nat}:(doneL D out).set p (tB true)=doneL D (out++[p]):=by
 apply List.ext_getElem?
 intro i
 rw[List.getElem?_set,doneL_len]
 by_cases hi:i<D.length
 ·rw[doneL_get hi,doneL_get hi]
  by_cases h:p=i
  ·subst h;rw[if_pos rfl,if_pos hi];simp
  ·rw[if_neg h]
   congr 2
   refine decide_eq_decide.2 ?_
   simp[Ne.symm h]
 ·rw[List.getElem?_eq_none (by rw[doneL_len];omega),List.getElem?_eq_none (by rw[doneL_len];omega)]
  split
  ·rw[if_neg (by omega)]
  ·rfl
theorem rord_l2{D H:List T}(hD:OkD D)(hd:Dist D){out:List Nat}(ho:∀i∈out,i<D.length){o:List T}{pk i:Int}{l:List Int}(hl:l.length≤524288)(hm:∀r∈l,r∈ids D):∀j k,k+j=l.length→∀ok:Bool,
 loopU u_ref24_Order_l2 ((),doneL D out,o,pk,i,ok,l.map tI,(k:Int),H,D,())=some (.inl ((),doneL D out,o,pk,i,ok&&(l.drop k).all (tS D out),H,D,())) 
 | 0,k,hk,ok=>by
  rw[List.drop_of_length_le (by omega)]
  refine loopU_out ?_
  unfold u_ref24_Order_l2
  simp only[ltI_eq,lenL_eq,List.length_map]
  rw[decide_eq_false (by omega)]
  simp
 | j+1,k,hk,ok=>by
  obtain⟨r,hr⟩:∃r,l[k]?=some r:=⟨_,List.getElem?_eq_getElem (by omega)⟩
  have hdr:l.drop k=r::l.drop (k+1):=by
   obtain⟨h,rfl⟩:=List.getElem?_eq_some_iff.1 hr
   exact List.drop_eq_getElem_cons h
  rw[hdr,List.all_cons]
  cases ok with
  | false=>
   refine loopU_out ?_
   unfold u_ref24_Order_l2
   simp only[ltI_eq,lenL_eq,List.length_map]
   rw[decide_eq_true (by omega)]
   rfl
  | true=>
   have h16:=hD.1
   rcases posF_spec r (ids D) 0 with⟨_,h2⟩ | ⟨n,h1,h2,_⟩
   ·exact absurd (hm r (List.mem_of_getElem? hr)) h2
   ·rw[Nat.zero_add] at h2
    have hx:∃x,D[n]?=some x∧idT x=r:=by
     unfold ids at h1
     rw[List.getElem?_map] at h1
     cases hx:D[n]? with
     | none=>rw[hx] at h1;cases h1
     | some x=>rw[hx] at h1;simp only[Option.map_some,Option.some.injEq] at h1;exact⟨x,rfl,h1⟩
    obtain⟨x,hx,e⟩:=hx
    have hn:n<D.length:=(List.getElem?_eq_some_iff.1 hx).1
    have hS:tS D out r=decide (n∈out):=by rw[←e];exact tS_iff hd ho hx
    refine(loopU_go (s':=((),doneL D out,o,pk,i,decide (n∈out),l.map tI,((k+1:Nat):Int),H,D,())) ?_).trans ?_
    ·unfold u_ref24_Order_l2
     simp only[ltI_eq,addI_eq,lenL_eq,List.length_map]
     rw[decide_eq_true (by omega),idxL_nat,List.getElem?_map,hr]
     simp only[cond_true,Option.map_some,obS,T_cell_v,T_int,e_place hD,h2,doneL_len]
     rw[chkI_nat (by omega)]
     simp only[obS,idxN_eq,doneL_get hn,T_cell_v,T_bool]
     rw[wr64 (by omega) (by omega)]
     rfl
    ·rw[rord_l2 hD hd ho hl hm j (k+1) (by omega),hS,Bool.true_and]
theorem rord_l1{D H:List T}(hD:OkD D)(hd:Dist D)(hrf:∀x∈D,∀r∈rfs x,r∈ids D){out:List Nat}(ho:∀i∈out,i<D.length){o:List T}:∀j k,k+j=D.length →
 loopU u_ref24_Order_l1 ((),doneL D out,o,(-1:Int),(k:Int),H,D,())=some (.inl ((),doneL D out,o,(if nxt D (tS D out) j k=D.length then (-1:Int) else (nxt D (tS D out) j k:Nat)),H,D,())) 
 | 0,k,hk=>by
  have h0:nxt D (tS D out) 0 k=D.length:=by show k=D.length;omega
  rw[if_pos h0]
  refine loopU_out ?_
  unfold u_ref24_Order_l1
  simp only[ltI_eq,lenL_eq]
  rw[decide_eq_false (by omega)]
  rfl
 | j+1,k,hk=>by
  have h16:=hD.1
  obtain⟨x,hx⟩:∃x,D[k]?=some x:=⟨_,List.getElem?_eq_getElem (by omega)⟩
  have hxm:=List.mem_of_getElem? hx
  have hrl:=rfs_len (hD.2 x hxm)
  obtain⟨name,args,e,ha1,ha2,hrx⟩:=ent_of hD hx
  have hlt:k<D.length:=by omega
  have hl2:=rord_l2 (H:=H) hD hd ho (o:=o) (pk:=-1) (i:=k) (l:=rfs x) hrl (hrf x hxm) (rfs x).length 0 (by omega) (!decide (k∈out))
  rw[List.drop_zero] at hl2
  have hg:good D (tS D out) k=(!decide (k∈out)&&(rfs x).all (tS D out)):=by
   unfold good
   rw[hx]
   simp only[tS_iff hd ho hx]
   congr 1
   induction rfs x with
   | nil=>rfl
   | cons r l ih=>rw[List.any_cons,List.all_cons,Bool.not_or,Bool.not_not,ih]
  have hF:u_ref24_Order_l1 ((),doneL D out,o,(-1:Int),(k:Int),H,D,())=some (.inl ((),doneL D out,o,(if good D (tS D out) k then (k:Int) else (-1:Int)),((k+1:Nat):Int),H,D,())):=by
   unfold u_ref24_Order_l1
   simp only[ltI_eq,addI_eq,lenL_eq,doneL_len]
   rw[decide_eq_true (by omega),chkI_nat (by omega),idxL_nat,hx]
   have hw:wr .i64 ((k:Int)+1)=((k+1:Nat):Int):=by rw[wr64 (by omega) (by omega)];rfl
   simp only[cond_true,obS,idxN_eq,doneL_get hlt,T_cell_v,T_bool,(cell0 e).2.2,T_sl,e_Refs ha1 ha2,←hrx]
   rw[show decide ((-1:Int)<0)=true from rfl]
   simp only[cond_true]
   rw[show ((0:Nat):Int)=0 from rfl] at hl2
   rw[hl2,hg]
   simp only[obS,onS_l]
   cases(!decide (k∈out)&&(rfs x).all (tS D out)) <;> simp[hw]
  refine(loopU_go hF).trans ?_
  have hnx:nxt D (tS D out) (j+1) k=if good D (tS D out) k then k else nxt D (tS D out) j (k+1):=rfl
  cases hgd:good D (tS D out) k with
  | false=>
   rw[hgd] at hnx
   rw[show nxt D (tS D out) (j+1) k=nxt D (tS D out) j (k+1) from hnx]
   exact rord_l1 hD hd hrf ho j (k+1) (by omega)
  | true=>
   rw[hgd] at hnx
   rw[show nxt D (tS D out) (j+1) k=k from hnx,if_pos rfl,if_neg (show ¬k=D.length by omega)]
   refine loopU_out ?_
   unfold u_ref24_Order_l1
   simp only[ltI_eq,lenL_eq]
   rw[show decide (((k:Nat):Int)<0)=false from decide_eq_false (by omega)]
   cases decide (((k+1:Nat):Int)<(D.length:Int)) <;> rfl
theorem rord_l0{D H:List T}(hD:OkD D)(hd:Dist D)(hrf:∀x∈D,∀r∈rfs x,r∈ids D):∀(n:Nat) (out:List Nat),out.length+n=D.length→(∀i∈out,i<D.length) →
 loopU u_ref24_Order_l0 ((),doneL D out,out.map tN,H,D,())=some (match ordS D n out with
  | none=>.inl (.v (.slice none 0 0),false,())
  | some o=>.inr (.inl (o.map tN,())))
 | 0,out,h,ho=>by
  refine loopU_out ?_
  unfold u_ref24_Order_l0
  simp only[ltI_eq,lenL_eq,List.length_map]
  rw[decide_eq_false (by omega)]
  rfl
 | n+1,out,h,ho=>by
  have h16:=hD.1
  have hl1:=rord_l1 (H:=H) hD hd hrf ho (o:=out.map tN) D.length 0 (Nat.zero_add _)
  rw[show ((0:Nat):Int)=0 from rfl] at hl1
  have hle:=nxt_le D (tS D out) D.length 0 (Nat.zero_add _)
  simp only[ordS]
  generalize nxt D (tS D out) D.length 0=q at hl1 hle
  by_cases hq:q=D.length
  ·rw[if_pos hq] at hl1 ⊢
   refine loopU_out ?_
   unfold u_ref24_Order_l0
   simp only[ltI_eq,lenL_eq,List.length_map]
   rw[decide_eq_true (by omega),hl1]
   rfl
  ·rw[if_neg hq] at hl1 ⊢
   have hF:u_ref24_Order_l0 ((),doneL D out,out.map tN,H,D,())=some (.inl ((),doneL D (out++[q]),(out++[q]).map tN,H,D,())):=by
    unfold u_ref24_Order_l0
    simp only[ltI_eq,lenL_eq,List.length_map]
    rw[decide_eq_true (by omega),hl1]
    simp only[cond_true,obS,onS_l]
    rw[decide_eq_false (by omega),doneL_len]
    simp only[cond_false]
    rw[chkI_nat (by omega)]
    simp only[obS,idxN_eq,doneL_get (out:=out) (show q<D.length by omega)]
    rw[room_ok (by simp only[List.length_map,List.length_cons,List.length_nil];omega) (by decide)]
    simp only[obS,onS_l,T_upd1]
    rw[show (doneL D out).set q (T.v (Value.bool true))=doneL D (out++[q]) from doneL_set,List.map_append]
    rfl
   exact(loopU_go hF).trans (rord_l0 hD hd hrf n (out++[q]) (by rw[List.length_append,List.length_singleton];omega) fun i hi=>by
    rcases List.mem_append.1 hi with hi | hi
    ·exact ho i hi
    ·rw[List.mem_singleton] at hi;omega)
theorem e_rOrder{H D:List T}(hD:OkD D):u_ref24_Order (H,D,())=u_entity_Order (H,D,()):=by
 have h16:=hD.1
 rw[e_Order hD]
 unfold u_ref24_Order
 rw[e_rCheck hD]
 simp only[obS,ltI_eq,lenL_eq,List.length_map]
 by_cases hc:chkT D D.length=[]
 ·rw[if_pos hc,hc]
  obtain⟨c1,c2⟩:=chk_nil hc
  simp only[List.length_nil]
  rw[show decide ((0:Int)<((0:Nat):Int))=false from rfl]
  simp only[cond_false]
  rw[mkLen_ok (by omega) (Int.le_refl _) (by omega) (by decide)]
  simp only[obS,repL_eq,Int.toNat_natCast]
  have h1:=rord_l0 (H:=H) hD (dist_of c1) c2 D.length [] (by simp) (by simp)
  have e0:doneL D []=List.replicate D.length (T.v (.bool false)):=by
   apply List.ext_getElem?
   intro i
   rw[List.getElem?_replicate]
   by_cases hi:i<D.length
   ·rw[doneL_get hi,if_pos hi];simp
   ·rw[List.getElem?_eq_none (by rw[doneL_len];omega),if_neg hi]
  rw[show (([]:List Nat).map tN)=[] from rfl,e0] at h1
  rw[h1]
  cases ordS D D.length [] with
  | none=>rfl
  | some o=>rfl
 ·rw[if_neg hc]
  rw[decide_eq_true (by have:0<(chkT D D.length).length:=List.length_pos_iff.2 hc;omega)]
  rfl
end Go.Eng.En
namespace Go.Eng.Rt
open Go.Eng
def En(D k:Nat)(q:Rat):Prop:=∃m:Nat,m≤k∧q=mkRat (m:Int) D
theorem En.add{D a b:Nat}{p q:Rat}(hD:D≠0)(hp:En D a p)(hq:En D b q):En D (a+b) (p+q):=by
 obtain⟨m,hm,rfl⟩:=hp
 obtain⟨n,hn,rfl⟩:=hq
 refine⟨m+n,by omega,?_⟩
 rw[Rat.mkRat_add_mkRat _ _ hD hD,Rat.mkRat_eq_iff (Nat.mul_ne_zero hD hD) hD]
 push_cast
 rw[←Int.add_mul,Int.mul_assoc]
theorem En.zero{D k:Nat}:En D k 0:=⟨0,Nat.zero_le _,by simp[Rat.zero_mkRat]⟩
theorem En.mono{D a b:Nat}{q:Rat}(h:En D a q)(hab:a≤b):En D b q:=by
 obtain⟨m,hm,e⟩:=h;exact⟨m,by omega,e⟩
theorem En.nn{D k:Nat}{q:Rat}(hD:D≠0)(h:En D k q):rNeg q=false:=by
 obtain⟨m,hm,rfl⟩:=h
 by_cases h0:m=0
 ·subst h0;simp[Rat.zero_mkRat];rfl
 ·exact mk_neg false hD h0
end Go.Eng.Rt
namespace Go.Eng.Rt
open Go.Eng
abbrev B64:Nat:=18446744073709551616
theorem wr32n(n:Nat):wr .u32 (n:Int)=((n%BB:Nat):Int):=by
 unfold wr IntKind.wrap
 simp only[IntKind.bits,IntKind.signed,Bool.false_and,Bool.false_eq_true,if_false]
 rw[show ((2:Int) ^ 32)=((BB:Nat):Int) from rfl]
 omega
theorem wr64n(n:Nat):wr .u64 (n:Int)=((n%B64:Nat):Int):=by
 unfold wr IntKind.wrap
 simp only[IntKind.bits,IntKind.signed,Bool.false_and,Bool.false_eq_true,if_false]
 rw[show ((2:Int) ^ 64)=((B64:Nat):Int) from rfl]
 omega
theorem wr64s{n:Nat}(h:n<B64):wr .u64 (n:Int)=(n:Int):=by rw[wr64n,Nat.mod_eq_of_lt h]
theorem wri{n:Nat}(h:n<4611686018427387904):wr .i64 (n:Int)=(n:Int):=wr64 (by omega) (by omega)
theorem wri'{n:Int}(h0:-4611686018427387904<n)(h:n<4611686018427387904):wr .i64 n=n:=wr64 (by omega) (by omega)
theorem shr32(n:Nat):shrI .u64 (n:Int) 32=((n/BB:Nat):Int):=by
 unfold shrI
 rw[show ((2:Int) ^ (min (Int.toNat 32) (IntKind.bits .u64)))=((BB:Nat):Int) from rfl,Int.fdiv_eq_ediv_of_nonneg _ (by omega)]
 exact(Int.natCast_ediv n BB).symm
theorem shl32(n:Nat):shlI .u64 (n:Int) 32=((n*BB:Nat):Int):=by
 unfold shlI
 rw[show ((2:Int) ^ (min (Int.toNat 32) (IntKind.bits .u64)))=((BB:Nat):Int) from rfl]
 exact(Int.natCast_mul n BB).symm
theorem nn32:nn (32:Int)=some 32:=by unfold nn;rfl
theorem or_disj{a b:Nat}(h:a<BB):a ||| (b*BB)=a+b*BB:=by
 rw[Nat.or_comm,Nat.add_comm,show b*BB=b <<< 32 by rw[Nat.shiftLeft_eq]]
 exact(Nat.shiftLeft_add_eq_or_of_lt (by simpa using h) b).symm
theorem or64{a b:Nat}(ha:a<BB)(hb:b<BB):bitI .or .u64 (a:Int) ((b*BB:Nat):Int)=((a+b*BB:Nat):Int):=by
 have hlt:a+b*BB<B64:=by simp only[BB,B64] at *;omega
 unfold bitI
 have e:∀n:Nat,n<B64→(BitVec.ofInt 64 (n:Int)).toNat=n:=fun n hn=>by
  rw[BitVec.ofInt_natCast,BitVec.toNat_ofNat]
  exact Nat.mod_eq_of_lt (by simp only[B64] at hn;omega)
 show IntKind.wrap .u64 (((BitVec.ofInt 64 (a:Int) ||| BitVec.ofInt 64 ((b*BB:Nat):Int)).toNat:Nat):Int)=_
 rw[BitVec.toNat_or,e a (by simp only[BB,B64] at *;omega),e (b*BB) (by simp only[BB,B64] at *;omega),or_disj ha]
 have:=wr64s hlt
 unfold wr at this
 exact this
theorem lmL_get(l:List Nat)(i:Nat):(lmL l)[i]?=(l[i]?).map limT:=by simp[lmL]
theorem limT_cell(n:Nat):T.cell (limT n) 0=limT n:=rfl
theorem limT_int(n:Nat):T.int? .u32 (limT n)=some (n:Int):=by unfold limT;simp
theorem limT_any(n:Nat):T.anyInt? (limT n)=some (n:Int):=rfl
theorem lmL_take(l:List Nat)(k:Nat):(lmL l).take k=lmL (l.take k):=by unfold lmL;simp
theorem Lim.take{l:List Nat}(h:Lim l)(k:Nat):Lim (l.take k):=fun x hx=>h x (List.mem_of_mem_take hx)
theorem Lim.drop{l:List Nat}(h:Lim l)(k:Nat):Lim (l.drop k):=fun x hx=>h x (List.mem_of_mem_drop hx)
theorem Lim.get{l:List Nat}(h:Lim l){i:Nat}{x:Nat}(hi:l[i]?=some x):x<BB:=h x (List.mem_of_getElem? hi)
theorem Lim.set{l:List Nat}(h:Lim l){x:Nat}(hx:x<BB)(i:Nat):Lim (l.set i x):=fun y hy=>by
 rcases List.mem_or_eq_of_mem_set hy with h1 | h1
 ·exact h y h1
 ·subst h1;exact hx
theorem trimN_pre(l:List Nat):trimN l <+: l:=by
 unfold trimN
 have:=List.dropWhile_suffix (l:=l.reverse) (·==0)
 have h2:=List.reverse_prefix.2 this
 simpa using h2
theorem trimN_take(l:List Nat):l.take (trimN l).length=trimN l:=(List.prefix_iff_eq_take.1 (trimN_pre l)).symm
theorem trimN_le(l:List Nat):(trimN l).length≤l.length:=(trimN_pre l).length_le
theorem lim_trim{l:List Nat}(h:Lim l):lmL (trimN l)=lm (val l):=by rw[lm,limbs_val h]
theorem lm_len(n:Nat):(lm n).length=(limbs n).length:=by simp[lm,lmL]
theorem lm_len0{n:Nat}:(lm n).length=0↔n=0:=by
 rw[lm_len]
 constructor
 ·intro h
  rcases Nat.eq_zero_or_pos n with h0 | h0
  ·exact h0
  ·rw[limbs_pos (by omega)] at h;simp at h
 ·intro h;subst h;rw[limbs_zero];rfl
theorem lm_le1{n:Nat}:(lm n).length≤1↔n<BB:=by rw[lm_len,limbs_len];simp
def cmpN(a b:Nat):Int:=if a<b then -1 else if a=b then 0 else 1
theorem val_split{l:List Nat}{i x:Nat}(hi:l[i]?=some x):val l=val (l.take i)+BB ^ i*(x+BB*val (l.drop (i+1))):=by
 have hlt:i<l.length:=(List.getElem?_eq_some_iff.1 hi).1
 have hx:l[i]=x:=by rw[List.getElem?_eq_getElem hlt] at hi;exact Option.some.inj hi
 have h1:val (l.take i++l.drop i)=val l:=by rw[List.take_append_drop]
 rw[←h1,val_append,List.drop_eq_getElem_cons hlt,hx,val,List.length_take,Nat.min_eq_left (Nat.le_of_lt hlt)]
theorem val_lt_of{a b:List Nat}(ha:Lim a){i x y:Nat}(hx:a[i]?=some x)(hy:b[i]?=some y)(hxy:x<y)(hd:a.drop (i+1)=b.drop (i+1)):val a<val b:=by
 rw[val_split hx,val_split hy,hd]
 have hlt:i<a.length:=(List.getElem?_eq_some_iff.1 hx).1
 have h1:=val_lt (ha.take i)
 rw[List.length_take,Nat.min_eq_left (Nat.le_of_lt hlt)] at h1
 have h2:BB ^ i*(x+1+BB*val (b.drop (i+1)))≤BB ^ i*(y+BB*val (b.drop (i+1))):=Nat.mul_le_mul_left _ (by omega)
 rw[show x+1+BB*val (b.drop (i+1))=(x+BB*val (b.drop (i+1)))+1 by omega,Nat.mul_add] at h2
 omega
end Go.Eng.Rt
namespace Go.Eng.Rt
open Go.Eng
abbrev LM:Nat:=1000000
theorem r_trim_loop(l:List Nat)(hl:l.length<LM):∀n,n≤l.length→loopU u_ref01_Trim_l0 (lmL l,(n:Int),())=some (.inl (lmL l,(((trimN (l.take n)).length:Nat):Int),())):=by
 intro n
 induction n with
 | zero=>intro _;exact loopU_out (by simp[u_ref01_Trim_l0,trimN])
 | succ n ih=>
  intro hn
  have hlt:n<l.length:=hn
  have ht:l.take (n+1)=l.take n++[l[n]]:=List.take_succ_eq_append_getElem hlt
  have step:u_ref01_Trim_l0 (lmL l,((n+1:Nat):Int),())=if l[n]=0 then some (.inl (lmL l,(n:Int),())) else some (.inr (.inl (lmL l,((n+1:Nat):Int),()))):=by
   unfold u_ref01_Trim_l0
   simp only[ltI_eq,subI_eq]
   rw[decide_eq_true (by omega),show ((n+1:Nat):Int)-1=(n:Int) by omega,wri (by simp only[LM] at hl;omega),idxL_nat,lmL_get,List.getElem?_eq_getElem hlt]
   simp only[cond_true,Option.map_some,obS,limT_cell,limT_int,eqI_eq]
   by_cases h0:l[n]=0
   ·rw[if_pos h0,decide_eq_true (by omega)];rfl
   ·rw[if_neg h0,decide_eq_false (by omega)];rfl
  rw[ht]
  by_cases h0:l[n]=0
  ·rw[if_pos h0] at step
   rw[loopU_go step,ih (by omega),h0,trimN_snoc0]
  ·rw[if_neg h0] at step
   rw[loopU_out step,trimN_snoc h0]
   simp only[List.length_append,List.length_take,Nat.min_eq_left (Nat.le_of_lt hlt),List.length_cons,List.length_nil]
theorem lm_val_len{l:List Nat}(h:Lim l):(lm (val l)).length≤l.length:=by rw[←lim_trim h,lmL_len];exact trimN_le l
theorem r_Trim{l:List Nat}(h:Lim l)(hl:l.length<LM):u_ref01_Trim (lmL l,())=some (lm (val l),()):=by
 unfold u_ref01_Trim
 have e:=r_trim_loop l hl l.length (Nat.le_refl _)
 rw[List.take_length] at e
 simp only[lenL_eq,lmL_len,e,obS,onS_l]
 rw[cutL_int (by omega) (by omega) (by rw[lmL_len];have:=trimN_le l;omega)]
 simp only[Int.toNat_natCast,Int.toNat_zero,List.drop_zero,obS,lmL_take,trimN_take,lim_trim h]
 have hlen:=lm_val_len h
 rw[room_ok (by simp only[List.length_nil];simp only[LM] at hl;omega) (by decide)]
 rfl
theorem r_Trim'{n:Nat}(h:(limbs n).length<LM):u_ref01_Trim (lm n,())=some (lm n,()):=by
 have:=r_Trim (lim_limbs n) h
 rw[val_limbs] at this
 exact this
theorem lm_small{n:Nat}(h:n<B64):(limbs n).length<LM:=by
 have:(limbs n).length≤2:=limbs_len.2 h
 simp only[LM];omega
theorem r_Of{n:Nat}(h:n<B64):u_ref01_Of ((n:Int),())=some (lm n,()):=by
 unfold u_ref01_Of
 simp only[nn32,obS,wr32n,shr32]
 have hd:n/BB<BB:=Nat.div_lt_of_lt_mul h
 have e:=r_Trim (l:=[n%BB,n/BB%BB]) (Lim.cons (Nat.mod_lt _ (by decide)) (Lim.cons (Nat.mod_lt _ (by decide)) Lim.nil)) (by simp only[List.length_cons,List.length_nil,LM];omega)
 have hv:val [n%BB,n/BB%BB]=n:=by
  rw[Nat.mod_eq_of_lt hd]
  simp only[val,Nat.mul_zero,Nat.add_zero]
  exact Nat.mod_add_div n BB
 rw[hv] at e
 simp only[lmL,List.map_cons,List.map_nil,limT] at e
 rw[e]
 rfl
theorem r_small{l:List Nat}(h:Lim l):u_ref01_small (lmL l,())=some (if l.length≤2 then (val l:Int) else 0,decide (l.length≤2),()):=by
 match l,h with
 | [],_=>unfold u_ref01_small;simp[lmL,val]
 | [a],h=>
  have ha:=h.head
  unfold u_ref01_small
  simp only[lenL_eq,lmL_len,List.length_cons,List.length_nil,eqI_eq]
  rw[idxL_int _ (by omega)]
  simp[lmL,limT_cell,limT_any,val,wr64s (show a<B64 by simp only[BB,B64] at *;omega)]
 | [a,b],h=>
  have ha:=h.head
  have hb:=h.tail.head
  unfold u_ref01_small
  simp only[lenL_eq,lmL_len,List.length_cons,List.length_nil,eqI_eq]
  rw[idxL_int _ (by omega),idxL_int _ (by omega)]
  have e1:wr .u64 (a:Int)=(a:Int):=wr64s (by simp only[BB,B64] at *;omega)
  have e2:wr .u64 (b:Int)=(b:Int):=wr64s (by simp only[BB,B64] at *;omega)
  have e3:wr .u64 ((b*BB:Nat):Int)=((b*BB:Nat):Int):=wr64s (by simp only[BB,B64] at *;omega)
  have g0:(lmL [a,b])[(0:Int).toNat]?=some (limT a):=rfl
  have g1:(lmL [a,b])[(1:Int).toNat]?=some (limT b):=rfl
  rw[g0,g1,decide_eq_false (by omega),decide_eq_false (by omega),decide_eq_true (by omega)]
  simp only[cond_false,cond_true,obS,limT_cell,limT_any,nn32,e1,e2,shl32,e3,or64 ha hb]
  rw[if_pos (by omega),decide_eq_true (by omega)]
  simp only[val,Nat.mul_zero,Nat.add_zero]
  rw[Nat.mul_comm b BB]
 | a::b::c::l,h=>
  unfold u_ref01_small
  simp only[lenL_eq,lmL_len,List.length_cons,eqI_eq]
  rw[decide_eq_false (by omega),decide_eq_false (by omega),decide_eq_false (by omega),if_neg (by omega),decide_eq_false (by omega)]
  rfl
theorem r_cmp_loop{a b:List Nat}(ha:Lim a)(hb:Lim b)(hl:a.length=b.length)(hm:a.length<LM):∀n,n≤a.length→a.drop n=b.drop n →
 loopU u_ref01_Cmp_l0 (lmL a,lmL b,(n:Int)-1,())=some (if val a=val b then .inr (.inl ()) else .inl (cmpN (val a) (val b),())):=by
 intro n
 induction n with
 | zero=>
  intro _ hd
  have:a=b:=by simpa using hd
  subst this
  rw[if_pos rfl]
  exact loopU_out (by unfold u_ref01_Cmp_l0;simp only[leI_eq];rw[decide_eq_false (by omega)];rfl)
 | succ n ih=>
  intro hn hd
  have h1:n<a.length:=hn
  have h2:n<b.length:=by omega
  have ga:=List.getElem?_eq_getElem h1
  have gb:=List.getElem?_eq_getElem h2
  have step:u_ref01_Cmp_l0 (lmL a,lmL b,((n+1:Nat):Int)-1,())=if a[n]<b[n] then some (.inr (.inl (-1,()))) else if b[n]<a[n] then some (.inr (.inl (1,()))) else some (.inl (lmL a,lmL b,(n:Int)-1,())):=by
   unfold u_ref01_Cmp_l0
   rw[show ((n+1:Nat):Int)-1=(n:Int) by omega]
   simp only[leI_eq,ltI_eq,subI_eq]
   rw[decide_eq_true (by omega),idxL_nat,idxL_nat,lmL_get,lmL_get,ga,gb,wri' (by omega) (by simp only[LM] at hm;omega)]
   simp only[cond_true,Option.map_some,obS,limT_cell,limT_int]
   by_cases c1:a[n]<b[n]
   ·rw[if_pos c1,decide_eq_true (by omega)];rfl
   ·rw[if_neg c1,decide_eq_false (by omega)]
    by_cases c2:b[n]<a[n]
    ·rw[if_pos c2,decide_eq_true (by omega)];rfl
    ·rw[if_neg c2,decide_eq_false (by omega)];rfl
  by_cases c1:a[n]<b[n]
  ·rw[if_pos c1] at step
   have:=val_lt_of ha ga gb c1 hd
   rw[loopU_out step,if_neg (by omega)]
   unfold cmpN
   rw[if_pos this]
  ·rw[if_neg c1] at step
   by_cases c2:b[n]<a[n]
   ·rw[if_pos c2] at step
    have:=val_lt_of hb gb ga c2 hd.symm
    rw[loopU_out step,if_neg (by omega)]
    unfold cmpN
    rw[if_neg (by omega),if_neg (by omega)]
   ·rw[if_neg c2] at step
    rw[loopU_go step]
    refine ih (by omega) ?_
    rw[List.drop_eq_getElem_cons h1,List.drop_eq_getElem_cons h2,hd,show a[n]=b[n] by omega]
theorem len_lt{x y:Nat}(h:(limbs x).length<(limbs y).length):x<y:=by
 have h1:x<BB ^ (limbs x).length:=limbs_len.1 (Nat.le_refl _)
 have h2:¬y<BB ^ (limbs x).length:=fun hh=>by
  have:=limbs_len.2 hh
  omega
 omega
theorem r_Cmp{x y:Nat}(hx:(limbs x).length<LM)(hy:(limbs y).length<LM):u_ref01_Cmp (lm x,lm y,())=some (cmpN x y,()):=by
 unfold u_ref01_Cmp
 simp only[lenL_eq,lm_len,eqI_eq,ltI_eq,subI_eq]
 by_cases hl:(limbs x).length=(limbs y).length
 ·rw[decide_eq_true (by omega),wri' (by omega) (by simp only[LM] at hx;omega)]
  have:=r_cmp_loop (lim_limbs x) (lim_limbs y) hl hx (limbs x).length (Nat.le_refl _) (by rw[List.drop_length,hl,List.drop_length])
  rw[val_limbs,val_limbs] at this
  simp only[lm,Bool.not_true,cond_false,this,obS]
  by_cases he:x=y
  ·subst he;simp[cmpN,onS_r,onS_l]
  ·rw[if_neg he];rfl
 ·rw[decide_eq_false (by omega)]
  simp only[Bool.not_false,cond_true]
  by_cases hc:(limbs x).length<(limbs y).length
  ·have:=len_lt hc
   rw[decide_eq_true (by omega)]
   unfold cmpN
   rw[if_pos this];rfl
  ·have:=len_lt (x:=y) (y:=x) (by omega)
   rw[decide_eq_false (by omega)]
   unfold cmpN
   rw[if_neg (by omega),if_neg (by omega)];rfl
theorem r_smallN{n:Nat}(h:n<B64):u_ref01_small (lm n,())=some ((n:Int),true,()):=by
 have h2:(limbs n).length≤2:=limbs_len.2 h
 have:=r_small (lim_limbs n)
 rw[if_pos h2,decide_eq_true h2,val_limbs] at this
 exact this
theorem tdivN(a b:Nat):(a:Int).tdiv (b:Int)=((a/b:Nat):Int):=rfl
theorem tmodN(a b:Nat):(a:Int).tmod (b:Int)=((a%b:Nat):Int):=rfl
theorem r_Div{a b:Nat}(ha:a<B64)(hb:b<B64)(h0:b≠0):u_ref01_Div (lm a,lm b,())=some (lm (a/b),lm (a%b),0,()):=by
 unfold u_ref01_Div
 simp only[lenL_eq,eqI_eq,ltI_eq]
 have hbl:(lm b).length≠0:=fun h=>h0 (lm_len0.1 h)
 rw[decide_eq_false (by omega)]
 simp only[cond_false,r_Cmp (lm_small ha) (lm_small hb),obS]
 unfold cmpN
 by_cases hlt:a<b
 ·rw[if_pos hlt,decide_eq_true (by omega)]
  simp only[cond_true,r_Trim' (lm_small ha),obS]
  rw[Nat.div_eq_of_lt hlt,Nat.mod_eq_of_lt hlt,lm_zero]
 ·rw[if_neg hlt]
  have:decide ((if a=b then (0:Int) else 1)<0)=false:=decide_eq_false (by split <;> omega)
  rw[this]
  simp only[cond_false,r_smallN ha,r_smallN hb,obS,cond_true,divI_eq,modI_eq,tdivN,tmodN]
  rw[nz_eq (by omega)]
  have hd:a/b<B64:=Nat.lt_of_le_of_lt (Nat.div_le_self _ _) ha
  have hm:a%b<B64:=Nat.lt_of_le_of_lt (Nat.mod_le _ _) ha
  simp only[obS,tdivN,tmodN,wr64s hd,r_Of hd,r_Of hm]
theorem gcd_loop{a b:Nat}:loopU u_ref01_Gcd_l1 ((a:Int),(b:Int),())=some (.inl (((a.gcd b:Nat):Int),())):=by
 induction b using Nat.strongRecOn generalizing a with
 | _ b ih=>
  by_cases h0:b=0
  ·subst h0
   exact loopU_out (by unfold u_ref01_Gcd_l1;simp[Nat.gcd_zero_right,onS_r,onS_l])
  ·have step:u_ref01_Gcd_l1 ((a:Int),(b:Int),())=some (.inl ((b:Int),((a%b:Nat):Int),())):=by
    unfold u_ref01_Gcd_l1
    simp only[eqI_eq,modI_eq]
    rw[decide_eq_false (by omega),nz_eq (by omega)]
    rfl
   rw[loopU_go step,ih (a%b) (Nat.mod_lt _ (Nat.pos_of_ne_zero h0)),Nat.gcd_comm a b,Nat.gcd_rec b a,Nat.gcd_comm]
theorem r_Gcd{a b:Nat}(ha:a<B64)(hb:b<B64):u_ref01_Gcd (lm a,lm b,())=some (lm (a.gcd b),()):=by
 unfold u_ref01_Gcd
 simp only[r_Trim' (lm_small ha),r_Trim' (lm_small hb),obS]
 by_cases h0:b=0
 ·subst h0
  rw[loopU_out (e:=.inr (.inl (lm a,()))) (by unfold u_ref01_Gcd_l0;simp[lm_zero])]
  simp[Nat.gcd_zero_right,onS_r,onS_l]
 ·have hbl:(lm b).length≠0:=fun h=>h0 (lm_len0.1 h)
  have hg:a.gcd b<B64:=Nat.lt_of_le_of_lt (Nat.gcd_le_right _ (Nat.pos_of_ne_zero h0)) hb
  rw[loopU_out (e:=.inl (lm (a.gcd b),())) (by
   unfold u_ref01_Gcd_l0
   simp only[ltI_eq,lenL_eq]
   rw[decide_eq_true (by omega)]
   simp only[cond_true,r_smallN ha,r_smallN hb,obS,gcd_loop,onS_l,r_Of hg])]
  rfl
theorem one_len{d:Nat}(hd:d<B64)(h0:d≠0):(lm d).length=1↔d<BB:=by
 constructor
 ·intro h;exact lm_le1.1 (by omega)
 ·intro h;rw[lm_one h0 h];rfl
theorem r_reduce(neg:Bool){n d:Nat}(hn:n<B64)(hd:d<B64)(h0:d≠0):u_ref02_reduce (neg,lm n,lm d,())=some (rNeg (mkRat (sg neg n) d),rNum (mkRat (sg neg n) d),rDen (mkRat (sg neg n) d),()):=by
 unfold u_ref02_reduce
 simp only[r_Trim' (lm_small hn),r_Trim' (lm_small hd),obS,lenL_eq,eqI_eq]
 by_cases hz:n=0
 ·subst hz
  rw[decide_eq_true (by rw[lm_zero];rfl),mk_zero,rNeg_zero,rNum_zero,rDen_zero]
  rfl
 ·have hnl:(lm n).length≠0:=fun h=>hz (lm_len0.1 h)
  have hg:n.gcd d<B64:=Nat.lt_of_le_of_lt (Nat.gcd_le_right _ (Nat.pos_of_ne_zero h0)) hd
  have hg0:n.gcd d≠0:=Nat.gcd_ne_zero_right h0
  rw[decide_eq_false (by omega),mk_neg neg h0 hz,rNum_mk neg h0,rDen_mk neg h0]
  have hq0:d/n.gcd d≠0:=by
   have:=Nat.div_pos (Nat.le_of_dvd (Nat.pos_of_ne_zero h0) (Nat.gcd_dvd_right n d)) (Nat.pos_of_ne_zero hg0)
   omega
  have hq:d/n.gcd d<B64:=Nat.lt_of_le_of_lt (Nat.div_le_self _ _) hd
  have fin:∀(N:List T) (e:Nat),e<B64→e≠0→(ob (α:=((Bool×List T×List T×Unit×Bool×T×T×Unit)⊕Empty)) (bif (eqI (lenL (lm e)) (1:Int)) then (ob (idxL (lm e) (0:Int)) fun x11=>(ob (T.int? .u32 (T.cell x11 0)) fun x12=>(bif (eqI x12 (1:Int)) then (some (Sum.inl (neg,N,[],(),false,(T.v (.slice none 0 0)),(T.v (.slice none 0 0)),()))) else (some (Sum.inl (neg,N,lm e,(),false,(T.v (.slice none 0 0)),(T.v (.slice none 0 0)),())))))) else (some (Sum.inl (neg,N,lm e,(),false,(T.v (.slice none 0 0)),(T.v (.slice none 0 0)),()))))
   fun q13=>onS q13 (fun t14=>(some (t14.1,t14.2.1,t14.2.2.1,()))) fun q15=>noS q15)=some (neg,N,dn e,()):=by
   intro N e he he0
   simp only[lenL_eq,eqI_eq]
   by_cases h1:e<BB
   ·rw[decide_eq_true (by rw[lm_one he0 h1];rfl)]
    simp only[cond_true]
    rw[lm_one he0 h1,idxL_int _ (by omega)]
    simp only[Int.toNat_zero,List.getElem?_cons_zero,obS,limT_cell,limT_int]
    unfold dn
    by_cases h2:e=1
    ·subst h2;rfl
    ·rw[if_neg h2,decide_eq_false (by omega),lm_one he0 h1];rfl
   ·rw[decide_eq_false (by have:=(one_len he he0).1;omega)]
    unfold dn
    rw[if_neg (by simp only[BB] at h1;omega)]
    rfl
  simp only[cond_false,r_Gcd hn hd,obS,lenL_eq]
  have tail:=fin (lm (n/n.gcd d)) (d/n.gcd d) hq hq0
  simp only[lenL_eq,eqI_eq] at tail
  by_cases h1:n.gcd d=1
  ·have e1:lm (n.gcd d)=[limT 1]:=by rw[h1];exact lm_one (by decide) (by decide)
   rw[e1]
   rw[h1,Nat.div_one,Nat.div_one] at tail ⊢
   simp only[List.length_cons,List.length_nil]
   rw[decide_eq_true (by omega),idxL_int _ (by omega)]
   simp only[Bool.not_true,cond_false,Int.toNat_zero,List.getElem?_cons_zero,obS,limT_cell,limT_int]
   rw[decide_eq_true (by omega)]
   simp only[Bool.not_true,cond_false,obS,onS_l]
   exact tail
  ·by_cases h2:n.gcd d<BB
   ·have e1:lm (n.gcd d)=[limT (n.gcd d)]:=lm_one hg0 h2
    rw[decide_eq_true (by rw[e1];rfl)]
    have e2:idxL (lm (n.gcd d)) 0=some (limT (n.gcd d)):=by rw[e1,idxL_int _ (by omega)];rfl
    simp only[Bool.not_true,cond_false,e2,obS,limT_cell,limT_int]
    rw[decide_eq_false (by omega)]
    simp only[Bool.not_false,cond_true,r_Div hn hg hg0,r_Div hd hg hg0,obS,onS_l]
    exact tail
   ·rw[decide_eq_false (by have:=(one_len hg hg0).1;omega)]
    simp only[Bool.not_false,cond_true,r_Div hn hg hg0,r_Div hd hg hg0,obS,onS_l]
    exact tail
theorem r_size{n:Int}(h1:-4611686018427387904<n)(h2:n<4611686018427387904):u_ref02_size (n,())=some (lm n.natAbs,decide (n<0),()):=by
 unfold u_ref02_size
 simp only[ltI_eq,addI_eq,subI_eq]
 by_cases h:n<0
 ·rw[decide_eq_true h]
  have e:wr .u64 (wr .u64 (wr .i64 (0-wr .i64 (n+1)))+1)=((n.natAbs:Nat):Int):=by
   rw[wri' (n:=n+1) (by omega) (by omega),wri' (by omega) (by omega),show 0-(n+1)=((n.natAbs-1:Nat):Int) by omega,wr64s (by simp only[B64];omega),
    show ((n.natAbs-1:Nat):Int)+1=((n.natAbs:Nat):Int) by omega,wr64s (by simp only[B64];omega)]
  simp only[cond_true,e,r_Of (n:=n.natAbs) (by simp only[B64];omega),obS]
 ·rw[decide_eq_false h]
  have e:wr .u64 n=((n.natAbs:Nat):Int):=by
   rw[show n=((n.natAbs:Nat):Int) by omega,wr64s (by simp only[B64];omega)];rfl
  simp only[cond_false,e,r_Of (n:=n.natAbs) (by simp only[B64];omega),obS]
def fracQ(n d:Int):Rat:=mkRat (sg (decide (n<0) != decide (d<0)) n.natAbs) d.natAbs
theorem bneq(a b:Bool):(!(a==b))=(a != b):=rfl
theorem r_Make{n d:Int}(h1:-4611686018427387904<n)(h2:n<4611686018427387904)(h3:-4611686018427387904<d)(h4:d<4611686018427387904)(h0:d≠0):
 u_ref02_Make (n,d,())=some (rNeg (fracQ n d),rNum (fracQ n d),rDen (fracQ n d),0,()):=by
 unfold u_ref02_Make
 simp only[eqI_eq]
 rw[decide_eq_false h0]
 simp only[cond_false,r_size h1 h2,r_size h3 h4,obS,eqB_eq,bneq]
 rw[r_reduce _ (by simp only[B64];omega) (by simp only[B64];omega) (by omega)]
 rfl
theorem r_Frac{n d:Int}(h1:-4611686018427387904<n)(h2:n<4611686018427387904)(h3:-4611686018427387904<d)(h4:d<4611686018427387904)(h0:d≠0):
 u_ref02_Frac (n,d,())=some (rNeg (fracQ n d),rNum (fracQ n d),rDen (fracQ n d),()):=by
 unfold u_ref02_Frac
 simp only[r_Make h1 h2 h3 h4 h0,obS]
def Fit(q:Rat):Prop:=(limbs q.num.natAbs).length<LM∧(limbs q.den).length<LM
theorem Sm.fit{q:Rat}(h:Sm q):Fit q:=⟨lm_small (by have:=h.1;simp only[B64];omega),lm_small (by have:=h.2;simp only[B64];omega)⟩
theorem dn_lm(d:Nat):∃m,dn d=lm m∧(m=d∨m=0):=by
 unfold dn
 split
 ·exact⟨0,lm_zero.symm,.inr rfl⟩
 ·exact⟨d,rfl,.inl rfl⟩
theorem cmpN_zero{a b:Nat}:cmpN a b=0↔a=b:=by
 unfold cmpN
 by_cases h1:a<b
 ·rw[if_pos h1];omega
 ·rw[if_neg h1];split <;> omega
end Go.Eng.Rt
namespace Go.Eng.En
open Go.Eng Rt
theorem eqS_refl(a:ByteArray):eqS a a=true:=by unfold eqS;simp
theorem same_refl{q:Rat}(hq:Sm q):u_ref02_Same (rNeg q,rNum q,rDen q,rNeg q,rNum q,rDen q,())=some (true,()):=by
 have hf:=hq.fit
 unfold u_ref02_Same
 simp only[eqB_eq,beq_self_eq_true,cond_true]
 unfold rNum
 rw[r_Cmp hf.1 hf.1]
 simp only[obS,eqI_eq]
 rw[decide_eq_true (cmpN_zero.2 rfl)]
 simp only[cond_true]
 obtain⟨m,e1,c1⟩:=dn_lm q.den
 have l1:(limbs m).length<LM:=by
  rcases c1 with rfl | rfl
  ·exact hf.2
  ·rw[limbs_zero];decide
 unfold rDen
 rw[e1,r_Cmp l1 l1]
 simp only[obS]
 rw[decide_eq_true (cmpN_zero.2 rfl)]
theorem run_same:∀(n d:Nat) (l:List T),l.length≤8→(∀x∈l,OkA n x)→v_ref24_SameArgs (n+1+d) (l,l,())=some (true,())
 | n,d,l,hl,h=>by
  rw[show n+1+d=(n+d)+1 from by omega]
  show b_ref24_SameArgs (v_ref24_SameArgs (n+d)) (l,l,())=_
  unfold b_ref24_SameArgs
  have hgo:=loopU_for (F:=u_ref24_SameArgs_l0 (v_ref24_SameArgs (n+d))) l.length (fun k=>(l,l,(k:Nat),())) fun k hk=>by
   obtain⟨t,ht⟩:∃t,l[k]?=some t:=⟨_,List.getElem?_eq_getElem hk⟩
   have hto:=h t (List.mem_of_getElem? ht)
   have hw:wr .i64 ((k:Int)+1)=((k+1:Nat):Int):=by rw[wr64 (by omega) (by omega)];rfl
   unfold u_ref24_SameArgs_l0
   simp only[ltI_eq,addI_eq,lenL_eq]
   rw[decide_eq_true (by omega),idxL_nat,ht]
   cases n with
   | zero=>exact hto.elim
   | succ n=>
    obtain⟨kk,neg,num,den,text,ref,q,rfl,hq4,hs,r,hr,rfl,rfl,rfl⟩:=hto
    simp only[cond_true,obS,show ∀a b c d e f g,T.cell (argT a b c d e f g) 0=tI a from fun _ _ _ _ _ _ _=>rfl,show ∀a b c d e f g,T.cell (argT a b c d e f g) 1=tB b from fun _ _ _ _ _ _ _=>rfl,show ∀a b c d e f g,T.cell (argT a b c d e f g) 2=.sl 1 c from fun _ _ _ _ _ _ _=>rfl,show ∀a b c d e f g,T.cell (argT a b c d e f g) 3=.sl 1 d from fun _ _ _ _ _ _ _=>rfl,show ∀a b c d e f g,T.cell (argT a b c d e f g) 4=.v (.string e) from fun _ _ _ _ _ _ _=>rfl,show ∀a b c d e f g,T.cell (argT a b c d e f g) 5=tI f from fun _ _ _ _ _ _ _=>rfl,show ∀a b c d e f g,T.cell (argT a b c d e f g) 6=.sl 7 g from fun _ _ _ _ _ _ _=>rfl,
     T_int,T_sl,T_bool,T_str,eqI_eq,eqS_refl,same_refl hr]
    simp only[decide_true,Bool.not_true,cond_false]
    rw[show n+1+d=n+1+d from rfl,run_same n d q (by omega) hs]
    simp[hw]
  simp only[eqI_eq,lenL_eq]
  simp only[decide_true,Bool.not_true,cond_false]
  rw[show (l,l,(0:Int),())=(l,l,((0:Nat):Int),()) from rfl,hgo,loopU_out (e:=.inr (.inl ())) (by
   unfold u_ref24_SameArgs_l0
   simp only[ltI_eq,lenL_eq]
   rw[decide_eq_false (by omega)]
   rfl)]
  rfl
theorem e_SameRecord{name:ByteArray}{l:List T}(hl:l.length≤8)(h:∀x∈l,OkA 8 x):u_ref24_SameRecord (name,l,name,l,())=some (true,()):=by
 unfold u_ref24_SameRecord
 simp only[eqS_refl,cond_true]
 rw[show u_ref24_SameArgs (l,l,())=some (true,()) from run_same 8 11 l hl h]
 rfl
theorem run_copy:∀(n d:Nat) (l:List T),l.length≤8→(∀x∈l,OkA n x)→v_ref24_copyArgs (n+1+d) (l,())=some (l,())
 | n,d,l,hl,h=>by
  rw[show n+1+d=(n+d)+1 from by omega]
  show b_ref24_copyArgs (v_ref24_copyArgs (n+d)) (l,())=_
  unfold b_ref24_copyArgs
  have hgo:=loopU_for (F:=u_ref24_copyArgs_l0 (v_ref24_copyArgs (n+d))) l.length (fun k=>(l,l.take k,(k:Nat),())) fun k hk=>by
   obtain⟨t,ht⟩:∃t,l[k]?=some t:=⟨_,List.getElem?_eq_getElem hk⟩
   have hto:=h t (List.mem_of_getElem? ht)
   have hw:wr .i64 ((k:Int)+1)=((k+1:Nat):Int):=by rw[wr64 (by omega) (by omega)];rfl
   rw[show l.take (k+1)=l.take k++[t] from by rw[List.take_add_one,ht];rfl]
   unfold u_ref24_copyArgs_l0
   simp only[ltI_eq,addI_eq,lenL_eq]
   rw[decide_eq_true (by omega),idxL_nat,ht]
   cases n with
   | zero=>exact hto.elim
   | succ n=>
    obtain⟨kk,neg,num,den,text,ref,q,rfl,hq4,hs,_⟩:=hto
    simp only[cond_true,obS,show ∀a b c d e f g,T.cell (argT a b c d e f g) 0=tI a from fun _ _ _ _ _ _ _=>rfl,show ∀a b c d e f g,T.cell (argT a b c d e f g) 1=tB b from fun _ _ _ _ _ _ _=>rfl,show ∀a b c d e f g,T.cell (argT a b c d e f g) 2=.sl 1 c from fun _ _ _ _ _ _ _=>rfl,show ∀a b c d e f g,T.cell (argT a b c d e f g) 3=.sl 1 d from fun _ _ _ _ _ _ _=>rfl,show ∀a b c d e f g,T.cell (argT a b c d e f g) 4=.v (.string e) from fun _ _ _ _ _ _ _=>rfl,show ∀a b c d e f g,T.cell (argT a b c d e f g) 5=tI f from fun _ _ _ _ _ _ _=>rfl,show ∀a b c d e f g,T.cell (argT a b c d e f g) 6=.sl 7 g from fun _ _ _ _ _ _ _=>rfl,
     T_int,T_sl,T_bool,T_str]
    rw[show n+1+d=n+1+d from rfl,run_copy n d q (by omega) hs]
    simp only[obS]
    rw[room_ok (by simp only[List.length_take,List.length_cons,List.length_nil];omega) (by decide)]
    simp only[obS,hw]
    rfl
  rw[show (l,([]:List T),(0:Int),())=(l,l.take 0,((0:Nat):Int),()) from rfl,hgo,loopU_out (e:=.inl (l,())) (by
   unfold u_ref24_copyArgs_l0
   simp only[ltI_eq,lenL_eq]
   rw[decide_eq_false (by omega),List.take_length]
   rfl)]
  rfl
theorem e_copyRecord{name:ByteArray}{l:List T}(hl:l.length≤8)(h:∀x∈l,OkA 8 x):u_ref24_CopyRecord (name,l,())=some (name,l,()):=by
 unfold u_ref24_CopyRecord
 rw[show u_ref24_copyArgs (l,())=some (l,()) from run_copy 8 11 l hl h]
 rfl
theorem e_clone{name:ByteArray}{l:List T}(hl:l.length≤8)(h:∀x∈l,OkA 8 x):u_entity_clone (name,l,())=some (name,l,()):=by
 unfold u_entity_clone u_entity_copies
 rw[cpU_ok (by show l.length≤16;omega) h]
 rfl
theorem find_loop{D:List T}(hD:OkD D)(r:Int):∀j k,k+j=D.length →
 loopU u_slices_IndexFunc___api_Entity_api_Entity__l0 (D,(),(D.length:Int),(k:Int),r,())=some (if posF r (ids (D.drop k)) k<0 then .inr (.inl (r,())) else .inl (posF r (ids (D.drop k)) k,r,()))
 | 0,k,hk=>by
  rw[List.drop_of_length_le (by omega)]
  refine loopU_out ?_
  unfold u_slices_IndexFunc___api_Entity_api_Entity__l0
  simp only[ltI_eq]
  rw[decide_eq_false (by omega)]
  rfl
 | j+1,k,hk=>by
  obtain⟨x,hx⟩:∃x,D[k]?=some x:=⟨_,List.getElem?_eq_getElem (by omega)⟩
  have hdr:D.drop k=x::D.drop (k+1):=by
   obtain⟨h,rfl⟩:=List.getElem?_eq_some_iff.1 hx
   exact List.drop_eq_getElem_cons h
  obtain⟨name,args,e,_⟩:=ent_of hD hx
  have h16:=hD.1
  have ec:ids (x::D.drop (k+1))=idT x::ids (D.drop (k+1)):=rfl
  have hs:u_slices_IndexFunc___api_Entity_api_Entity__l0 (D,(),(D.length:Int),(k:Int),r,())=if idT x=r then some (.inr (.inl ((k:Int),r,()))) else some (.inl (D,(),(D.length:Int),((k+1:Nat):Int),r,())):=by
   unfold u_slices_IndexFunc___api_Entity_api_Entity__l0
   simp only[ltI_eq,addI_eq]
   rw[decide_eq_true (by omega),idxL_nat,hx]
   simp only[cond_true,obS,(cell0 e).1,(cell0 e).2.1,(cell0 e).2.2,T_int,T_str,T_sl,u_entity_Find_1,eqI_eq]
   rw[wr64 (by omega) (by omega)]
   by_cases h:idT x=r
   ·rw[if_pos h,decide_eq_true h];rfl
   ·rw[if_neg h,decide_eq_false h];rfl
  rw[hdr,ec]
  unfold posF
  by_cases h:idT x=r
  ·rw[if_pos h,if_neg (by omega)]
   exact loopU_out (by rw[hs,if_pos h])
  ·rw[if_neg h,loopU_go (by rw[hs,if_neg h])]
   exact find_loop hD r j (k+1) (by omega)
theorem e_Find{D H:List T}(hD:OkD D)(r:Int):∃name args b,u_entity_Find (H,D,r,())=some (name,args,b,())∧u_ref24_Find (H,D,r,())=some (name,args,b,())∧u_ref24_SameRecord (name,args,name,args,())=some (true,()):=by
 unfold u_entity_Find u_ref24_Find u_slices_IndexFunc___api_Entity_api_Entity_
 have h:=find_loop hD r D.length 0 (by omega)
 rw[List.drop_zero] at h
 rw[show ((0:Nat):Int)=0 from rfl] at h
 simp only[lenL_eq,e_place hD,obS,ltI_eq]
 rw[h]
 rcases posF_spec r (ids D) 0 with⟨h1,_⟩ | ⟨n,h0,h1,_⟩
 ·rw[h1]
  exact⟨_,_,_,rfl,rfl,e_SameRecord (by simp) (fun x hx=>by cases hx)⟩
 ·rw[h1,if_neg (by omega),Nat.zero_add]
  have hn:n<D.length:=by
   have:=(List.getElem?_eq_some_iff.1 h0).1
   unfold ids at this
   rwa[List.length_map] at this
  obtain⟨x,hx⟩:∃x,D[n]?=some x:=⟨_,List.getElem?_eq_getElem hn⟩
  obtain⟨name,args,e,ha1,ha2,_⟩:=ent_of hD hx
  simp only[obS,onS_l]
  rw[decide_eq_false (by omega)]
  simp only[cond_false]
  rw[idxL_nat,hx]
  simp only[obS,(cell0 e).2.1,(cell0 e).2.2,T_str,T_sl,e_clone ha1 ha2,e_copyRecord ha1 ha2]
  exact⟨_,_,_,rfl,rfl,e_SameRecord ha1 ha2⟩
end Go.Eng.En
namespace Go.Eng.En
open Go.Eng
def ruT(ks:List T)(lo hi:Int)(ws:List T):T:=.agg [.sl 1 ks,tI lo,tI hi,.sl 1 ws]
abbrev tS0(s:ByteArray):T:=.v (.string s)
abbrev kCP:ByteArray:=ByteArray.mk #[67,65,82,84,69,83,73,65,78,95,80,79,73,78,84]
abbrev kDI:ByteArray:=ByteArray.mk #[68,73,82,69,67,84,73,79,78]
abbrev kPL:ByteArray:=ByteArray.mk #[80,76,65,78,69]
abbrev kPO:ByteArray:=ByteArray.mk #[80,79,76,89,95,76,79,79,80]
abbrev kFO:ByteArray:=ByteArray.mk #[70,65,67,69,95,79,85,84,69,82,95,66,79,85,78,68]
abbrev kFB:ByteArray:=ByteArray.mk #[70,65,67,69,95,66,79,85,78,68]
abbrev kFS:ByteArray:=ByteArray.mk #[70,65,67,69,95,83,85,82,70,65,67,69]
abbrev kCS:ByteArray:=ByteArray.mk #[67,76,79,83,69,68,95,83,72,69,76,76]
abbrev kFA:ByteArray:=ByteArray.mk #[70,65,67,69,84,69,68,95,66,82,69,80]
abbrev kTO:ByteArray:=ByteArray.mk #[84,79,76,69,82,65,78,67,69]
abbrev kT:ByteArray:=ByteArray.mk #[84]
abbrev kF:ByteArray:=ByteArray.mk #[70]
structure Fm where
 c:Int
 ks:List Int
 lo:Nat
 hi:Nat
 ws:List ByteArray
def Fm.T(f:Fm):T:=ruT (f.ks.map tI) f.lo f.hi (f.ws.map tS0)
def m_t:Fm:=⟨116,[3],0,0,[]⟩
def m_i:Fm:=⟨105,[1],0,0,[]⟩
def m_r:Fm:=⟨114,[1,2],0,0,[]⟩
def m_b:Fm:=⟨98,[4],0,0,[kT,kF]⟩
def m_y:Fm:=⟨121,[4],0,0,[kT]⟩
def m_3:Fm:=⟨51,[1,2],3,3,[]⟩
def m_p:Fm:=⟨112,[5],3,1073741824,[kCP]⟩
def m_f:Fm:=⟨102,[5],1,1073741824,[kFO,kFB]⟩
def m_s:Fm:=⟨115,[5],0,1073741824,[kFS]⟩
def m_P:Fm:=⟨80,[5],0,0,[kCP]⟩
def m_D:Fm:=⟨68,[5],0,0,[kDI]⟩
def m_L:Fm:=⟨76,[5],0,0,[kPO]⟩
def m_A:Fm:=⟨65,[5],0,0,[kPL]⟩
def m_S:Fm:=⟨83,[5],0,0,[kCS]⟩
def fms:List Fm:=[m_t,m_i,m_r,m_b,m_y,m_3,m_p,m_f,m_s,m_P,m_D,m_L,m_A,m_S]
def frm:List (List Fm×ByteArray):=[([m_t,m_3],ByteArray.mk #[116,51]),([m_t,m_P,m_D],ByteArray.mk #[116,80,68]),([m_t,m_p],ByteArray.mk #[116,112]),([m_t,m_L,m_b],ByteArray.mk #[116,76,98]),([m_t,m_f,m_A,m_y],ByteArray.mk #[116,102,65,121]),([m_t,m_s],ByteArray.mk #[116,115]),([m_t,m_S],ByteArray.mk #[116,83]),([m_i,m_i,m_r],ByteArray.mk #[105,105,114])]
set_option maxHeartbeats 4000000 in
theorem rules_cases(nm:ByteArray):(u_entity_rulesN (nm,())=some ((),())∧∃s,u_ref24_shape (nm,())=some (s,false,())) ∨
 (u_entity_rulesN (nm,())=none∧∃p∈frm,u_entity_rules (nm,())=some (p.1.map Fm.T,())∧u_ref24_shape (nm,())=some (p.2,true,())):=by
 cases h1:eqS nm kCP with
 | true=>
  refine .inr ⟨?_,_,List.mem_of_getElem? (i:=0) rfl,?_,?_⟩
  ·unfold u_entity_rulesN u_entity_rulesT
   simp only[h1,cond_true,cond_false,obS,onS_l]
   kernel_rfl
  ·unfold u_entity_rules
   simp only[h1,cond_true,cond_false,obS,onS_l]
   kernel_rfl
  ·unfold u_ref24_shape
   simp only[h1,cond_true,cond_false,obS,onS_l]
 | false=>
 cases h2:eqS nm kDI with
 | true=>
  refine .inr ⟨?_,_,List.mem_of_getElem? (i:=0) rfl,?_,?_⟩
  ·unfold u_entity_rulesN u_entity_rulesT
   simp only[h1,h2,cond_true,cond_false,obS,onS_l]
   kernel_rfl
  ·unfold u_entity_rules
   simp only[h1,h2,cond_true,cond_false,obS,onS_l]
   kernel_rfl
  ·unfold u_ref24_shape
   simp only[h1,h2,cond_true,cond_false,obS,onS_l]
 | false=>
 cases h3:eqS nm kPL with
 | true=>
  refine .inr ⟨?_,_,List.mem_of_getElem? (i:=1) rfl,?_,?_⟩
  ·unfold u_entity_rulesN u_entity_rulesT
   simp only[h1,h2,h3,cond_true,cond_false,obS,onS_l]
   kernel_rfl
  ·unfold u_entity_rules
   simp only[h1,h2,h3,cond_true,cond_false,obS,onS_l]
   kernel_rfl
  ·unfold u_ref24_shape
   simp only[h1,h2,h3,cond_true,cond_false,obS,onS_l]
 | false=>
 cases h4:eqS nm kPO with
 | true=>
  refine .inr ⟨?_,_,List.mem_of_getElem? (i:=2) rfl,?_,?_⟩
  ·unfold u_entity_rulesN u_entity_rulesT
   simp only[h1,h2,h3,h4,cond_true,cond_false,obS,onS_l]
   kernel_rfl
  ·unfold u_entity_rules
   simp only[h1,h2,h3,h4,cond_true,cond_false,obS,onS_l]
   kernel_rfl
  ·unfold u_ref24_shape
   simp only[h1,h2,h3,h4,cond_true,cond_false,obS,onS_l]
 | false=>
 cases h5:eqS nm kFO with
 | true=>
  refine .inr ⟨?_,_,List.mem_of_getElem? (i:=3) rfl,?_,?_⟩
  ·unfold u_entity_rulesN u_entity_rulesT
   simp only[h1,h2,h3,h4,h5,cond_true,cond_false,obS,onS_l]
   kernel_rfl
  ·unfold u_entity_rules
   simp only[h1,h2,h3,h4,h5,cond_true,cond_false,obS,onS_l]
   kernel_rfl
  ·unfold u_ref24_shape
   simp only[h1,h2,h3,h4,h5,cond_true,cond_false,obS,onS_l]
 | false=>
 cases h6:eqS nm kFB with
 | true=>
  refine .inr ⟨?_,_,List.mem_of_getElem? (i:=3) rfl,?_,?_⟩
  ·unfold u_entity_rulesN u_entity_rulesT
   simp only[h1,h2,h3,h4,h5,h6,cond_true,cond_false,obS,onS_l]
   kernel_rfl
  ·unfold u_entity_rules
   simp only[h1,h2,h3,h4,h5,h6,cond_true,cond_false,obS,onS_l]
   kernel_rfl
  ·unfold u_ref24_shape
   simp only[h1,h2,h3,h4,h5,h6,cond_true,cond_false,obS,onS_l]
 | false=>
 cases h7:eqS nm kFS with
 | true=>
  refine .inr ⟨?_,_,List.mem_of_getElem? (i:=4) rfl,?_,?_⟩
  ·unfold u_entity_rulesN u_entity_rulesT
   simp only[h1,h2,h3,h4,h5,h6,h7,cond_true,cond_false,obS,onS_l]
   kernel_rfl
  ·unfold u_entity_rules
   simp only[h1,h2,h3,h4,h5,h6,h7,cond_true,cond_false,obS,onS_l]
   kernel_rfl
  ·unfold u_ref24_shape
   simp only[h1,h2,h3,h4,h5,h6,h7,cond_true,cond_false,obS,onS_l]
 | false=>
 cases h8:eqS nm kCS with
 | true=>
  refine .inr ⟨?_,_,List.mem_of_getElem? (i:=5) rfl,?_,?_⟩
  ·unfold u_entity_rulesN u_entity_rulesT
   simp only[h1,h2,h3,h4,h5,h6,h7,h8,cond_true,cond_false,obS,onS_l]
   kernel_rfl
  ·unfold u_entity_rules
   simp only[h1,h2,h3,h4,h5,h6,h7,h8,cond_true,cond_false,obS,onS_l]
   kernel_rfl
  ·unfold u_ref24_shape
   simp only[h1,h2,h3,h4,h5,h6,h7,h8,cond_true,cond_false,obS,onS_l]
 | false=>
 cases h9:eqS nm kFA with
 | true=>
  refine .inr ⟨?_,_,List.mem_of_getElem? (i:=6) rfl,?_,?_⟩
  ·unfold u_entity_rulesN u_entity_rulesT
   simp only[h1,h2,h3,h4,h5,h6,h7,h8,h9,cond_true,cond_false,obS,onS_l]
   kernel_rfl
  ·unfold u_entity_rules
   simp only[h1,h2,h3,h4,h5,h6,h7,h8,h9,cond_true,cond_false,obS,onS_l]
   kernel_rfl
  ·unfold u_ref24_shape
   simp only[h1,h2,h3,h4,h5,h6,h7,h8,h9,cond_true,cond_false,obS,onS_l]
 | false=>
 cases h10:eqS nm kTO with
 | true=>
  refine .inr ⟨?_,_,List.mem_of_getElem? (i:=7) rfl,?_,?_⟩
  ·unfold u_entity_rulesN u_entity_rulesT
   simp only[h1,h2,h3,h4,h5,h6,h7,h8,h9,h10,cond_true,cond_false,obS,onS_l]
   kernel_rfl
  ·unfold u_entity_rules
   simp only[h1,h2,h3,h4,h5,h6,h7,h8,h9,h10,cond_true,cond_false,obS,onS_l]
   kernel_rfl
  ·unfold u_ref24_shape
   simp only[h1,h2,h3,h4,h5,h6,h7,h8,h9,h10,cond_true,cond_false,obS,onS_l]
 | false=>
  refine .inl ⟨?_,ByteArray.mk #[],?_⟩
  ·unfold u_entity_rulesN u_entity_rulesT
   simp only[h1,h2,h3,h4,h5,h6,h7,h8,h9,h10,cond_true,cond_false,obS,onS_l]
   rfl
  ·unfold u_ref24_shape
   simp only[h1,h2,h3,h4,h5,h6,h7,h8,h9,h10,cond_true,cond_false,obS,onS_l]
end Go.Eng.En
namespace Go.Eng.En
open Go.Eng
theorem idx_gen{S E:Type}{F:S→Option (S⊕E)}(n:Nat)(st:Nat→S)(hit:Nat→E)(out:E)(p:Nat→Bool)(h:∀k,k<n→F (st k)=if p k then some (.inr (hit k)) else some (.inl (st (k+1))))(ho:F (st n)=some (.inr out)):
 (loopU F (st 0)=some out∧∀k,k<n→p k=false)∨∃k,k<n∧p k=true∧loopU F (st 0)=some (hit k):=by
 have key:∀j k,k+j=n→(loopU F (st k)=some out∧∀i,k≤i→i<n→p i=false)∨∃i,i<n∧p i=true∧loopU F (st k)=some (hit i):=by
  intro j
  induction j with
  | zero=>intro k hk;rw[show k=n from by omega];exact .inl ⟨loopU_out ho,fun i h1 h2=>by omega⟩
  | succ j ih=>
   intro k hk
   have hs:=h k (by omega)
   cases hp:p k with
   | true=>rw[hp] at hs;exact .inr ⟨k,by omega,hp,loopU_out hs⟩
   | false=>
    rw[hp] at hs
    rw[loopU_go hs]
    rcases ih (k+1) (by omega) with⟨h1,h2⟩ | h1
    ·refine .inl ⟨h1,fun i h3 h4=>?_⟩
     rcases Nat.lt_or_ge k i with h5 | h5
     ·exact h2 i h5 h4
     ·rw[show i=k from by omega];exact hp
    ·exact .inr h1
 rcases key n 0 (Nat.zero_add _) with⟨h1,h2⟩ | h1
 ·exact .inl ⟨h1,fun k hk=>h2 k (Nat.zero_le _) hk⟩
 ·exact .inr h1
theorem any_idx{α:Type}(l:List α)(q:α→Bool)(p:Nat→Bool)(hp:∀k x,l[k]?=some x→p k=q x):((∀k,k<l.length→p k=false)→l.any q=false)∧((∃k,k<l.length∧p k=true)→l.any q=true):=by
 refine⟨fun h=>?_,fun⟨k,hk,h⟩=>?_⟩
 ·rw[List.any_eq_false]
  intro x hx
  obtain⟨k,hk⟩:=List.mem_iff_getElem?.1 hx
  rw[←hp k x hk,h k (List.getElem?_eq_some_iff.1 hk).1]
  decide
 ·rw[List.any_eq_true]
  obtain⟨x,hx⟩:∃x,l[k]?=some x:=⟨_,List.getElem?_eq_getElem hk⟩
  exact⟨x,List.mem_of_getElem? hx,by rw[←hp k x hx];exact h⟩
theorem cont_I(l:List Int)(hl:l.length≤1000)(x:Int):u_slices_Contains___int_int_ (l.map tI,x,())=some (l.any (fun y=>decide (x=y)),()):=by
 unfold u_slices_Contains___int_int_ u_slices_Index___int_int_
 have hg:=idx_gen (F:=u_slices_Index___int_int__l0) l.length (fun k=>(l.map tI,x,(l.length:Int),(k:Int),())) (fun k=>.inl ((k:Int),())) (.inr (.inl ())) (fun k=>decide (some x=l[k]?)) (fun k hk=>by
  obtain⟨y,hy⟩:∃y,l[k]?=some y:=⟨_,List.getElem?_eq_getElem hk⟩
  unfold u_slices_Index___int_int__l0
  simp only[ltI_eq,addI_eq,eqI_eq]
  rw[decide_eq_true (by omega),idxL_nat,List.getElem?_map,hy,wr64 (by omega) (by omega)]
  simp only[cond_true,Option.map_some,obS,T_cell_v,T_int]
  by_cases h:x=y
  ·rw[decide_eq_true h,if_pos (by simp[h])];rfl
  ·rw[decide_eq_false h,if_neg (by simp[h])];rfl) (by
  unfold u_slices_Index___int_int__l0
  simp only[ltI_eq]
  rw[decide_eq_false (by omega)]
  rfl)
 obtain⟨a1,a2⟩:=any_idx l (fun y=>decide (x=y)) (fun k=>decide (some x=l[k]?)) (fun k y hy=>by simp only[hy,Option.some.injEq])
 simp only[lenL_eq,List.length_map]
 rcases hg with⟨h1,h2⟩ | ⟨k,hk,h2,h1⟩
 ·rw[a1 h2]
  rw[show ((0:Nat):Int)=0 from rfl] at h1
  rw[h1]
  simp only[obS,onS_l,onS_r,leI_eq]
  rfl
 ·rw[a2 ⟨k,hk,h2⟩]
  rw[show ((0:Nat):Int)=0 from rfl] at h1
  rw[h1]
  simp only[obS,onS_l,leI_eq]
  rw[decide_eq_true (by omega)]
theorem cont_S(l:List ByteArray)(hl:l.length≤1000)(x:ByteArray):u_slices_Contains___string_string_ (l.map tS0,x,())=some (l.any (fun y=>eqS x y),()):=by
 unfold u_slices_Contains___string_string_ u_slices_Index___string_string_
 have hg:=idx_gen (F:=u_slices_Index___string_string__l0) l.length (fun k=>(l.map tS0,x,(l.length:Int),(k:Int),())) (fun k=>.inl ((k:Int),())) (.inr (.inl ())) (fun k=>((l[k]?).map fun y=>eqS x y).getD false) (fun k hk=>by
  obtain⟨y,hy⟩:∃y,l[k]?=some y:=⟨_,List.getElem?_eq_getElem hk⟩
  unfold u_slices_Index___string_string__l0
  simp only[ltI_eq,addI_eq]
  rw[decide_eq_true (by omega),idxL_nat,List.getElem?_map,hy,wr64 (by omega) (by omega)]
  simp only[cond_true,Option.map_some,obS,T_cell_v,T_str,Option.getD_some]
  by_cases h:eqS x y=true
  ·rw[if_pos h,h];rfl
  ·rw[if_neg h,Bool.eq_false_iff.2 h];rfl) (by
  unfold u_slices_Index___string_string__l0
  simp only[ltI_eq]
  rw[decide_eq_false (by omega)]
  rfl)
 obtain⟨a1,a2⟩:=any_idx l (fun y=>eqS x y) (fun k=>((l[k]?).map fun y=>eqS x y).getD false) (fun k y hy=>by simp only[hy,Option.map_some,Option.getD_some])
 simp only[lenL_eq,List.length_map]
 rcases hg with⟨h1,h2⟩ | ⟨k,hk,h2,h1⟩
 ·rw[a1 h2]
  rw[show ((0:Nat):Int)=0 from rfl] at h1
  rw[h1]
  simp only[obS,onS_l,onS_r,leI_eq]
  rfl
 ·rw[a2 ⟨k,hk,h2⟩]
  rw[show ((0:Nat):Int)=0 from rfl] at h1
  rw[h1]
  simp only[obS,onS_l,leI_eq]
  rw[decide_eq_true (by omega)]
def fit1(f:Fm)(k:Int)(s:ByteArray):Bool:=f.ks.any (fun y=>decide (k=y))&&(!decide (k=4)||f.ws.any (fun y=>eqS s y))
def tx(t:T):ByteArray:=(T.str? (T.cell t 4)).getD ByteArray.empty
def fitT(f:Fm)(t:T):Bool:=fit1 f (kd t) (tx t)
theorem tx_arg{k:Int}{neg:Bool}{num den:List T}{text:ByteArray}{ref:Int}{l:List T}:tx (argT k neg num den text ref l)=text:=by unfold tx;rw[show T.cell (argT k neg num den text ref l) 4=.v (.string text) from rfl,T_str];rfl
def IsA(t:T):Prop:=∃k neg num den text ref l,t=argT k neg num den text ref l
theorem OkA.isA:∀{n:Nat} {t:T},OkA n t→IsA t
 | 0,_,h=>h.elim
 | _+1,_,⟨k,neg,num,den,text,ref,l,e,_⟩=>⟨k,neg,num,den,text,ref,l,e⟩
theorem e_fits(f:Fm)(h1:f.ks.length≤1000)(h2:f.ws.length≤1000)(k:Int)(neg:Bool)(num den:List T)(text:ByteArray)(ref:Int)(l:List T):
 u__entity_rule__fits (f.ks.map tI,(f.lo:Int),(f.hi:Int),f.ws.map tS0,k,neg,num,den,text,ref,l,())=some (fit1 f k text,()):=by
 unfold u__entity_rule__fits fit1
 simp only[cont_I _ h1,cont_S _ h2,obS,eqI_eq]
 cases f.ks.any (fun y=>decide (k=y)) <;> cases decide (k=4) <;> rfl
theorem e_cont(f:Fm)(h1:f.ks.length≤1000)(h2:f.ws.length≤1000)(l:List T)(hl:l.length≤1000)(hA:∀x∈l,IsA x):
 ∃r,u_slices_ContainsFunc___api_Arg_api_Arg_ (l,(),f.ks.map tI,(f.lo:Int),(f.hi:Int),f.ws.map tS0,())=some (l.any (fun x=>!fitT f x),r):=by
 unfold u_slices_ContainsFunc___api_Arg_api_Arg_ u_slices_IndexFunc___api_Arg_api_Arg_
 have hg:=idx_gen (F:=u_slices_IndexFunc___api_Arg_api_Arg__l0) l.length (fun k=>(l,(),(l.length:Int),(k:Int),f.ks.map tI,(f.lo:Int),(f.hi:Int),f.ws.map tS0,())) (fun k=>.inl ((k:Int),f.ks.map tI,(f.lo:Int),(f.hi:Int),f.ws.map tS0,()))
  (.inr (.inl (f.ks.map tI,(f.lo:Int),(f.hi:Int),f.ws.map tS0,()))) (fun k=>((l[k]?).map fun y=>!fitT f y).getD false) (fun k hk=>by
  obtain⟨y,hy⟩:∃y,l[k]?=some y:=⟨_,List.getElem?_eq_getElem hk⟩
  obtain⟨kk,neg,num,den,text,ref,q,rfl⟩:=hA y (List.mem_of_getElem? hy)
  unfold u_slices_IndexFunc___api_Arg_api_Arg__l0
  simp only[ltI_eq,addI_eq]
  rw[decide_eq_true (by omega),idxL_nat,hy,wr64 (by omega) (by omega)]
  simp only[cond_true,obS,show ∀a b c d e f g,T.cell (argT a b c d e f g) 0=tI a from fun _ _ _ _ _ _ _=>rfl,show ∀a b c d e f g,T.cell (argT a b c d e f g) 1=tB b from fun _ _ _ _ _ _ _=>rfl,show ∀a b c d e f g,T.cell (argT a b c d e f g) 2=.sl 1 c from fun _ _ _ _ _ _ _=>rfl,show ∀a b c d e f g,T.cell (argT a b c d e f g) 3=.sl 1 d from fun _ _ _ _ _ _ _=>rfl,show ∀a b c d e f g,T.cell (argT a b c d e f g) 4=.v (.string e) from fun _ _ _ _ _ _ _=>rfl,show ∀a b c d e f g,T.cell (argT a b c d e f g) 5=tI f from fun _ _ _ _ _ _ _=>rfl,show ∀a b c d e f g,T.cell (argT a b c d e f g) 6=.sl 7 g from fun _ _ _ _ _ _ _=>rfl,
   T_int,T_sl,T_bool,T_str,u_entity_typed_1,e_fits f h1 h2,Option.map_some,Option.getD_some]
  have hfe:fitT f (argT kk neg num den text ref q)=fit1 f kk text:=by unfold fitT;rw[kd_arg,tx_arg]
  by_cases h:fit1 f kk text=true
  ·rw[if_neg (by rw[hfe,h];decide),h];rfl
  ·rw[if_pos (by rw[hfe,Bool.eq_false_iff.2 h];rfl),Bool.eq_false_iff.2 h];rfl) (by
  unfold u_slices_IndexFunc___api_Arg_api_Arg__l0
  simp only[ltI_eq]
  rw[decide_eq_false (by omega)]
  rfl)
 obtain⟨a1,a2⟩:=any_idx l (fun y=>!fitT f y) (fun k=>((l[k]?).map fun y=>!fitT f y).getD false) (fun k y hy=>by simp only[hy,Option.map_some,Option.getD_some])
 simp only[lenL_eq]
 rcases hg with⟨h1,h2⟩ | ⟨k,hk,h2,h1⟩
 ·rw[a1 h2]
  rw[show ((0:Nat):Int)=0 from rfl] at h1
  rw[h1]
  simp only[obS,onS_l,onS_r,leI_eq]
  exact⟨_,rfl⟩
 ·rw[a2 ⟨k,hk,h2⟩]
  rw[show ((0:Nat):Int)=0 from rfl] at h1
  rw[h1]
  simp only[obS,onS_l,leI_eq]
  rw[decide_eq_true (by omega)]
  exact⟨_,rfl⟩
def el(f:Fm)(a:T):List T:=if f.hi=0 then [a] else sb a
def okE(f:Fm)(a:T):Bool:=if f.hi=0 then true else decide (kd a=6)&&decide (f.lo≤(sb a).length)&&decide ((sb a).length≤f.hi)
def fitB(f:Fm)(a:T):Bool:=okE f a&&(el f a).all (fitT f)
theorem e_elem(f:Fm)(ks ws:List T)(k:Int)(neg:Bool)(num den:List T)(text:ByteArray)(ref:Int)(l:List T):
 u__entity_rule__elements (ks,(f.lo:Int),(f.hi:Int),ws,k,neg,num,den,text,ref,l,())=some (el f (argT k neg num den text ref l),okE f (argT k neg num den text ref l),()):=by
 unfold u__entity_rule__elements el okE
 simp only[eqI_eq,leI_eq,lenL_eq,kd_arg,sb_arg]
 by_cases h:f.hi=0
 ·rw[decide_eq_true (by omega),if_pos h,if_pos h];rfl
 ·rw[decide_eq_false (by omega),if_neg h,if_neg h]
  by_cases h6:k=6
  ·rw[decide_eq_true h6]
   by_cases h7:f.lo≤l.length
   ·rw[decide_eq_true (show (f.lo:Int)≤(l.length:Int) by omega),decide_eq_true h7]
    simp
   ·rw[decide_eq_false (show ¬(f.lo:Int)≤(l.length:Int) by omega),decide_eq_false h7]
    simp
  ·rw[decide_eq_false h6];simp
theorem e_all(l:List T)(hl:l.length≤1000)(hA:∀x∈l,IsA x)(kk:Int):u_ref24_all (l,kk,())=some (l.all (fun x=>decide (kd x=kk)||(decide (kk=2)&&decide (kd x=1))),()):=by
 unfold u_ref24_all
 have hg:=idx_gen (F:=u_ref24_all_l0) l.length (fun k=>(l,kk,(k:Int),())) (fun k=>.inl (false,())) (.inr (.inl ())) (fun k=>((l[k]?).map fun y=>!(decide (kd y=kk)||(decide (kk=2)&&decide (kd y=1)))).getD false) (fun k hk=>by
  obtain⟨y,hy⟩:∃y,l[k]?=some y:=⟨_,List.getElem?_eq_getElem hk⟩
  obtain⟨k0,neg,num,den,text,ref,q,rfl⟩:=hA y (List.mem_of_getElem? hy)
  unfold u_ref24_all_l0
  simp only[ltI_eq,addI_eq,eqI_eq,lenL_eq]
  rw[decide_eq_true (by omega),idxL_nat,hy,wr64 (by omega) (by omega)]
  simp only[cond_true,obS,show ∀a b c d e f g,T.cell (argT a b c d e f g) 0=tI a from fun _ _ _ _ _ _ _=>rfl,T_int,Option.map_some,Option.getD_some,kd_arg]
  by_cases g1:k0=kk
  ·rw[decide_eq_true g1,if_neg (by simp)];rfl
  ·rw[decide_eq_false g1]
   by_cases g2:kk=2
   ·rw[decide_eq_true g2]
    by_cases g3:k0=1
    ·rw[decide_eq_true g3,if_neg (by simp)];rfl
    ·rw[decide_eq_false g3,if_pos (by simp)];rfl
   ·rw[decide_eq_false g2,if_pos (by simp)];rfl) (by
  unfold u_ref24_all_l0
  simp only[ltI_eq,lenL_eq]
  rw[decide_eq_false (by omega)]
  rfl)
 obtain⟨a1,a2⟩:=any_idx l (fun y=>!(decide (kd y=kk)||(decide (kk=2)&&decide (kd y=1)))) (fun k=>((l[k]?).map fun y=>!(decide (kd y=kk)||(decide (kk=2)&&decide (kd y=1)))).getD false) (fun k y hy=>by simp only[hy,Option.map_some,Option.getD_some])
 have ea:l.all (fun x=>decide (kd x=kk)||(decide (kk=2)&&decide (kd x=1)))=!l.any (fun y=>!(decide (kd y=kk)||(decide (kk=2)&&decide (kd y=1)))):=by
  rw[List.not_any_eq_all_not]
  congr 1
  funext x
  rw[Bool.not_not]
 rw[ea]
 rcases hg with⟨h1,h2⟩ | ⟨k,hk,h2,h1⟩
 ·rw[a1 h2]
  rw[show ((0:Nat):Int)=0 from rfl] at h1
  rw[h1]
  rfl
 ·rw[a2 ⟨k,hk,h2⟩]
  rw[show ((0:Nat):Int)=0 from rfl] at h1
  rw[h1]
  rfl
end Go.Eng.En
namespace Go.Eng.En
open Go.Eng
theorem sub_isA{n:Nat}{k:Int}{neg:Bool}{num den:List T}{text:ByteArray}{ref:Int}{l:List T}(h:OkA (n+1) (argT k neg num den text ref l)):l.length≤4∧(∀x∈l,OkA n x):=by
 obtain⟨k',neg',num',den',text',ref',l',e,h1,h2,_⟩:=h
 simp only[argT,T.agg.injEq,List.cons.injEq,T.sl.injEq] at e
 obtain⟨_,_,_,_,_,_,⟨_,rfl⟩,_⟩:=e
 exact⟨h1,h2⟩
theorem e_rfits(f:Fm)(hf:f∈fms)(k:Int)(neg:Bool)(num den:List T)(text:ByteArray)(ref:Int)(l:List T)(hl:l.length≤4)(hA:∀x∈l,IsA x):
 u_ref24_fits (k,neg,num,den,text,ref,l,f.c,())=some (fitB f (argT k neg num den text ref l),()):=by
 have one:∀kk:Int,u_ref24_all ([(T.agg [(T.v (Value.int IntKind.i64 k)),(T.v (Value.bool neg)),(T.sl 1 num),(T.sl 1 den),(T.v (Value.string text)),(T.v (Value.int IntKind.i64 ref)),(T.sl 7 l)])],kk,())=some (decide (k=kk)||(decide (kk=2)&&decide (k=1)),()):=fun kk=>by
  have h:=e_all [argT k neg num den text ref l] (by simp) (fun x hx=>by rw[List.mem_singleton] at hx;exact⟨k,neg,num,den,text,ref,l,hx⟩) kk
  simp only[List.all_cons,List.all_nil,Bool.and_true,kd_arg] at h
  exact h
 have two:∀kk:Int,u_ref24_all (l,kk,())=_:=e_all l (by omega) hA
 have fl:∀(g:Fm) (q:T→Bool),(∀x∈l,q x=fitT g x)→l.all q=l.all (fitT g):=fun g q h=>by
  rw[Bool.eq_iff_iff,List.all_eq_true,List.all_eq_true]
  exact⟨fun hh x hx=>by rw[←h x hx];exact hh x hx,fun hh x hx=>by rw[h x hx];exact hh x hx⟩
 have f5:∀g:Fm,g.ks=[5]→∀x∈l,(decide (kd x=5)||(decide ((5:Int)=2)&&decide (kd x=1)))=fitT g x:=fun g hg x _=>by
  unfold fitT fit1
  rw[hg]
  by_cases h:kd x=5
  ·simp[h]
  ·simp[h]
 have fr2:∀g:Fm,g.ks=[1,2]→∀x∈l,(decide (kd x=2)||(decide ((2:Int)=2)&&decide (kd x=1)))=fitT g x:=fun g hg x _=>by
  unfold fitT fit1
  rw[hg]
  by_cases h:kd x=1
  ·simp[h]
  ·by_cases h2:kd x=2
   ·simp[h2]
   ·simp[h,h2]
 simp only[fms,List.mem_cons,List.not_mem_nil,or_false] at hf
 rcases hf with rfl | rfl | rfl | rfl | rfl | rfl | rfl | rfl | rfl | rfl | rfl | rfl | rfl | rfl
 ·unfold u_ref24_fits fitB okE el
  simp only[m_t,eqI_eq,one,two,obS,lenL_eq,leI_eq,kd_arg,sb_arg]
  simp[fitT,fit1,kd_arg,tx_arg]
  omega
 ·unfold u_ref24_fits fitB okE el
  simp only[m_i,eqI_eq,one,two,obS,lenL_eq,leI_eq,kd_arg,sb_arg]
  simp[fitT,fit1,kd_arg,tx_arg]
  omega
 ·unfold u_ref24_fits fitB okE el
  simp only[m_r,eqI_eq,one,two,obS,lenL_eq,leI_eq,kd_arg,sb_arg]
  simp[fitT,fit1,kd_arg,tx_arg]
  by_cases h1:k=1
  ·subst h1;simp
  ·by_cases h2:k=2
   ·subst h2;simp
   ·simp[h1,h2]
 ·unfold u_ref24_fits fitB okE el
  simp only[m_b,eqI_eq,one,two,obS,lenL_eq,leI_eq,kd_arg,sb_arg]
  by_cases h4:k=4
  ·subst h4
   simp[fitT,fit1,kd_arg,tx_arg]
   cases eqS text kT <;> rfl
  ·simp[fitT,fit1,kd_arg,tx_arg,h4]
 ·unfold u_ref24_fits fitB okE el
  simp only[m_y,eqI_eq,one,two,obS,lenL_eq,leI_eq,kd_arg,sb_arg]
  by_cases h4:k=4
  ·subst h4
   simp[fitT,fit1,kd_arg,tx_arg]
  ·simp[fitT,fit1,kd_arg,tx_arg,h4]
 ·unfold u_ref24_fits fitB okE el
  rw[two 2,fl m_3 _ (fr2 m_3 rfl)]
  generalize hq:l.all (fitT m_3)=q
  simp only[show m_3.c=51 from rfl,show m_3.hi=3 from rfl,show m_3.lo=3 from rfl,eqI_eq,one,obS,lenL_eq,leI_eq,kd_arg,sb_arg,hq]
  by_cases h6:k=6
  ·subst h6
   by_cases h3:l.length=3
   ·simp[h3,hq]
   ·have h4:¬(3≤l.length∧l.length≤3):=by omega
    have h5:¬((l.length:Int)=3):=by omega
    simp[h3,h5]
    omega
  ·simp[h6]
 ·unfold u_ref24_fits fitB okE el
  rw[two 5,fl m_p _ (f5 m_p rfl)]
  generalize hq:l.all (fitT m_p)=q
  simp only[show m_p.c=112 from rfl,show m_p.hi=1073741824 from rfl,show m_p.lo=3 from rfl,eqI_eq,one,obS,lenL_eq,leI_eq,kd_arg,sb_arg,hq]
  by_cases h6:k=6
  ·subst h6
   have hh:l.length≤1073741824:=by omega
   by_cases h3:3≤l.length
   ·have h5:(3:Int)≤(l.length:Int):=by omega
    simp[h3,h5,hh,hq]
   ·have h5:¬((3:Int)≤(l.length:Int)):=by omega
    simp[h3,h5]
  ·simp[h6]
 ·unfold u_ref24_fits fitB okE el
  rw[two 5,fl m_f _ (f5 m_f rfl)]
  generalize hq:l.all (fitT m_f)=q
  simp only[show m_f.c=102 from rfl,show m_f.hi=1073741824 from rfl,show m_f.lo=1 from rfl,eqI_eq,one,obS,lenL_eq,leI_eq,kd_arg,sb_arg,hq]
  by_cases h6:k=6
  ·subst h6
   have hh:l.length≤1073741824:=by omega
   by_cases h3:1≤l.length
   ·have h5:(1:Int)≤(l.length:Int):=by omega
    simp[h3,h5,hh,hq]
   ·have h5:¬((1:Int)≤(l.length:Int)):=by omega
    simp[h3,h5]
  ·simp[h6]
 ·unfold u_ref24_fits fitB okE el
  rw[two 5,fl m_s _ (f5 m_s rfl)]
  generalize hq:l.all (fitT m_s)=q
  simp only[show m_s.c=115 from rfl,show m_s.hi=1073741824 from rfl,show m_s.lo=0 from rfl,eqI_eq,one,obS,lenL_eq,leI_eq,kd_arg,sb_arg,hq]
  by_cases h6:k=6
  ·subst h6
   have hh:l.length≤1073741824:=by omega
   by_cases h3:0≤l.length
   ·have h5:(0:Int)≤(l.length:Int):=by omega
    simp[h3,h5,hh,hq]
   ·exact absurd (Nat.zero_le _) h3
  ·simp[h6]
 ·unfold u_ref24_fits fitB okE el
  simp only[m_P,eqI_eq,one,two,obS,lenL_eq,leI_eq,kd_arg,sb_arg]
  simp[fitT,fit1,kd_arg,tx_arg]
  omega
 ·unfold u_ref24_fits fitB okE el
  simp only[m_D,eqI_eq,one,two,obS,lenL_eq,leI_eq,kd_arg,sb_arg]
  simp[fitT,fit1,kd_arg,tx_arg]
  omega
 ·unfold u_ref24_fits fitB okE el
  simp only[m_L,eqI_eq,one,two,obS,lenL_eq,leI_eq,kd_arg,sb_arg]
  simp[fitT,fit1,kd_arg,tx_arg]
  omega
 ·unfold u_ref24_fits fitB okE el
  simp only[m_A,eqI_eq,one,two,obS,lenL_eq,leI_eq,kd_arg,sb_arg]
  simp[fitT,fit1,kd_arg,tx_arg]
  omega
 ·unfold u_ref24_fits fitB okE el
  simp only[m_S,eqI_eq,one,two,obS,lenL_eq,leI_eq,kd_arg,sb_arg]
  simp[fitT,fit1,kd_arg,tx_arg]
  omega
end Go.Eng.En
namespace Go.Eng.En
open Go.Eng
theorem refs_flat(m:Nat):∀l:List T,(∀x∈l,kd x≠6)→refs (m+1) l=(l.filter fun x=>decide (kd x=5)).map rf
 | [],_=>rfl
 | x::l,h=>by
  have h6:=h x (by simp)
  have ih:=refs_flat m l fun y hy=>h y (by simp[hy])
  rw[refs_succ] at ih ⊢
  rw[List.flatMap_cons,ih]
  unfold ref1
  by_cases h5:kd x=5
  ·rw[if_pos h5,List.filter_cons_of_pos (by simpa using h5)];rfl
  ·rw[if_neg h5,if_neg h6,List.filter_cons_of_neg (by simpa using h5)];rfl
theorem no6:∀f∈fms,f.ks.any (fun y=>decide ((6:Int)=y))=false:=by decide
theorem fit_no6{f:Fm}(hf:f∈fms){x:T}(h:fitT f x=true):kd x≠6:=fun e=>by
 unfold fitT fit1 at h
 rw[e,no6 f hf] at h
 cases h
theorem refs_fit{f:Fm}(hf:f∈fms){a:T}(h:fitB f a=true):refs 20 [a]=((el f a).filter fun x=>decide (kd x=5)).map rf:=by
 unfold fitB at h
 rw[Bool.and_eq_true,List.all_eq_true] at h
 obtain⟨h1,h2⟩:=h
 unfold okE at h1
 unfold el at h2 ⊢
 by_cases h0:f.hi=0
 ·rw[if_pos h0] at h2 ⊢
  exact refs_flat 19 [a] fun x hx=>fit_no6 hf (h2 x hx)
 ·rw[if_neg h0] at h1 h2 ⊢
  simp only[Bool.and_eq_true,decide_eq_true_eq] at h1
  have e6:refs 20 [a]=refs 19 (sb a):=by
   show refs (19+1) [a]=_
   rw[refs_succ,List.flatMap_cons,List.flatMap_nil,List.append_nil]
   unfold ref1
   rw[if_neg (by rw[h1.1.1];decide),if_pos h1.1.1]
  rw[e6]
  exact refs_flat 18 _ fun x hx=>fit_no6 hf (h2 x hx)
theorem has_cons_pos{k t:T}{l:List T}(h:keyB k (entKey t)=true):mapHas k (t::l)=true:=by
 unfold mapHas;rw[find_cons,if_pos h];rfl
theorem has_cons_neg{k t:T}{l:List T}(h:keyB k (entKey t)=false):mapHas k (t::l)=mapHas k l:=by
 unfold mapHas;rw[find_cons,if_neg (by simp[h])]
 cases mapFind k l <;> rfl
theorem has_nil(k:T):mapHas k []=false:=by unfold mapHas;rfl
theorem has_put(i j:Int)(v:T):∀M:List T,mapHas (tI i) (mapPut (tI j) v M)=(decide (i=j)||mapHas (tI i) M)
 | []=>by
  rw[put_nil,has_nil]
  by_cases h:i=j
  ·rw[decide_eq_true h,has_cons_pos (by show keyB (tI i) (tI j)=true;rw[key_int];simp[h])];rfl
  ·rw[decide_eq_false h,has_cons_neg (by show keyB (tI i) (tI j)=false;rw[key_int];simp[h]),has_nil];rfl
 | t::M=>by
  cases hj:keyB (tI j) (entKey t) with
  | true=>
   rw[put_cons_pos hj]
   by_cases h:i=j
   ·rw[decide_eq_true h,has_cons_pos (by show keyB (tI i) (tI j)=true;rw[key_int];simp[h])];rfl
   ·rw[decide_eq_false h,has_cons_neg (by show keyB (tI i) (tI j)=false;rw[key_int];simp[h])]
    cases hi:keyB (tI i) (entKey t) with
    | true=>exact absurd (key_same hi hj) h
    | false=>rw[has_cons_neg hi];rfl
  | false=>
   rw[put_cons_neg hj]
   cases hi:keyB (tI i) (entKey t) with
   | true=>rw[has_cons_pos hi,has_cons_pos hi,Bool.or_true]
   | false=>rw[has_cons_neg hi,has_cons_neg hi,has_put i j v M]
def nmT(t:T):ByteArray:=(T.str? (T.cell t 1)).getD ByteArray.empty
def nmF(r:Int):List T→ByteArray
 | []=>ByteArray.mk #[]
 | x::l=>if r=idT x then nmT x else nmF r l
theorem words_has:∀D:List T,(∀x∈D,OkE x)→∃m,wordsL D=some m∧∀r,mapHas (tI r) m=decide (r∈ids D)∧mapGetD (tI r) m (tS0 (ByteArray.mk #[]))=tS0 (nmF r D)
 | [],_=>⟨[],rfl,fun r=>⟨by rw[has_nil];simp[ids],get_nil _ _⟩⟩
 | x::l,h=>by
  obtain⟨m,hm,ih⟩:=words_has l fun y hy=>h y (by simp[hy])
  obtain⟨id,name,args,e,_⟩:=h x (by simp)
  have hid:idT x=id:=by rw[e,id_ent]
  have hnm:nmT x=name:=by unfold nmT;rw[e,show T.cell (entT id name args) 1=tS0 name from rfl,T_str];rfl
  refine⟨mapPut (tI id) (tS0 name) m,?_,fun r=>⟨?_,?_⟩⟩
  ·simp only[wordsL]
   rw[hm]
   simp only[obS,show T.cell x 0=tI id from by rw[e];rfl,show T.cell x 1=tS0 name from by rw[e];rfl,T_int,T_str]
  ·rw[has_put,(ih r).1]
   unfold ids
   rw[List.map_cons,hid]
   by_cases h1:r=id <;> simp[h1]
  ·rw[get_put,(ih r).2]
   rw[show nmF r (x::l)=if r=idT x then nmT x else nmF r l from rfl,hid,hnm]
   by_cases h1:r=id
   ·rw[if_pos h1,if_pos h1]
   ·rw[if_neg h1,if_neg h1]
theorem nmF_pos(r:Int):∀(D:List T) (k:Nat),r∈ids D→∃n x,D[n]?=some x∧posF r (ids D) k=((k+n:Nat):Int)∧nmF r D=nmT x
 | [],_,h=>by simp[ids] at h
 | x::l,k,h=>by
  show ∃n y,(x::l)[n]?=some y∧posF r (idT x::ids l) k=_∧_
  unfold posF nmF
  by_cases h1:idT x=r
  ·rw[if_pos h1,if_pos h1.symm]
   exact⟨0,x,rfl,rfl,rfl⟩
  ·rw[if_neg h1,if_neg (Ne.symm h1)]
   have h':r∈ids l:=by
    have:r∈idT x::ids l:=h
    rcases List.mem_cons.1 this with e | h'
    ·exact absurd e.symm h1
    ·exact h'
   obtain⟨n,y,g1,g2,g3⟩:=nmF_pos r l (k+1) h'
   exact⟨n+1,y,g1,by rw[g2];congr 1;omega,g3⟩
theorem e_target(f:Fm)(hf:f∈fms)(h5:f.ks=[5])(s:ByteArray):u_ref24_target (f.c,s,())=some (f.ws.any (fun y=>eqS s y),()):=by
 simp only[fms,List.mem_cons,List.not_mem_nil,or_false] at hf
 rcases hf with rfl | rfl | rfl | rfl | rfl | rfl | rfl | rfl | rfl | rfl | rfl | rfl | rfl | rfl
 all_goals first
  | (cases h5;done)
  | (unfold u_ref24_target
     simp[m_p,m_f,m_s,m_P,m_D,m_L,m_A,m_S,eqI_eq]
     done)
  | (unfold u_ref24_target
     simp[m_p,m_f,m_s,m_P,m_D,m_L,m_A,m_S,eqI_eq]
     cases eqS s kFO <;> rfl)
end Go.Eng.En
namespace Go.Eng.En
open Go.Eng
def pB(fs:List Fm)(args:List T)(k:Nat):Bool:=match fs[k]?,args[k]? with
 | some f,some a=>!fitB f a
 | _,_=>false
def badR(D:List T)(f:Fm)(r:Int):Bool:=!decide (r∈ids D)||!f.ws.any (fun y=>eqS (nmF r D) y)
def pR(D:List T)(fs:List Fm)(args:List T)(k:Nat):Bool:=match fs[k]?,args[k]? with
 | some f,some a=>(refs 20 [a]).any (badR D f)
 | _,_=>false
theorem fm_cells(f:Fm):T.cell f.T 0=.sl 1 (f.ks.map tI)∧T.cell f.T 1=tI f.lo∧T.cell f.T 2=tI f.hi∧T.cell f.T 3=.sl 1 (f.ws.map tS0):=⟨rfl,rfl,rfl,rfl⟩
theorem fm_len:∀f∈fms,f.ks.length≤1000∧f.ws.length≤1000:=by decide
theorem pB_eq{fs:List Fm}{args:List T}{k:Nat}{f:Fm}{a:T}(hf:fs[k]?=some f)(ha:args[k]?=some a):pB fs args k=!fitB f a:=by unfold pB;rw[hf,ha]
theorem pR_eq{D:List T}{fs:List Fm}{args:List T}{k:Nat}{f:Fm}{a:T}(hf:fs[k]?=some f)(ha:args[k]?=some a):pR D fs args k=(refs 20 [a]).any (badR D f):=by unfold pR;rw[hf,ha]
theorem el_isA{n:Nat}{f:Fm}{a:T}(h:OkA n a):(el f a).length≤1000∧∀x∈el f a,IsA x:=by
 unfold el
 by_cases h0:f.hi=0
 ·rw[if_pos h0]
  exact⟨by simp,fun x hx=>by rw[List.mem_singleton] at hx;rw[hx];exact h.isA⟩
 ·rw[if_neg h0]
  cases n with
  | zero=>exact h.elim
  | succ n=>
   obtain⟨k,neg,num,den,text,ref,l,rfl,h1,h2,_⟩:=h
   rw[sb_arg]
   exact⟨by omega,fun x hx=>(h2 x hx).isA⟩
set_option maxHeartbeats 4000000 in
theorem ent_l0{fs:List Fm}{args m:List T}{name:ByteArray}(hf:∀f∈fs,f∈fms)(hl:fs.length≤100)(hn:args.length=fs.length)(hA:∀x∈args,OkA 8 x):
 (loopU u_entity_typed_l0 (m,(),fs.map Fm.T,fs.map Fm.T,(fs.length:Int),(0:Int),name,args,())=some (.inr (.inl (m,(),fs.map Fm.T,name,args,())))∧∀k,k<fs.length→pB fs args k=false) ∨
  ∃k,k<fs.length∧pB fs args k=true∧loopU u_entity_typed_l0 (m,(),fs.map Fm.T,fs.map Fm.T,(fs.length:Int),(0:Int),name,args,())=some (.inl ((36:Int),())):=by
 refine idx_gen (F:=u_entity_typed_l0) fs.length (fun k=>(m,(),fs.map Fm.T,fs.map Fm.T,(fs.length:Int),(k:Int),name,args,())) (fun _=>.inl ((36:Int),())) (.inr (.inl (m,(),fs.map Fm.T,name,args,()))) (pB fs args) (fun k hk=>?_) ?_
 ·obtain⟨f,hfk⟩:∃f,fs[k]?=some f:=⟨_,List.getElem?_eq_getElem hk⟩
  obtain⟨a,hak⟩:∃a,args[k]?=some a:=⟨_,List.getElem?_eq_getElem (by omega)⟩
  have hfm:=hf f (List.mem_of_getElem? hfk)
  obtain⟨g1,g2⟩:=fm_len f hfm
  have hao:=hA a (List.mem_of_getElem? hak)
  obtain⟨q1,q2⟩:=el_isA (f:=f) hao
  obtain⟨r,hr⟩:=e_cont f g1 g2 (el f a) q1 q2
  obtain⟨c0,c1,c2,c3⟩:=fm_cells f
  have hp:=pB_eq hfk hak
  obtain⟨kk,neg,num,den,text,ref,q,rfl⟩:=hao.isA
  unfold u_entity_typed_l0
  simp only[ltI_eq,addI_eq]
  rw[decide_eq_true (by omega),idxL_nat,idxL_nat,List.getElem?_map,hfk,hak,wr64 (by omega) (by omega)]
  simp only[cond_true,Option.map_some,obS,c0,c1,c2,c3,show ∀a b c d e f g,T.cell (argT a b c d e f g) 0=tI a from fun _ _ _ _ _ _ _=>rfl,show ∀a b c d e f g,T.cell (argT a b c d e f g) 1=tB b from fun _ _ _ _ _ _ _=>rfl,show ∀a b c d e f g,T.cell (argT a b c d e f g) 2=.sl 1 c from fun _ _ _ _ _ _ _=>rfl,show ∀a b c d e f g,T.cell (argT a b c d e f g) 3=.sl 1 d from fun _ _ _ _ _ _ _=>rfl,show ∀a b c d e f g,T.cell (argT a b c d e f g) 4=.v (.string e) from fun _ _ _ _ _ _ _=>rfl,show ∀a b c d e f g,T.cell (argT a b c d e f g) 5=tI f from fun _ _ _ _ _ _ _=>rfl,show ∀a b c d e f g,T.cell (argT a b c d e f g) 6=.sl 7 g from fun _ _ _ _ _ _ _=>rfl,
   T_int,T_sl,T_bool,T_str,e_elem,hr]
  have hfb:fitB f (argT kk neg num den text ref q)=(okE f (argT kk neg num den text ref q)&&!(el f (argT kk neg num den text ref q)).any (fun x=>!fitT f x)):=by
   unfold fitB
   congr 1
   rw[List.not_any_eq_all_not]
   congr 1
   funext x
   rw[Bool.not_not]
  rw[hfb] at hp
  cases ho:okE f (argT kk neg num den text ref q) with
  | false=>
   rw[ho] at hp
   rw[if_pos (by rw[hp];rfl)]
   rfl
  | true=>
   rw[ho] at hp
   cases ha:(el f (argT kk neg num den text ref q)).any (fun x=>!fitT f x) with
   | true=>rw[ha] at hp;rw[if_pos (by rw[hp];rfl)];rfl
   | false=>rw[ha] at hp;rw[if_neg (by rw[hp];decide)];rfl
 ·unfold u_entity_typed_l0
  simp only[ltI_eq]
  rw[decide_eq_false (by omega)]
  rfl
set_option maxHeartbeats 4000000 in
theorem ref_l0{fs:List Fm}{F:ByteArray}{args H D:List T}{name:ByteArray}(hf:∀f∈fs,f∈fms)(hl:fs.length≤100)(hF:lenS F=(fs.length:Int))(hI:∀(k:Nat) f,fs[k]?=some f→idxS F (k:Int)=some f.c)(hn:args.length=fs.length)(hA:∀x∈args,OkA 8 x):
 (loopU u_ref24_typed_l0 ((),(),F,(0:Int),H,D,name,args,())=some (.inr (.inl ((),(),F,H,D,name,args,()))) ∧∀k,k<fs.length→pB fs args k=false) ∨
  ∃k,k<fs.length∧pB fs args k=true∧loopU u_ref24_typed_l0 ((),(),F,(0:Int),H,D,name,args,())=some (.inl ((36:Int),())):=by
 refine idx_gen (F:=u_ref24_typed_l0) fs.length (fun k=>((),(),F,(k:Int),H,D,name,args,())) (fun _=>.inl ((36:Int),())) (.inr (.inl ((),(),F,H,D,name,args,()))) (pB fs args) (fun k hk=>?_) ?_
 ·obtain⟨f,hfk⟩:∃f,fs[k]?=some f:=⟨_,List.getElem?_eq_getElem hk⟩
  obtain⟨a,hak⟩:∃a,args[k]?=some a:=⟨_,List.getElem?_eq_getElem (by omega)⟩
  have hfm:=hf f (List.mem_of_getElem? hfk)
  have hao:=hA a (List.mem_of_getElem? hak)
  have hp:=pB_eq hfk hak
  obtain⟨kk,neg,num,den,text,ref,q,rfl⟩:=hao.isA
  obtain⟨s1,s2⟩:=sub_isA hao
  have hrf:=e_rfits f hfm kk neg num den text ref q s1 fun x hx=>(s2 x hx).isA
  unfold u_ref24_typed_l0
  simp only[ltI_eq,addI_eq,hF]
  rw[decide_eq_true (by omega),idxL_nat,hak,hI k f hfk,wr64 (by omega) (by omega)]
  simp only[cond_true,obS,show ∀a b c d e f g,T.cell (argT a b c d e f g) 0=tI a from fun _ _ _ _ _ _ _=>rfl,show ∀a b c d e f g,T.cell (argT a b c d e f g) 1=tB b from fun _ _ _ _ _ _ _=>rfl,show ∀a b c d e f g,T.cell (argT a b c d e f g) 2=.sl 1 c from fun _ _ _ _ _ _ _=>rfl,show ∀a b c d e f g,T.cell (argT a b c d e f g) 3=.sl 1 d from fun _ _ _ _ _ _ _=>rfl,show ∀a b c d e f g,T.cell (argT a b c d e f g) 4=.v (.string e) from fun _ _ _ _ _ _ _=>rfl,show ∀a b c d e f g,T.cell (argT a b c d e f g) 5=tI f from fun _ _ _ _ _ _ _=>rfl,show ∀a b c d e f g,T.cell (argT a b c d e f g) 6=.sl 7 g from fun _ _ _ _ _ _ _=>rfl,
   T_int,T_sl,T_bool,T_str,hrf]
  cases hb:fitB f (argT kk neg num den text ref q) with
  | false=>rw[hb] at hp;rw[if_pos (by rw[hp];rfl)];rfl
  | true=>rw[hb] at hp;rw[if_neg (by rw[hp];decide)];rfl
 ·unfold u_ref24_typed_l0
  simp only[ltI_eq,hF]
  rw[decide_eq_false (by omega)]
  rfl
theorem any_fr(l:List T)(q:Int→Bool):((l.filter fun x=>decide (kd x=5)).map rf).any q=l.any fun x=>decide (kd x=5)&&q (rf x):=by
 rw[List.any_map,List.any_filter];rfl
def WD(D m:List T):Prop:=∀r,mapHas (tI r) m=decide (r∈ids D)∧mapGetD (tI r) m (tS0 (ByteArray.mk #[]))=tS0 (nmF r D)
set_option maxHeartbeats 4000000 in
theorem ent_l2{f:Fm}{D R l m args:List T}{name:ByteArray}{n i:Int}{c0 c1 c2:T}(hm:WD D m)(hw:f.ws.length≤1000)(hl:l.length≤1000)(hA:∀x∈l,IsA x):
 loopU u_entity_typed_l2 (m,(),(),R,n,i,l,(l.length:Int),(0:Int),name,args,c0,c1,c2,.sl 1 (f.ws.map tS0),())=some (if l.any (fun x=>decide (kd x=5)&&badR D f (rf x)) then .inl ((35:Int),()) else .inr (.inl (m,(),R,n,i,name,args,()))):=by
 have hg:=idx_gen (F:=u_entity_typed_l2) l.length (fun k=>(m,(),(),R,n,i,l,(l.length:Int),(k:Int),name,args,c0,c1,c2,.sl 1 (f.ws.map tS0),())) (fun _=>.inl ((35:Int),())) (.inr (.inl (m,(),R,n,i,name,args,()))) (fun k=>((l[k]?).map fun x=>decide (kd x=5)&&badR D f (rf x)).getD false) (fun k hk=>by
  obtain⟨y,hy⟩:∃y,l[k]?=some y:=⟨_,List.getElem?_eq_getElem hk⟩
  obtain⟨kk,neg,num,den,text,ref,q,rfl⟩:=hA y (List.mem_of_getElem? hy)
  have hp:((some (argT kk neg num den text ref q)).map fun x=>decide (kd x=5)&&badR D f (rf x)).getD false=(decide (kk=5)&&(!decide (ref∈ids D)||!f.ws.any (fun y=>eqS (nmF ref D) y))):=by
   show (decide (kd (argT kk neg num den text ref q)=5)&&badR D f (rf (argT kk neg num den text ref q)))=_
   rw[kd_arg,rf_arg]
   rfl
  obtain⟨w1,w2⟩:=hm ref
  unfold u_entity_typed_l2
  simp only[ltI_eq,addI_eq]
  rw[decide_eq_true (by omega),idxL_nat,hy,wr64 (by omega) (by omega)]
  simp only[cond_true,obS,show ∀a b c d e f g,T.cell (argT a b c d e f g) 0=tI a from fun _ _ _ _ _ _ _=>rfl,show ∀a b c d e f g,T.cell (argT a b c d e f g) 5=tI f from fun _ _ _ _ _ _ _=>rfl,T_int,T_sl,eqI_eq]
  rw[show mapGetD (T.v (Value.int IntKind.i64 ref)) m (T.v (Value.string (ByteArray.mk #[])))=tS0 (nmF ref D) from w2,show mapHas (T.v (Value.int IntKind.i64 ref)) m=decide (ref∈ids D) from w1]
  simp only[show T.one? (tS0 (nmF ref D))=some (tS0 (nmF ref D)) from rfl,obS,T_str,cont_S _ hw]
  by_cases h5:kk=5
  ·rw[decide_eq_true h5] at hp ⊢
   by_cases hd:ref∈ids D
   ·rw[decide_eq_true hd] at hp ⊢
    cases ha:f.ws.any (fun y=>eqS (nmF ref D) y) with
    | true=>rw[ha] at hp;rw[if_neg (fun hh=>absurd (hp.symm.trans hh) (by decide))];rfl
    | false=>rw[ha] at hp;rw[if_pos (hp.trans (by rfl:_=true))];rfl
   ·rw[decide_eq_false hd] at hp ⊢
    rw[if_pos (hp.trans (by rfl:_=true))];rfl
  ·rw[decide_eq_false h5] at hp ⊢
   rw[if_neg (fun hh=>absurd (hp.symm.trans hh) (by simp))];rfl) (by
  unfold u_entity_typed_l2
  simp only[ltI_eq]
  rw[decide_eq_false (by omega)]
  rfl)
 obtain⟨a1,a2⟩:=any_idx l (fun x=>decide (kd x=5)&&badR D f (rf x)) (fun k=>((l[k]?).map fun x=>decide (kd x=5)&&badR D f (rf x)).getD false) (fun k y hy=>by simp only[hy,Option.map_some,Option.getD_some])
 rcases hg with⟨h1,h2⟩ | ⟨k,hk,h2,h1⟩
 ·rw[a1 h2];exact h1
 ·rw[a2 ⟨k,hk,h2⟩];exact h1
end Go.Eng.En
namespace Go.Eng.En
open Go.Eng
theorem five:∀f∈fms,f.ks.any (fun y=>decide ((5:Int)=y))=true→f.ks=[5]:=by decide
theorem ks5{f:Fm}(hf:f∈fms){a:T}(h:fitB f a=true){r:Int}(hr:r∈refs 20 [a]):f.ks=[5]:=by
 rw[refs_fit hf h] at hr
 obtain⟨x,hx,_⟩:=List.mem_map.1 hr
 rw[List.mem_filter] at hx
 have h5:kd x=5:=by simpa using hx.2
 unfold fitB at h
 rw[Bool.and_eq_true,List.all_eq_true] at h
 have hft:=h.2 x hx.1
 unfold fitT fit1 at hft
 rw[h5,Bool.and_eq_true] at hft
 exact five f hf hft.1
theorem str_ent{D:List T}(hD:OkD D){n:Nat}{x:T}(hx:D[n]?=some x):T.str? (T.cell x 1)=some (nmT x):=by
 obtain⟨name,args,e,_⟩:=ent_of hD hx
 unfold nmT
 rw[(cell0 e).2.1,T_str];rfl
set_option maxHeartbeats 4000000 in
theorem ref_l2{f:Fm}{F:ByteArray}{H D args:List T}{l:List Int}{name:ByteArray}{i:Int}(hD:OkD D)(hf:f∈fms)(h5:∀r∈l,f.ks=[5])(hI:idxS F i=some f.c)(hl:l.length≤524288):
 loopU u_ref24_typed_l2 ((),(),F,i,l.map tI,(0:Int),H,D,name,args,())=some (if l.any (badR D f) then .inl ((35:Int),()) else .inr (.inl ((),(),F,i,H,D,name,args,()))):=by
 have hg:=idx_gen (F:=u_ref24_typed_l2) l.length (fun k=>((),(),F,i,l.map tI,(k:Int),H,D,name,args,())) (fun _=>.inl ((35:Int),())) (.inr (.inl ((),(),F,i,H,D,name,args,())) ) (fun k=>((l[k]?).map (badR D f)).getD false) (fun k hk=>by
  obtain⟨r,hr⟩:∃r,l[k]?=some r:=⟨_,List.getElem?_eq_getElem hk⟩
  have hk5:=h5 r (List.mem_of_getElem? hr)
  have hp:(some (badR D f r)).getD false=(!decide (r∈ids D)||!f.ws.any (fun y=>eqS (nmF r D) y)):=rfl
  unfold u_ref24_typed_l2
  simp only[ltI_eq,addI_eq,lenL_eq,List.length_map]
  rw[decide_eq_true (by omega),idxL_nat,List.getElem?_map,hr,wr64 (by omega) (by omega)]
  simp only[cond_true,Option.map_some,obS,T_cell_v,T_int,e_place hD]
  by_cases hd:r∈ids D
  ·rw[decide_eq_true hd] at hp
   obtain⟨n,x,g1,g2,g3⟩:=nmF_pos r D 0 hd
   rw[Nat.zero_add] at g2
   rw[g2,decide_eq_false (by omega)]
   simp only[cond_false,hI,obS]
   rw[idxL_nat,g1]
   simp only[obS,str_ent hD g1,e_target f hf hk5]
   rw[g3] at hp
   cases ha:f.ws.any (fun y=>eqS (nmT x) y) with
   | true=>rw[ha] at hp;rw[if_neg (fun hh=>absurd (hp.symm.trans hh) (by decide))];rfl
   | false=>rw[ha] at hp;rw[if_pos (hp.trans (by rfl:_=true))];rfl
  ·rw[decide_eq_false hd] at hp
   rw[decide_eq_true (posF_neg.2 hd),if_pos (hp.trans (by simp))];rfl) (by
  unfold u_ref24_typed_l2
  simp only[ltI_eq,lenL_eq,List.length_map]
  rw[decide_eq_false (by omega)]
  rfl)
 obtain⟨a1,a2⟩:=any_idx l (badR D f) (fun k=>((l[k]?).map (badR D f)).getD false) (fun k y hy=>by simp only[hy,Option.map_some,Option.getD_some])
 rcases hg with⟨h1,h2⟩ | ⟨k,hk,h2,h1⟩
 ·rw[a1 h2];exact h1
 ·rw[a2 ⟨k,hk,h2⟩];exact h1
theorem refs_len1{a:T}(h:OkA 8 a):(refs 20 [a]).length≤524288:=by
 have:=refs_len 20 8 [a] fun x hx=>by rw[List.mem_singleton] at hx;exact hx▸h
 exact Nat.le_trans this (show 1*4 ^ 8≤524288 by decide)
set_option maxHeartbeats 4000000 in
theorem ent_l1{fs:List Fm}{args D m:List T}{name:ByteArray}(hm:WD D m)(hf:∀f∈fs,f∈fms)(hl:fs.length≤100)(hn:args.length=fs.length)(hA:∀x∈args,OkA 8 x)(hB:∀k,k<fs.length→pB fs args k=false):
 (loopU u_entity_typed_l1 (m,(),fs.map Fm.T,(fs.length:Int),(0:Int),name,args,())=some (.inr (.inl ()))∧∀k,k<fs.length→pR D fs args k=false) ∨
  ∃k,k<fs.length∧pR D fs args k=true∧loopU u_entity_typed_l1 (m,(),fs.map Fm.T,(fs.length:Int),(0:Int),name,args,())=some (.inl ((35:Int),())):=by
 refine idx_gen (F:=u_entity_typed_l1) fs.length (fun k=>(m,(),fs.map Fm.T,(fs.length:Int),(k:Int),name,args,())) (fun _=>.inl ((35:Int),())) (.inr (.inl ())) (pR D fs args) (fun k hk=>?_) ?_
 ·obtain⟨f,hfk⟩:∃f,fs[k]?=some f:=⟨_,List.getElem?_eq_getElem hk⟩
  obtain⟨a,hak⟩:∃a,args[k]?=some a:=⟨_,List.getElem?_eq_getElem (by omega)⟩
  have hfm:=hf f (List.mem_of_getElem? hfk)
  obtain⟨g1,g2⟩:=fm_len f hfm
  have hao:=hA a (List.mem_of_getElem? hak)
  obtain⟨q1,q2⟩:=el_isA (f:=f) hao
  obtain⟨c0,c1,c2,c3⟩:=fm_cells f
  have hfit:fitB f a=true:=by
   have:=hB k hk
   rw[pB_eq hfk hak] at this
   simpa using this
  have hp:=pR_eq (D:=D) hfk hak
  rw[refs_fit hfm hfit,any_fr] at hp
  have h2:=ent_l2 (f:=f) (D:=D) (R:=fs.map Fm.T) (l:=el f a) (args:=args) (name:=name) (n:=(fs.length:Int)) (i:=(k:Int)) (c0:=.sl 1 (f.ks.map tI)) (c1:=tI f.lo) (c2:=tI f.hi) hm g2 q1 q2
  obtain⟨kk,neg,num,den,text,ref,q,rfl⟩:=hao.isA
  unfold u_entity_typed_l1
  simp only[ltI_eq,addI_eq]
  rw[decide_eq_true (by omega),idxL_nat,idxL_nat,List.getElem?_map,hfk,hak]
  simp only[cond_true,Option.map_some,obS,c0,c1,c2,c3,show ∀a b c d e f g,T.cell (argT a b c d e f g) 0=tI a from fun _ _ _ _ _ _ _=>rfl,show ∀a b c d e f g,T.cell (argT a b c d e f g) 1=tB b from fun _ _ _ _ _ _ _=>rfl,show ∀a b c d e f g,T.cell (argT a b c d e f g) 2=.sl 1 c from fun _ _ _ _ _ _ _=>rfl,show ∀a b c d e f g,T.cell (argT a b c d e f g) 3=.sl 1 d from fun _ _ _ _ _ _ _=>rfl,show ∀a b c d e f g,T.cell (argT a b c d e f g) 4=.v (.string e) from fun _ _ _ _ _ _ _=>rfl,show ∀a b c d e f g,T.cell (argT a b c d e f g) 5=tI f from fun _ _ _ _ _ _ _=>rfl,show ∀a b c d e f g,T.cell (argT a b c d e f g) 6=.sl 7 g from fun _ _ _ _ _ _ _=>rfl,
   T_int,T_sl,T_bool,T_str,e_elem,lenL_eq,h2]
  have hw:wr .i64 ((k:Int)+1)=((k+1:Nat):Int):=by rw[wr64 (by omega) (by omega)];rfl
  cases hb:(el f (argT kk neg num den text ref q)).any (fun x=>decide (kd x=5)&&badR D f (rf x)) with
  | true=>rw[hb] at hp;rw[if_pos rfl,if_pos hp];rfl
  | false=>
   rw[hb] at hp
   rw[if_neg (by decide),if_neg (by rw[hp];decide)]
   simp only[onS_r,onS_l,hw]
 ·unfold u_entity_typed_l1
  simp only[ltI_eq]
  rw[decide_eq_false (by omega)]
  rfl
set_option maxHeartbeats 4000000 in
theorem ref_l1{fs:List Fm}{F:ByteArray}{args H D:List T}{name:ByteArray}(hD:OkD D)(hf:∀f∈fs,f∈fms)(hl:fs.length≤100)(hF:lenS F=(fs.length:Int))(hI:∀(k:Nat) f,fs[k]?=some f→idxS F (k:Int)=some f.c)(hn:args.length=fs.length)(hA:∀x∈args,OkA 8 x)(hB:∀k,k<fs.length→pB fs args k=false):
 (loopU u_ref24_typed_l1 ((),(),F,(0:Int),H,D,name,args,())=some (.inr (.inl ()))∧∀k,k<fs.length→pR D fs args k=false) ∨
  ∃k,k<fs.length∧pR D fs args k=true∧loopU u_ref24_typed_l1 ((),(),F,(0:Int),H,D,name,args,())=some (.inl ((35:Int),())):=by
 refine idx_gen (F:=u_ref24_typed_l1) fs.length (fun k=>((),(),F,(k:Int),H,D,name,args,())) (fun _=>.inl ((35:Int),())) (.inr (.inl ())) (pR D fs args) (fun k hk=>?_) ?_
 ·obtain⟨f,hfk⟩:∃f,fs[k]?=some f:=⟨_,List.getElem?_eq_getElem hk⟩
  obtain⟨a,hak⟩:∃a,args[k]?=some a:=⟨_,List.getElem?_eq_getElem (by omega)⟩
  have hfm:=hf f (List.mem_of_getElem? hfk)
  have hao:=hA a (List.mem_of_getElem? hak)
  have hfit:fitB f a=true:=by
   have:=hB k hk
   rw[pB_eq hfk hak] at this
   simpa using this
  have hp:=pR_eq (D:=D) hfk hak
  have hw:wr .i64 ((k:Int)+1)=((k+1:Nat):Int):=by rw[wr64 (by omega) (by omega)];rfl
  have hcut:cutL args (k:Int) ((k+1:Nat):Int)=some [a]:=by
   unfold cutL
   rw[if_pos ⟨by omega,by omega,by omega,by omega⟩,Int.toNat_natCast,Int.toNat_natCast,List.take_add_one,hak]
   rw[List.drop_append,List.drop_of_length_le (by rw[List.length_take];omega),List.length_take,Nat.min_eq_left (by omega),Nat.sub_self]
   rfl
  have hre:u_ref24_Refs ([a],())=some ((refs 20 [a]).map tI,()):=e_Refs (by simp) fun x hx=>by rw[List.mem_singleton] at hx;exact hx▸hao
  have h2:=ref_l2 (f:=f) (F:=F) (H:=H) (D:=D) (args:=args) (l:=refs 20 [a]) (name:=name) (i:=(k:Int)) hD hfm (fun r hr=>ks5 hfm hfit hr) (hI k f hfk) (refs_len1 hao)
  unfold u_ref24_typed_l1
  simp only[ltI_eq,addI_eq,hF]
  rw[decide_eq_true (by omega),hw,hcut]
  simp only[cond_true,obS,hre,h2]
  cases hb:(refs 20 [a]).any (badR D f) with
  | true=>rw[hb] at hp;rw[if_pos rfl,if_pos hp];rfl
  | false=>
   rw[hb] at hp
   rw[if_neg (by decide),if_neg (by rw[hp];decide)]
   simp only[onS_r,onS_l,hw]
 ·unfold u_ref24_typed_l1
  simp only[ltI_eq,hF]
  rw[decide_eq_false (by omega)]
  rfl
end Go.Eng.En
namespace Go.Eng.En
open Go.Eng
theorem dT_cell(x:Int×Int):T.cell (dT x) 0=tI x.1∧T.cell (dT x) 1=tI x.2∧T.cell (dT x) 2=tI (-1)∧T.cell (dT x) 3=tI (-1)∧T.cell (dT x) 4=tI (-1):=⟨rfl,rfl,rfl,rfl,rfl⟩
theorem same_diags{l:List (Int×Int)}(hl:l.length≤100000000):u_ref24_SameDiags (l.map dT,l.map dT,())=some (true,()):=by
 unfold u_ref24_SameDiags
 have hgo:=loopU_for (F:=u_ref24_SameDiags_l0) l.length (fun k=>(l.map dT,l.map dT,(k:Nat),())) fun k hk=>by
  obtain⟨x,hx⟩:∃x,l[k]?=some x:=⟨_,List.getElem?_eq_getElem hk⟩
  obtain⟨c0,c1,c2,c3,c4⟩:=dT_cell x
  have hw:wr .i64 ((k:Int)+1)=((k+1:Nat):Int):=by rw[wr64 (by omega) (by omega)];rfl
  unfold u_ref24_SameDiags_l0
  simp only[ltI_eq,addI_eq,lenL_eq,List.length_map]
  rw[decide_eq_true (by omega),idxL_nat,List.getElem?_map,hx]
  simp only[cond_true,Option.map_some,obS,c0,c1,c2,c3,c4,T_int,eqI_eq,hw]
  simp[andB]
 simp only[eqI_eq,lenL_eq,decide_true,Bool.not_true,cond_false]
 rw[show (l.map dT,l.map dT,(0:Int),())=(l.map dT,l.map dT,((0:Nat):Int),()) from rfl,hgo,loopU_out (e:=.inr (.inl ())) (by
  unfold u_ref24_SameDiags_l0
  simp only[ltI_eq,lenL_eq,List.length_map]
  rw[decide_eq_false (by omega)]
  rfl)]
 rfl
def TypEq(H D:List T):Prop:=∃o:List (Int×Int),o.length≤16∧u_entity_Typed (H,D,())=some (o.map dT,())∧u_ref24_Typed (H,D,())=some (o.map dT,())
theorem order_res{H D:List T}(hD:OkD D):∃(o:List Nat) (b:Bool),u_entity_Order (H,D,())=some (o.map tN,b,())∧o.length≤16:=by
 rw[e_Order hD]
 have h16:=hD.1
 by_cases hc:chkT D D.length=[]
 ·rw[if_pos hc]
  cases ho:ordS D D.length [] with
  | none=>exact⟨[],false,rfl,by simp⟩
  | some o=>
   have hl:∀(n:Nat) (out o:List Nat),ordS D n out=some o→o.length=out.length+n:=by
    intro n
    induction n with
    | zero=>intro out o h;simp only[ordS,Option.some.injEq] at h;subst h;rfl
    | succ n ih=>
     intro out o h
     simp only[ordS] at h
     split at h
     ·cases h
     ·rw[ih _ _ h,List.length_append,List.length_singleton];omega
   have:=hl _ _ _ ho
   exact⟨o,true,rfl,by simp at this;omega⟩
 ·rw[if_neg hc]
  exact⟨[],false,rfl,by simp⟩
theorem g_l1{o:List Nat}{id:Int}{L:List T}{c d:Int}{t1 t2:T}(ho:o.length≤16):
 loopU u_brepkernellaw24_EntityGraph_l1 (id,(),o.map tN,o.map tN,L,c,d,(o.length:Int),(0:Int),t1,t2,())=some (.inr (.inl (id,(),L,c,d,t1,t2,()))):=by
 have hgo:=loopU_for (F:=u_brepkernellaw24_EntityGraph_l1) o.length (fun k=>(id,(),o.map tN,o.map tN,L,c,d,(o.length:Int),(k:Nat),t1,t2,())) fun k hk=>by
  obtain⟨x,hx⟩:∃x,o[k]?=some x:=⟨_,List.getElem?_eq_getElem hk⟩
  have hw:wr .i64 ((k:Int)+1)=((k+1:Nat):Int):=by rw[wr64 (by omega) (by omega)];rfl
  unfold u_brepkernellaw24_EntityGraph_l1
  simp only[ltI_eq,addI_eq]
  rw[decide_eq_true (by omega),idxL_nat,List.getElem?_map,hx]
  simp only[cond_true,Option.map_some,obS,show T.cell (tN x) 0=tI x from rfl,T_int,eqI_eq,decide_true,Bool.not_true,cond_false,hw]
 rw[show (id,(),o.map tN,o.map tN,L,c,d,(o.length:Int),(0:Int),t1,t2,())=(id,(),o.map tN,o.map tN,L,c,d,(o.length:Int),((0:Nat):Int),t1,t2,()) from rfl,hgo]
 refine loopU_out ?_
 unfold u_brepkernellaw24_EntityGraph_l1
 simp only[ltI_eq]
 rw[decide_eq_false (by omega)]
 rfl
theorem g_l2{H D:List T}(hD:OkD D){l:List Int}{id:Int}{L:List T}{c d:Int}(hl:l.length≤16):
 loopU u_brepkernellaw24_EntityGraph_l2 (id,(),L,c,d,l.map tI,(l.length:Int),(0:Int),.sl 2 H,.sl 3 D,())=some (.inr (.inl (id,L,c,d,()))):=by
 have hgo:=loopU_for (F:=u_brepkernellaw24_EntityGraph_l2) l.length (fun k=>(id,(),L,c,d,l.map tI,(l.length:Int),(k:Nat),.sl 2 H,.sl 3 D,())) fun k hk=>by
  obtain⟨x,hx⟩:∃x,l[k]?=some x:=⟨_,List.getElem?_eq_getElem hk⟩
  have hw:wr .i64 ((k:Int)+1)=((k+1:Nat):Int):=by rw[wr64 (by omega) (by omega)];rfl
  obtain⟨name,args,b,f1,f2,f3⟩:=e_Find (H:=H) hD x
  unfold u_brepkernellaw24_EntityGraph_l2
  simp only[ltI_eq,addI_eq,lenL_eq,List.length_map]
  rw[decide_eq_true (by omega),chkI_nat (by omega)]
  simp only[cond_true,obS,idxN_eq,List.getElem?_map,hx,Option.map_some,T_cell_v,T_int,T_sl,f1,f2,f3,eqB_eq,beq_self_eq_true,Bool.not_true,cond_false,hw]
 rw[show (id,(),L,c,d,l.map tI,(l.length:Int),(0:Int),T.sl 2 H,T.sl 3 D,())=(id,(),L,c,d,l.map tI,(l.length:Int),((0:Nat):Int),T.sl 2 H,T.sl 3 D,()) from rfl,hgo]
 refine loopU_out ?_
 unfold u_brepkernellaw24_EntityGraph_l2
 simp only[ltI_eq]
 rw[decide_eq_false (by omega)]
 rfl
def fileT(f:List T×List T):T:=.agg [.sl 2 f.1,.sl 3 f.2]
theorem g_l0{fs:List (List T×List T)}{id:Int}(hl:fs.length≤16)(hD:∀f∈fs,OkD f.2∧TypEq f.1 f.2):
 loopU u_brepkernellaw24_EntityGraph_l0 (id,fs.map fileT,(fs.length:Int),(0:Int),())=some (.inr (.inl ())):=by
 have hgo:=loopU_for (F:=u_brepkernellaw24_EntityGraph_l0) fs.length (fun k=>(id,fs.map fileT,(fs.length:Int),(k:Nat),())) fun k hk=>by
  obtain⟨x,hx⟩:∃x,fs[k]?=some x:=⟨_,List.getElem?_eq_getElem hk⟩
  have hw:wr .i64 ((k:Int)+1)=((k+1:Nat):Int):=by rw[wr64 (by omega) (by omega)];rfl
  obtain⟨hd,o,ho,e1,e2⟩:=hD x (List.mem_of_getElem? hx)
  obtain⟨p,b,e3,hp⟩:=order_res (H:=x.1) hd
  have hcl:=chkT_len hd x.2.length (Nat.le_refl _)
  have h16:=hd.1
  have hc:(chkT x.2 x.2.length).length≤100000000:=Nat.le_trans hcl (Nat.le_trans (Nat.mul_le_mul_right _ h16) (by decide))
  unfold u_brepkernellaw24_EntityGraph_l0
  simp only[ltI_eq,addI_eq,lenL_eq,List.length_map]
  rw[decide_eq_true (by omega),chkI_nat (by omega)]
  simp only[cond_true,obS,idxN_eq,List.getElem?_map,hx,Option.map_some,show T.cell (fileT x) 0=.sl 2 x.1 from rfl,show T.cell (fileT x) 1=.sl 3 x.2 from rfl,T_sl,e_rOrder hd,e3,eqB_eq,beq_self_eq_true,Bool.not_true,cond_false,eqI_eq,decide_true,
   e_Check hd,e_rCheck hd,same_diags hc,e1,e2,same_diags (Nat.le_trans ho (by decide)),List.length_map]
  rw[g_l1 hp]
  simp only[obS,onS_r,onS_l]
  have h2:=g_l2 (H:=x.1) hd (l:=[id,1,4,0]) (id:=id) (L:=fs.map fileT) (c:=(fs.length:Int)) (d:=(k:Int)) (by simp)
  rw[show ([T.v (Value.int IntKind.i64 id),T.v (Value.int IntKind.i64 1),T.v (Value.int IntKind.i64 4),T.v (Value.int IntKind.i64 0)]:List T)=([id,1,4,0]:List Int).map tI from rfl,List.length_map,h2]
  simp only[obS,onS_r,onS_l,hw]
 rw[show (id,fs.map fileT,(fs.length:Int),(0:Int),())=(id,fs.map fileT,(fs.length:Int),((0:Nat):Int),()) from rfl,hgo]
 refine loopU_out ?_
 unfold u_brepkernellaw24_EntityGraph_l0
 simp only[ltI_eq]
 rw[decide_eq_false (by omega)]
 rfl
end Go.Eng.En
namespace Go.Eng
theorem tmod_lo(a:Int){b:Int}(h:0<b):-b<a.tmod b:=by
 rcases Int.lt_or_le a 0 with ha | ha
 ·have h1:(-(-a)).tmod b=-((-a).tmod b):=Int.neg_tmod (-a) b
  rw[Int.neg_neg] at h1
  have h2:(-a).tmod b<b:=by rw[Int.tmod_eq_emod_of_nonneg (by omega)];exact Int.emod_lt_of_pos _ h
  omega
 ·have:0≤a.tmod b:=by rw[Int.tmod_eq_emod_of_nonneg ha];exact Int.emod_nonneg _ (by omega)
  omega
theorem tmod_hi(a:Int){b:Int}(h:0<b):a.tmod b<b:=by
 rcases Int.lt_or_le a 0 with ha | ha
 ·have h1:(-(-a)).tmod b=-((-a).tmod b):=Int.neg_tmod (-a) b
  rw[Int.neg_neg] at h1
  have h2:0≤(-a).tmod b:=by rw[Int.tmod_eq_emod_of_nonneg (by omega)];exact Int.emod_nonneg _ (by omega)
  omega
 ·rw[Int.tmod_eq_emod_of_nonneg ha];exact Int.emod_lt_of_pos _ h
def modV(a n:Int):Int:=if a.tmod n<0 then a.tmod n+n else a.tmod n
theorem modV_lo(a:Int){n:Int}(h:0<n):0≤modV a n:=by
 unfold modV
 have:=tmod_lo a h
 split <;> omega
theorem modV_hi(a:Int){n:Int}(h:0<n):modV a n<n:=by
 unfold modV
 have:=tmod_hi a h
 split <;> omega
theorem s_Mod(a:Int){n:Int}(h1:0<n)(h2:n≤4611686018427387904):u_brepkernelmade_Mod (a,n,())=some (modV a n,()):=by
 unfold u_brepkernelmade_Mod modV
 have:=tmod_lo a h1
 have:=tmod_hi a h1
 rw[nz_eq (show n≠0 by omega)]
 simp only[obS,modI_eq,ltI_eq,addI_eq]
 by_cases h:a.tmod n<0
 ·rw[decide_eq_true h,if_pos h,wr64 (by omega) (by omega)];rfl
 ·rw[decide_eq_false h,if_neg h];rfl
def intT(z:Int):T:=.v (.int .i64 z)
def DiceOK(L:List T)(a:Int):Prop:=∃zs:List Int,L=zs.map intT∧zs.length≤1000000∧0≤a∧a≤zs.length
theorem s_Next{L:List T}{a:Int}(h:DiceOK L a){n:Int}(h1:0<n)(h2:n≤4611686018427387904):
 ∃v a',u___brepkernelmade_Dice__Next ((),n,L,a,())=some (v,L,a',())∧0≤v∧v<n∧DiceOK L a':=by
 obtain⟨zs,rfl,hz,ha0,ha1⟩:=h
 unfold u___brepkernelmade_Dice__Next
 simp only[leI_eq,lenL_eq,List.length_map,addI_eq,subI_eq]
 by_cases hc:(zs.length:Int)≤a
 ·rw[decide_eq_true hc]
  exact⟨0,a,rfl,Int.le_refl _,h1,zs,rfl,hz,ha0,ha1⟩
 ·rw[decide_eq_false hc]
  obtain⟨i,rfl⟩:=Int.eq_ofNat_of_zero_le ha0
  have hi:i<zs.length:=by omega
  rw[wr64 (n:=(i:Int)+1) (by omega) (by omega),wr64 (n:=(i:Int)+1-1) (by omega) (by omega),Int.add_sub_cancel,idxL_nat,List.getElem?_map,List.getElem?_eq_getElem hi]
  simp only[cond_false,Option.map_some,obS,intT,T_cell_v,T_int,s_Mod _ h1 h2]
  exact⟨_,_,rfl,modV_lo _ h1,modV_hi _ h1,zs,rfl,hz,by omega,by omega⟩
theorem s_Bool{L:List T}{a:Int}(h:DiceOK L a){n:Int}(h1:0<n)(h2:n≤4611686018427387904):
 ∃b a',u___brepkernelmade_Dice__Bool ((),n,L,a,())=some (b,L,a',())∧DiceOK L a':=by
 obtain⟨v,a',e,_,_,hd⟩:=s_Next h h1 h2
 unfold u___brepkernelmade_Dice__Bool
 rw[e]
 exact⟨_,a',rfl,hd⟩
theorem s_Light(L:List T):u_brepkernelmade_Light (L,())=some (decide (L.length≤500),()):=by
 unfold u_brepkernelmade_Light
 simp only[leI_eq,lenL_eq]
 congr 2
 rw[Bool.eq_iff_iff];simp;omega
theorem s_Roll(L:List T):u_brepkernelmade_Roll (L,())=some (L,0,()):=rfl
end Go.Eng
namespace Go.Eng.En
open Go.Eng Go.Eng.Rt
theorem OkA.up:∀{n:Nat} {t:T},OkA n t→OkA (n+1) t
 | 0,_,h=>h.elim
 | n+1,t,⟨k,neg,num,den,text,ref,l,e,hl,hs,hq⟩=>⟨k,neg,num,den,text,ref,l,e,hl,fun x hx=>(hs x hx).up,hq⟩
theorem OkA.le{n m:Nat}{t:T}(h:OkA n t)(hm:n≤m):OkA m t:=by
 induction hm with
 | refl=>exact h
 | step _ ih=>exact ih.up
def ArgR(n:Nat)(L:List T)(r:Option (Int×Bool×(List T)×(List T)×ByteArray×Int×(List T)×(List T)×Int×Unit)):Prop:=
 ∃k neg num den text ref l a',r=some (k,neg,num,den,text,ref,l,L,a',())∧OkA n (argT k neg num den text ref l)∧DiceOK L a'
theorem zero_q:∃q:Rat,Sm q∧false=rNeg q∧([]:List T)=rNum q∧([]:List T)=rDen q:=⟨0,Sm.zero,by decide,by rw[rNum];exact lm_zero.symm,by rw[rDen];rfl⟩
theorem int_q{n:Int}(h:n.natAbs<1000):∃q:Rat,Sm q∧decide (n<0)=rNeg q∧lm n.natAbs=rNum q∧([]:List T)=rDen q:=⟨(n:Rat),⟨by show n.natAbs<_;omega,by show 1<_;omega⟩,rfl,rfl,rfl⟩
theorem s_Int{n:Int}(h:n.natAbs<1000):u_ref02_Int (n,())=some (decide (n<0),lm n.natAbs,[],()):=by
 unfold u_ref02_Int
 rw[r_size (by omega) (by omega)]
 rfl
theorem frac_sm:∀i:Fin 99,∀z∈([1,2,8,5,1,10,3]:List Int),Sm (fracQ (((i:Nat):Int)-40) z):=by unfold Sm;decide +kernel
abbrev nilT:T:=.v (.slice none 0 0)
abbrev noS0:ByteArray:=ByteArray.mk #[]
theorem arg_loop{d:Nat}{L:List T}{self:(Unit×Int×(List T)×Int×Unit)→Option (Int×Bool×(List T)×(List T)×ByteArray×Int×(List T)×(List T)×Int×Unit)}(hd:d≤100)
 (hself:∀a,DiceOK L a→ArgR d L (self ((),(d:Int)-1,L,a,()))) {c a:Int} (hc0:0≤c) (hc:c≤3) (ha:DiceOK L a):
 ∃l a',loopU (u___brepkernelmade_Dice__Arg_l0 self) ((),(d:Int),(),(),c,L,a,(0:Int),Bool.false,nilT,nilT,noS0,(0:Int),nilT,(6:Int),Bool.false,nilT,nilT,noS0,(0:Int),[],()) =
  some (.inl ((),(),L,a',(0:Int),Bool.false,nilT,nilT,noS0,(0:Int),nilT,(6:Int),Bool.false,nilT,nilT,noS0,(0:Int),l,()))∧l.length≤3∧(∀x∈l,OkA d x)∧DiceOK L a':=by
 obtain⟨e,h1,l,a',h2,h3,h4,h5⟩:=loopU_inv (F:=u___brepkernelmade_Dice__Arg_l0 self)
  (fun s=>∃c a l,s=((),(d:Int),(),(),c,L,a,(0:Int),Bool.false,nilT,nilT,noS0,(0:Int),nilT,(6:Int),Bool.false,nilT,nilT,noS0,(0:Int),l,())∧0≤c∧(l.length:Int)+c≤3∧(∀x∈l,OkA d x)∧DiceOK L a)
  (fun s=>s.2.2.2.2.1.toNat)
  (fun e=>∃l a',e=.inl ((),(),L,a',(0:Int),Bool.false,nilT,nilT,noS0,(0:Int),nilT,(6:Int),Bool.false,nilT,nilT,noS0,(0:Int),l,())∧l.length≤3∧(∀x∈l,OkA d x)∧DiceOK L a')
  (fun s hs=>by
   obtain⟨c,a,l,rfl,hc0,hcl,hl,ha⟩:=hs
   by_cases h:0<c
   ·left
    obtain⟨k,neg,num,den,text,ref,q,a2,hr,hok,ha2⟩:=hself a ha
    refine⟨_,?_,⟨c-1,a2,l++[argT k neg num den text ref q],rfl,by omega,by simp;omega,fun x hx=>?_,ha2⟩,?_⟩
    ·unfold u___brepkernelmade_Dice__Arg_l0
     simp only[ltI_eq,subI_eq]
     rw[decide_eq_true h,wr64 (n:=(d:Int)-1) (by omega) (by omega),wr64 (n:=c-1) (by omega) (by omega),hr]
     simp only[cond_true,obS]
     rw[room_ok (by simp;omega) (by decide)]
     rfl
    ·rcases List.mem_append.1 hx with hx | hx
     ·exact hl x hx
     ·rw[List.mem_singleton] at hx;exact hx▸hok
    ·show (c-1).toNat<c.toNat
     omega
   ·right
    refine⟨_,?_,l,a,rfl,by omega,hl,ha⟩
    unfold u___brepkernelmade_Dice__Arg_l0
    simp only[ltI_eq]
    rw[decide_eq_false h]
    rfl) _ ⟨c,a,[],rfl,hc0,by simp;omega,fun x hx=>by simp at hx,ha⟩
 exact⟨l,a',h2▸h1,h3,h4,h5⟩
theorem pick_str{l:List T}{i:Int}(h0:0≤i)(h1:i<l.length)(hs:∀x∈l,∃s,x=.v (.string s)):∃s,(ob (chkI (lenL l) i) fun x1=>ob (idxN l x1) fun x2=>T.str? (T.cell x2 0))=some s:=by
 rw[lenL_eq,chkI_int h0 h1]
 obtain⟨x,hx⟩:∃x,l[i.toNat]?=some x:=⟨_,List.getElem?_eq_getElem (by omega)⟩
 obtain⟨s,rfl⟩:=hs x (List.mem_of_getElem? hx)
 exact⟨s,by simp[hx]⟩
theorem pick_get{R:Type}{l:List T}{i:Int}{k:ByteArray→Option R}(h0:0≤i)(h1:i<l.length)(hs:∀x∈l,∃s,x=.v (.string s)):∃s,(ob (chkI (lenL l) i) fun x1=>ob (idxN l x1) fun x2=>ob (T.str? (T.cell x2 0)) k)=k s:=by
 rw[lenL_eq,chkI_int h0 h1]
 obtain⟨x,hx⟩:∃x,l[i.toNat]?=some x:=⟨_,List.getElem?_eq_getElem (by omega)⟩
 obtain⟨s,rfl⟩:=hs x (List.mem_of_getElem? hx)
 exact⟨s,by simp[hx]⟩
theorem pick_int{R:Type}{l:List T}{i:Int}{k:Int→Option R}{P:Int→Prop}(h0:0≤i)(h1:i<l.length)(hs:∀x∈l,∃z,x=tI z∧P z):∃z,P z∧(ob (chkI (lenL l) i) fun x1=>ob (idxN l x1) fun x2=>ob (T.int? .i64 (T.cell x2 0)) k)=k z:=by
 rw[lenL_eq,chkI_int h0 h1]
 obtain⟨x,hx⟩:∃x,l[i.toNat]?=some x:=⟨_,List.getElem?_eq_getElem (by omega)⟩
 obtain⟨z,rfl,hz⟩:=hs x (List.mem_of_getElem? hx)
 exact⟨z,hz,by simp[hx]⟩
theorem s_Word{L:List T}{a:Int}(h:DiceOK L a):∃s a',u___brepkernelmade_Dice__Word ((),L,a,())=some (s,L,a',())∧DiceOK L a':=by
 obtain⟨v,a',e,h0,h1,hd⟩:=s_Next h (n:=12) (by decide) (by decide)
 unfold u___brepkernelmade_Dice__Word
 rw[e]
 simp only[obS]
 obtain⟨s,hs⟩:=pick_get (k:=fun x3=>some (x3,L,a',())) h0 (l:=[(T.v (.string (ByteArray.mk #[97]))),(T.v (.string (ByteArray.mk #[98]))),(T.v (.string (ByteArray.mk #[120,48]))),(T.v (.string (ByteArray.mk #[115,48,46,49]))),(T.v (.string (ByteArray.mk #[]))),(T.v (.string (ByteArray.mk #[102,46,120,48]))),(T.v (.string (ByteArray.mk #[103,46,122,49]))),(T.v (.string (ByteArray.mk #[102,46,120,48,43,103,46,122,49]))),(T.v (.string (ByteArray.mk #[65,43]))),(T.v (.string (ByteArray.mk #[97,39,98]))),(T.v (.string (ByteArray.mk #[99,32,100]))),(T.v (.string (ByteArray.mk #[195,169])))]) (by simpa using h1) (fun x hx=>by
  simp only[List.mem_cons,List.not_mem_nil,or_false] at hx
  rcases hx with rfl | rfl | rfl | rfl | rfl | rfl | rfl | rfl | rfl | rfl | rfl | rfl <;> exact⟨_,rfl⟩)
 exact⟨s,a',hs,hd⟩
theorem arg_plain{n:Nat}{k:Int}{text:ByteArray}{ref:Int}:OkA (n+1) (argT k false [] [] text ref []):=⟨k,false,[],[],text,ref,[],rfl,by simp,fun x hx=>by simp at hx,zero_q⟩
set_option maxHeartbeats 4000000 in
theorem s_Arg1{d:Nat}{L:List T}{a:Int}{self:(Unit×Int×(List T)×Int×Unit)→Option (Int×Bool×(List T)×(List T)×ByteArray×Int×(List T)×(List T)×Int×Unit)}(hd:d≤100)
 (hself:0<d→∀a,DiceOK L a→ArgR d L (self ((),(d:Int)-1,L,a,()))) (ha:DiceOK L a):ArgR (d+1) L (b___brepkernelmade_Dice__Arg self ((),(d:Int),L,a,())):=by
 unfold b___brepkernelmade_Dice__Arg
 obtain⟨v,a1,e,h0,h1,ha1⟩:=s_Next ha (n:=9) (by decide) (by decide)
 rw[e]
 simp only[obS,eqI_eq]
 by_cases v0:v=0
 ·rw[decide_eq_true v0]
  obtain⟨u,a2,e,g0,g1,ha2⟩:=s_Next ha1 (n:=50) (by decide) (by decide)
  simp only[cond_true,e,obS,subI_eq]
  rw[wr64 (by omega) (by omega),s_Int (by omega)]
  exact⟨_,_,_,_,_,_,_,a2,rfl,⟨_,_,_,_,_,_,_,rfl,by simp,fun x hx=>by simp at hx,int_q (by omega)⟩,ha2⟩
 rw[decide_eq_false v0]
 by_cases v1:v=1
 ·rw[decide_eq_true v1]
  obtain⟨u,a2,e,g0,g1,ha2⟩:=s_Next ha1 (n:=99) (by decide) (by decide)
  obtain⟨u3,a3,e3,p0,p1,ha3⟩:=s_Next ha2 (n:=7) (by decide) (by decide)
  simp only[cond_true,cond_false,e,e3,obS,subI_eq]
  obtain⟨z,hz,hk⟩:=pick_int (P:=fun z=>z∈([1,2,8,5,1,10,3]:List Int)) (k:=fun x7=>ob (u_ref02_Frac ((wr .i64 (u-40)),x7,())) fun x8=>some ((2:Int),x8.1,x8.2.1,x8.2.2.1,(ByteArray.mk #[]),(0:Int),([]:List T),L,a3,()))
   p0 (l:=[(T.v (.int .i64 (1:Int))),(T.v (.int .i64 (2:Int))),(T.v (.int .i64 (8:Int))),(T.v (.int .i64 (5:Int))),(T.v (.int .i64 (1:Int))),(T.v (.int .i64 (10:Int))),(T.v (.int .i64 (3:Int)))]) (by simpa using p1) (fun x hx=>by
    simp only[List.mem_cons,List.not_mem_nil,or_false] at hx
    rcases hx with rfl | rfl | rfl | rfl | rfl | rfl | rfl <;> exact⟨_,rfl,by simp⟩)
  rw[hk]
  have hzp:0<z∧z≤10:=by
   simp only[List.mem_cons,List.not_mem_nil,or_false] at hz
   omega
  have hsm:=frac_sm ⟨u.toNat,by omega⟩ z hz
  rw[show (((⟨u.toNat,by omega⟩:Fin 99):Nat):Int)=u from by show ((u.toNat:Nat):Int)=u;omega] at hsm
  rw[wr64 (by omega) (by omega),r_Frac (by omega) (by omega) (by omega) (by omega) (by omega)]
  exact⟨_,_,_,_,_,_,_,a3,rfl,⟨_,_,_,_,_,_,_,rfl,by simp,fun x hx=>by simp at hx,⟨fracQ (u-40) z,hsm,rfl,rfl,rfl⟩⟩,ha3⟩
 rw[decide_eq_false v1]
 by_cases v2:v=2
 ·rw[decide_eq_true v2]
  obtain⟨s,a2,e,ha2⟩:=s_Word ha1
  simp only[cond_true,cond_false,e,obS]
  exact⟨_,_,_,_,_,_,_,a2,rfl,arg_plain,ha2⟩
 rw[decide_eq_false v2]
 by_cases v3:v=3
 ·rw[decide_eq_true v3]
  obtain⟨u,a2,e,g0,g1,ha2⟩:=s_Next ha1 (n:=4) (by decide) (by decide)
  simp only[cond_true,cond_false,e,obS]
  obtain⟨s,hs⟩:=pick_get (k:=fun x13=>some ((4:Int),Bool.false,([]:List T),([]:List T),x13,(0:Int),([]:List T),L,a2,())) g0 (l:=[(T.v (.string (ByteArray.mk #[84]))),(T.v (.string (ByteArray.mk #[70]))),(T.v (.string (ByteArray.mk #[65,66,95,49]))),(T.v (.string (ByteArray.mk #[116])))]) (by simpa using g1) (fun x hx=>by
   simp only[List.mem_cons,List.not_mem_nil,or_false] at hx
   rcases hx with rfl | rfl | rfl | rfl <;> exact⟨_,rfl⟩)
  rw[hs]
  exact⟨_,_,_,_,_,_,_,a2,rfl,arg_plain,ha2⟩
 rw[decide_eq_false v3]
 by_cases v4:v=4
 ·rw[decide_eq_true v4]
  obtain⟨u,a2,e,g0,g1,ha2⟩:=s_Next ha1 (n:=6) (by decide) (by decide)
  simp only[cond_true,cond_false,e,obS]
  exact⟨_,_,_,_,_,_,_,a2,rfl,arg_plain,ha2⟩
 rw[decide_eq_false v4]
 by_cases v5:v=5
 ·rw[decide_eq_true v5]
  obtain⟨u,a2,e,g0,g1,ha2⟩:=s_Next ha1 (n:=4) (by decide) (by decide)
  simp only[cond_true,cond_false,e,obS]
  obtain⟨z,_,hs⟩:=pick_int (P:=fun _=>True) (k:=fun x18=>some (x18,Bool.false,([]:List T),([]:List T),(ByteArray.mk #[]),(0:Int),([]:List T),L,a2,())) g0 (l:=[(T.v (.int .i64 (7:Int))),(T.v (.int .i64 (8:Int))),(T.v (.int .i64 (0:Int))),(T.v (.int .i64 (9:Int)))]) (by simpa using g1) (fun x hx=>by
   simp only[List.mem_cons,List.not_mem_nil,or_false] at hx
   rcases hx with rfl | rfl | rfl | rfl <;> exact⟨_,rfl,trivial⟩)
  rw[hs]
  exact⟨_,_,_,_,_,_,_,a2,rfl,arg_plain,ha2⟩
 rw[decide_eq_false v5]
 by_cases v6:v=6
 ·rw[decide_eq_true v6]
  obtain⟨u,a2,e,g0,g1,ha2⟩:=s_Next ha1 (n:=2) (by decide) (by decide)
  simp only[cond_true,cond_false,e,obS]
  exact⟨_,_,_,_,_,_,_,a2,rfl,arg_plain,ha2⟩
 rw[decide_eq_false v6]
 simp only[cond_false,ltI_eq]
 by_cases hd0:0<d
 ·rw[decide_eq_true (by omega)]
  obtain⟨u,a2,e,g0,g1,ha2⟩:=s_Next ha1 (n:=4) (by decide) (by decide)
  obtain⟨l,a3,hl,hl3,hls,ha3⟩:=arg_loop hd (hself hd0) g0 (by omega) ha2
  simp only[cond_true,e,obS]
  rw[hl]
  simp only[obS,onS_l,T_sl_nil 1 (by decide)]
  exact⟨_,_,_,_,_,_,_,a3,rfl,⟨_,_,_,_,_,_,_,rfl,by omega,hls,zero_q⟩,ha3⟩
 ·rw[decide_eq_false (by omega)]
  simp only[cond_false,obS,onS_l,T_sl_nil 1 (by decide)]
  exact⟨_,_,_,_,_,_,_,a1,rfl,arg_plain,ha1⟩
theorem s_Arg:∀(d m:Nat),d≤7→∀{L:List T} {a:Int},DiceOK L a→ArgR (d+1) L (v___brepkernelmade_Dice__Arg (d+1+m) ((),(d:Int),L,a,())):=by
 intro d
 induction d with
 | zero=>
  intro m _ L a ha
  rw[show 0+1+m=m+1 from by omega]
  exact s_Arg1 (d:=0) (by omega) (fun h=>by omega) ha
 | succ d ih=>
  intro m hd L a ha
  rw[show d+1+1+m=(d+1+m)+1 from by omega]
  exact s_Arg1 (d:=d+1) (by omega) (fun _ a ha=>by rw[show ((d+1:Nat):Int)-1=(d:Int) from by omega];exact ih m (by omega) ha) ha
end Go.Eng.En
namespace Go.Eng.En
open Go.Eng Go.Eng.Rt
def OkR(args:List T):Prop:=args.length≤3∧∀x∈args,OkA 3 x
theorem rec_loop{L:List T}{c a:Int}{n1:ByteArray}{t1 t2:T}(hc0:0≤c)(hc:c≤3)(ha:DiceOK L a):
 ∃l a',loopU u___brepkernelmade_Dice__record_l0 ((),(),(),c,L,a,n1,t1,t2,[],())=some (.inl ((),(),L,a',n1,t1,t2,l,()))∧OkR l∧DiceOK L a':=by
 obtain⟨e,h1,l,a',h2,h3,h4⟩:=loopU_inv (F:=u___brepkernelmade_Dice__record_l0)
  (fun s=>∃c a l,s=((),(),(),c,L,a,n1,t1,t2,l,())∧0≤c∧(l.length:Int)+c≤3∧(∀x∈l,OkA 3 x)∧DiceOK L a)
  (fun s=>s.2.2.2.1.toNat)
  (fun e=>∃l a',e=.inl ((),(),L,a',n1,t1,t2,l,())∧OkR l∧DiceOK L a')
  (fun s hs=>by
   obtain⟨c,a,l,rfl,hc0,hcl,hl,ha⟩:=hs
   by_cases h:0<c
   ·left
    obtain⟨k,neg,num,den,text,ref,q,a2,hr,hok,ha2⟩:=s_Arg 2 17 (by decide) ha
    have hr':u___brepkernelmade_Dice__Arg ((),(2:Int),L,a,())=some (k,neg,num,den,text,ref,q,L,a2,()):=hr
    refine⟨_,?_,⟨c-1,a2,l++[argT k neg num den text ref q],rfl,by omega,by simp;omega,fun x hx=>?_,ha2⟩,?_⟩
    ·unfold u___brepkernelmade_Dice__record_l0
     simp only[ltI_eq,subI_eq]
     rw[decide_eq_true h,wr64 (n:=c-1) (by omega) (by omega),hr']
     simp only[cond_true,obS]
     rw[room_ok (by simp;omega) (by decide)]
     rfl
    ·rcases List.mem_append.1 hx with hx | hx
     ·exact hl x hx
     ·rw[List.mem_singleton] at hx;exact hx▸hok
    ·show (c-1).toNat<c.toNat
     omega
   ·right
    refine⟨_,?_,l,a,rfl,⟨by omega,hl⟩,ha⟩
    unfold u___brepkernelmade_Dice__record_l0
    simp only[ltI_eq]
    rw[decide_eq_false h]
    rfl) _ ⟨c,a,[],rfl,hc0,by simp;omega,fun x hx=>by simp at hx,ha⟩
 exact⟨l,a',h2▸h1,h3,h4⟩
theorem s_record{L:List T}{a:Int}(ha:DiceOK L a):∃name args a',u___brepkernelmade_Dice__record ((),L,a,())=some (name,args,L,a',())∧OkR args∧DiceOK L a':=by
 unfold u___brepkernelmade_Dice__record
 obtain⟨v,a1,e,h0,h1,ha1⟩:=s_Next ha (n:=12) (by decide) (by decide)
 obtain⟨u,a2,e2,g0,g1,ha2⟩:=s_Next ha1 (n:=4) (by decide) (by decide)
 rw[e]
 simp only[obS,lenL_eq,List.length_cons,List.length_nil]
 rw[chkI_int h0 (by omega)]
 obtain⟨i,rfl⟩:=Int.eq_ofNat_of_zero_le h0
 have hi:i<12:=by omega
 simp only[obS,Int.toNat_natCast,idxN_eq,e2]
 generalize hl:([_,_,_,_,_,_,_,_,_,_,_,_]:List T)=names
 obtain⟨x,hx⟩:∃x,names[i]?=some x:=⟨_,List.getElem?_eq_getElem (by rw[←hl];exact hi)⟩
 obtain⟨s,rfl⟩:∃s,x=.v (.string s):=by
  have:=List.mem_of_getElem? hx
  rw[←hl] at this
  simp only[List.mem_cons,List.not_mem_nil,or_false] at this
  rcases this with rfl | rfl | rfl | rfl | rfl | rfl | rfl | rfl | rfl | rfl | rfl | rfl <;> exact⟨_,rfl⟩
 rw[hx]
 simp only[obS,T_cell_v]
 obtain⟨l,a3,hlo,hok,ha3⟩:=rec_loop (n1:=ByteArray.mk #[]) (t1:=.v (.slice none 0 0)) (t2:=.v (.string s)) g0 (by omega) ha2
 rw[hlo]
 simp only[obS,onS_l,T_str]
 exact⟨s,l,a3,rfl,hok,ha3⟩
theorem OkR.ent{id:Int}{name:ByteArray}{args:List T}(h:OkR args):OkE (entT id name args):=⟨id,name,args,rfl,by have:=h.1;omega,fun x hx=>(h.2 x hx).le (by decide)⟩
theorem file_l0{L:List T}{n c a:Int}{t1 t2:T}{d:List T}(hc0:0≤c)(hc:c≤2)(ha:DiceOK L a):
 ∃l a',loopU u___brepkernelmade_Dice__File_l0 ((),n,(),(),c,L,a,t1,t2,[],d,())=some (.inl ((),n,(),(),L,a',t1,t2,l,d,()))∧l.length≤2∧DiceOK L a':=by
 obtain⟨e,h1,l,a',h2,h3,h4⟩:=loopU_inv (F:=u___brepkernelmade_Dice__File_l0)
  (fun s=>∃c a l,s=((),n,(),(),c,L,a,t1,t2,l,d,())∧0≤c∧(l.length:Int)+c≤2∧DiceOK L a)
  (fun s=>s.2.2.2.2.1.toNat)
  (fun e=>∃l a',e=.inl ((),n,(),(),L,a',t1,t2,l,d,())∧l.length≤2∧DiceOK L a')
  (fun s hs=>by
   obtain⟨c,a,l,rfl,hc0,hcl,ha⟩:=hs
   by_cases h:0<c
   ·left
    obtain⟨name,args,a2,hr,hok,ha2⟩:=s_record ha
    refine⟨_,?_,⟨c-1,a2,l++[.agg [.v (.string name),.sl 7 args]],rfl,by omega,by simp;omega,ha2⟩,?_⟩
    ·unfold u___brepkernelmade_Dice__File_l0
     simp only[ltI_eq,subI_eq]
     rw[decide_eq_true h,wr64 (n:=c-1) (by omega) (by omega),hr]
     simp only[cond_true,obS]
     rw[room_ok (by simp;omega) (by decide)]
     rfl
    ·show (c-1).toNat<c.toNat
     omega
   ·right
    refine⟨_,?_,l,a,rfl,by omega,ha⟩
    unfold u___brepkernelmade_Dice__File_l0
    simp only[ltI_eq]
    rw[decide_eq_false h]
    rfl) _ ⟨c,a,[],rfl,hc0,by simp;omega,ha⟩
 exact⟨l,a',h2▸h1,h3,h4⟩
theorem file_l1{L:List T}{c a:Int}{t1 t2:T}{d:List T}(hc0:0≤c)(hc:c≤16)(ha:DiceOK L a):
 ∃l a',loopU u___brepkernelmade_Dice__File_l1 ((),(),(),c,L,a,t1,t2,d,[],())=some (.inl ((),(),L,a',t1,t2,d,l,()))∧OkD l∧DiceOK L a':=by
 obtain⟨e,h1,l,a',h2,h3,h4⟩:=loopU_inv (F:=u___brepkernelmade_Dice__File_l1)
  (fun s=>∃c a l,s=((),(),(),c,L,a,t1,t2,d,l,())∧0≤c∧(l.length:Int)+c≤16∧(∀x∈l,OkE x)∧DiceOK L a)
  (fun s=>s.2.2.2.1.toNat)
  (fun e=>∃l a',e=.inl ((),(),L,a',t1,t2,d,l,())∧OkD l∧DiceOK L a')
  (fun s hs=>by
   obtain⟨c,a,l,rfl,hc0,hcl,hl,ha⟩:=hs
   by_cases h:0<c
   ·left
    obtain⟨b,a1,hb,ha1⟩:=s_Bool ha (n:=8) (by decide) (by decide)
    have main:∀(id:Int) (a2:Int),DiceOK L a2→∃name args a3,OkR args∧DiceOK L a3 ∧
     (ob (u___brepkernelmade_Dice__record ((),L,a2,())) fun x12=>(ob (room l [(T.agg [(T.v (.int .i64 id)),(T.v (.string x12.1)),(T.sl 7 x12.2.1)])] 48) fun x13=>(some (Sum.inl ((),(),(),(wr .i64 (c-1)),x12.2.2.1,x12.2.2.2.1,t1,t2,d,x13,())):Option ((Unit×Unit×Unit×Int×List T×Int×T×T×List T×List T×Unit)⊕((Unit×Unit×List T×Int×T×T×List T×List T×Unit)⊕Empty))))) =
     some (Sum.inl ((),(),(),c-1,L,a3,t1,t2,d,l++[entT id name args],())):=fun id a2 ha2=>by
     obtain⟨name,args,a3,hr,hok,ha3⟩:=s_record ha2
     refine⟨name,args,a3,hok,ha3,?_⟩
     rw[hr,wr64 (n:=c-1) (by omega) (by omega)]
     simp only[obS]
     rw[room_ok (by simp;omega) (by decide)]
     rfl
    cases b with
    | true=>
     obtain⟨v,a2,e,h0,h1,ha2⟩:=s_Next ha1 (n:=5) (by decide) (by decide)
     obtain⟨name,args,a3,hok,ha3,hm⟩:=main v a2 ha2
     refine⟨_,?_,⟨c-1,a3,l++[entT v name args],rfl,by omega,by simp;omega,fun x hx=>?_,ha3⟩,?_⟩
     ·unfold u___brepkernelmade_Dice__File_l1
      simp only[ltI_eq,subI_eq]
      rw[decide_eq_true h,hb]
      simp only[cond_true,obS,e,onS_l]
      exact hm
     ·rcases List.mem_append.1 hx with hx | hx
      ·exact hl x hx
      ·rw[List.mem_singleton] at hx;exact hx▸hok.ent
     ·show (c-1).toNat<c.toNat
      omega
    | false=>
     obtain⟨name,args,a3,hok,ha3,hm⟩:=main ((l.length:Int)+1) a1 ha1
     refine⟨_,?_,⟨c-1,a3,l++[entT ((l.length:Int)+1) name args],rfl,by omega,by simp;omega,fun x hx=>?_,ha3⟩,?_⟩
     ·unfold u___brepkernelmade_Dice__File_l1
      simp only[ltI_eq,subI_eq,addI_eq,lenL_eq]
      rw[decide_eq_true h,hb,wr64 (n:=(l.length:Int)+1) (by omega) (by omega)]
      simp only[cond_true,cond_false,obS,onS_l]
      exact hm
     ·rcases List.mem_append.1 hx with hx | hx
      ·exact hl x hx
      ·rw[List.mem_singleton] at hx;exact hx▸hok.ent
     ·show (c-1).toNat<c.toNat
      omega
   ·right
    refine⟨_,?_,l,a,rfl,⟨by omega,hl⟩,ha⟩
    unfold u___brepkernelmade_Dice__File_l1
    simp only[ltI_eq]
    rw[decide_eq_false h]
    rfl) _ ⟨c,a,[],rfl,hc0,by simp;omega,fun x hx=>by simp at hx,ha⟩
 exact⟨l,a',h2▸h1,h3,h4⟩
theorem s_File{L:List T}{a n:Int}(hn0:0≤n)(hn:n≤15)(ha:DiceOK L a):∃H D a',u___brepkernelmade_Dice__File ((),n,L,a,())=some (H,D,L,a',())∧OkD D∧DiceOK L a':=by
 unfold u___brepkernelmade_Dice__File
 obtain⟨v,a1,e,h0,h1,ha1⟩:=s_Next ha (n:=3) (by decide) (by decide)
 rw[e]
 simp only[obS]
 obtain⟨H,a2,hH,_,ha2⟩:=file_l0 (n:=n) (t1:=.v (.slice none 0 0)) (t2:=.v (.slice none 0 0)) (d:=[]) h0 (by omega) ha1
 rw[hH]
 simp only[obS,onS_l,addI_eq]
 rw[wr64 (by omega) (by omega)]
 obtain⟨u,a3,e3,g0,g1,ha3⟩:=s_Next ha2 (n:=n+1) (by omega) (by omega)
 rw[e3]
 simp only[obS]
 obtain⟨D,a4,hD,hok,ha4⟩:=file_l1 (t1:=.v (.slice none 0 0)) (t2:=.v (.slice none 0 0)) (d:=H) g0 (by omega) ha3
 rw[hD]
 simp only[obS,onS_l]
 exact⟨H,D,a4,rfl,hok,ha4⟩
end Go.Eng.En
namespace Go.Eng.En
open Go.Eng Rt
def recT(name:ByteArray)(args:List T):T:=.agg [.v (.string name),.sl 7 args]
def OkRec(t:T):Prop:=∃name args,t=recT name args∧1≤args.length∧args.length≤4∧∀x∈args,OkA 3 x
theorem upd7{y:T}(h:OkA 3 y)(a b c d e f g:T):T.upd 7 y 0 [a,b,c,d,e,f,g]=.agg [a,b,c,d,e,f,g]:=by
 obtain⟨k,neg,num,den,text,ref,l,rfl,_⟩:=h
 unfold T.upd
 rfl
theorem cut1{l:List T}(h:1≤l.length):cutI (l.length:Int) 1 (l.length:Int)=some (1,((l.length:Int)-1).toNat):=by unfold cutI;rw[if_pos ⟨by decide,by omega,Int.le_refl _⟩];rfl
theorem cut_mem{l:List T}{n m:Nat}{x:T}(h:x∈cutN l n m):x∈l:=by unfold cutN at h;exact List.mem_of_mem_drop (List.mem_of_mem_take h)
theorem cut_len{l:List T}{n m:Nat}:(cutN l n m).length≤l.length:=by unfold cutN;rw[List.length_take,List.length_drop];omega
theorem set_mem{l:List T}{i:Nat}{y x:T}(h:x∈l.set i y):x∈l∨x=y:=by
 rcases List.mem_or_eq_of_mem_set h with h | h
 ·exact .inl h
 ·exact .inr h
theorem ent3{id:Int}{name:ByteArray}{args:List T}(h4:args.length≤4)(h:∀x∈args,OkA 3 x):OkE (entT id name args):=⟨id,name,args,rfl,by omega,fun x hx=>(h x hx).le (by decide)⟩
set_option maxHeartbeats 4000000 in
theorem small_l0{L RL:List T}{a:Int}{t1 t2 t3:T}(hl:RL.length≤16)(hR:∀x∈RL,OkRec x)(ha:DiceOK L a):
 ∃l a',loopU u___brepkernelmade_Dice__Small_l0 ((),(),RL,(),(0:Int),L,a,t1,t2,t3,[],())=some (.inl ((),(),L,a',t1,t2,t3,l,())) ∧OkD l∧DiceOK L a':=by
 obtain⟨e,h1,l,a',h2,h3,h4⟩:=loopU_inv (F:=u___brepkernelmade_Dice__Small_l0)
  (fun s=>∃(i:Nat) (a:Int) (l:List T),s=((),(),RL,(),(i:Int),L,a,t1,t2,t3,l,())∧i≤RL.length∧l.length=i∧(∀x∈l,OkE x)∧DiceOK L a)
  (fun s=>(16-s.2.2.2.2.1).toNat)
  (fun e=>∃l a',e=.inl ((),(),L,a',t1,t2,t3,l,())∧OkD l∧DiceOK L a')
  (fun s hs=>by
   obtain⟨i,a,l,rfl,hi,hli,hle,ha⟩:=hs
   by_cases h:i<RL.length
   ·left
    obtain⟨x,hx⟩:∃x,RL[i]?=some x:=⟨_,List.getElem?_eq_getElem h⟩
    obtain⟨name,args,rfl,g1,g4,gA⟩:=hR x (List.mem_of_getElem? hx)
    have hw:wr .i64 ((i:Int)+1)=((i+1:Nat):Int):=by rw[wr64 (by omega) (by omega)];rfl
    have hc0:T.cell (recT name args) 0=.v (.string name):=rfl
    have hc1:T.cell (recT name args) 1=.sl 7 args:=rfl
    have hrw:T.rw? 7 (.sl 7 args)=some args:=by unfold T.rw?;rw[if_pos (by decide),T_sl]
    have hrm:room [] args 112=some args:=room_ok (by simp;omega) (by decide)
    obtain⟨b1,a1,e1,ha1⟩:=s_Bool ha (n:=12) (by decide) (by decide)
    cases b1 with
    | true=>
     obtain⟨v,a5,e2,v0,v1,ha5⟩:=s_Next ha1 (n:=(args.length:Int)) (by omega) (by omega)
     obtain⟨k,neg,num,den,text,ref,q,a2,e3,hA,ha2⟩:=s_Arg 1 18 (by decide) ha5
     rw[show v___brepkernelmade_Dice__Arg (1+1+18) ((),((1:Nat):Int),L,a5,())=u___brepkernelmade_Dice__Arg ((),(1:Int),L,a5,()) from rfl] at e3
     have hchk:chkI (args.length:Int) v=some v.toNat:=chkI_int v0 v1
     obtain⟨y,hy⟩:∃y,args[v.toNat]?=some y:=⟨_,List.getElem?_eq_getElem (by omega)⟩
     have hset:=upd7 (gA y (List.mem_of_getElem? hy)) (.v (.int .i64 k)) (.v (.bool neg)) (.sl 1 num) (.sl 1 den) (.v (.string text)) (.v (.int .i64 ref)) (.sl 7 q)
     obtain⟨args2,eA⟩:∃args2,args2=args.set v.toNat (.agg [.v (.int .i64 k),.v (.bool neg),.sl 1 num,.sl 1 den,.v (.string text),.v (.int .i64 ref),.sl 7 q]):=⟨_,rfl⟩
     have f1:1≤args2.length:=by rw[eA,List.length_set];exact g1
     have f4:args2.length≤4:=by rw[eA,List.length_set];exact g4
     have fA:∀x∈args2,OkA 3 x:=fun x hx=>by
      rw[eA] at hx
      rcases set_mem hx with hx | hx
      ·exact gA x hx
      ·rw[hx];exact OkA.le hA (by decide)
     obtain⟨b2,a3,e4,ha3⟩:=s_Bool ha2 (n:=30) (by decide) (by decide)
     have hcut:=cut1 (l:=args2) f1
     cases b2 with
     | true=>
      obtain⟨b3,a4,e5,ha4⟩:=s_Bool ha3 (n:=30) (by decide) (by decide)
      cases b3 with
      | true=>
       refine⟨_,?_,⟨i+1,a4,l++[entT ((i+1:Nat):Int) (ByteArray.mk #[88]) (cutN args2 1 ((args2.length:Int)-1).toNat)],rfl,by omega,by simp;omega,fun x hx=>?_,ha4⟩,?_⟩
       ·unfold u___brepkernelmade_Dice__Small_l0
        simp only[ltI_eq,addI_eq,lenL_eq]
        rw[decide_eq_true (by omega),idxL_nat,hx]
        simp only[cond_true,cond_false,obS,hc0,hc1,hrw,hrm,e1,onS_l,e2,e3,hchk,idxN_eq,hy,hset,←eA,e4,e5,hcut,T_str,hw]
        rw[room_ok (by simp;omega) (by decide)]
        rfl
       ·rcases List.mem_append.1 hx with hx | hx
        ·exact hle x hx
        ·rw[List.mem_singleton] at hx
         exact hx▸ent3 (Nat.le_trans cut_len f4) fun x hx=>fA x (cut_mem hx)
       ·show (16-((i+1:Nat):Int)).toNat<(16-(i:Int)).toNat
        omega
      | false=>
       refine⟨_,?_,⟨i+1,a4,l++[entT ((i+1:Nat):Int) name (cutN args2 1 ((args2.length:Int)-1).toNat)],rfl,by omega,by simp;omega,fun x hx=>?_,ha4⟩,?_⟩
       ·unfold u___brepkernelmade_Dice__Small_l0
        simp only[ltI_eq,addI_eq,lenL_eq]
        rw[decide_eq_true (by omega),idxL_nat,hx]
        simp only[cond_true,cond_false,obS,hc0,hc1,hrw,hrm,e1,onS_l,e2,e3,hchk,idxN_eq,hy,hset,←eA,e4,e5,hcut,T_str,hw]
        rw[room_ok (by simp;omega) (by decide)]
        rfl
       ·rcases List.mem_append.1 hx with hx | hx
        ·exact hle x hx
        ·rw[List.mem_singleton] at hx
         exact hx▸ent3 (Nat.le_trans cut_len f4) fun x hx=>fA x (cut_mem hx)
       ·show (16-((i+1:Nat):Int)).toNat<(16-(i:Int)).toNat
        omega
     | false=>
      obtain⟨b3,a4,e5,ha4⟩:=s_Bool ha3 (n:=30) (by decide) (by decide)
      cases b3 with
      | true=>
       refine⟨_,?_,⟨i+1,a4,l++[entT ((i+1:Nat):Int) (ByteArray.mk #[88]) args2],rfl,by omega,by simp;omega,fun x hx=>?_,ha4⟩,?_⟩
       ·unfold u___brepkernelmade_Dice__Small_l0
        simp only[ltI_eq,addI_eq,lenL_eq]
        rw[decide_eq_true (by omega),idxL_nat,hx]
        simp only[cond_true,cond_false,obS,hc0,hc1,hrw,hrm,e1,onS_l,e2,e3,hchk,idxN_eq,hy,hset,←eA,e4,e5,T_str,hw]
        rw[room_ok (by simp;omega) (by decide)]
        rfl
       ·rcases List.mem_append.1 hx with hx | hx
        ·exact hle x hx
        ·rw[List.mem_singleton] at hx
         exact hx▸ent3 f4 fA
       ·show (16-((i+1:Nat):Int)).toNat<(16-(i:Int)).toNat
        omega
      | false=>
       refine⟨_,?_,⟨i+1,a4,l++[entT ((i+1:Nat):Int) name args2],rfl,by omega,by simp;omega,fun x hx=>?_,ha4⟩,?_⟩
       ·unfold u___brepkernelmade_Dice__Small_l0
        simp only[ltI_eq,addI_eq,lenL_eq]
        rw[decide_eq_true (by omega),idxL_nat,hx]
        simp only[cond_true,cond_false,obS,hc0,hc1,hrw,hrm,e1,onS_l,e2,e3,hchk,idxN_eq,hy,hset,←eA,e4,e5,T_str,hw]
        rw[room_ok (by simp;omega) (by decide)]
        rfl
       ·rcases List.mem_append.1 hx with hx | hx
        ·exact hle x hx
        ·rw[List.mem_singleton] at hx
         exact hx▸ent3 f4 fA
       ·show (16-((i+1:Nat):Int)).toNat<(16-(i:Int)).toNat
        omega
    | false=>
     have f1:=g1
     have f4:=g4
     have fA:=gA
     obtain⟨b2,a3,e4,ha3⟩:=s_Bool ha1 (n:=30) (by decide) (by decide)
     have hcut:=cut1 (l:=args) f1
     cases b2 with
     | true=>
      obtain⟨b3,a4,e5,ha4⟩:=s_Bool ha3 (n:=30) (by decide) (by decide)
      cases b3 with
      | true=>
       refine⟨_,?_,⟨i+1,a4,l++[entT ((i+1:Nat):Int) (ByteArray.mk #[88]) (cutN args 1 ((args.length:Int)-1).toNat)],rfl,by omega,by simp;omega,fun x hx=>?_,ha4⟩,?_⟩
       ·unfold u___brepkernelmade_Dice__Small_l0
        simp only[ltI_eq,addI_eq,lenL_eq]
        rw[decide_eq_true (by omega),idxL_nat,hx]
        simp only[cond_true,cond_false,obS,hc0,hc1,hrw,hrm,e1,onS_l,e4,e5,hcut,T_str,hw]
        rw[room_ok (by simp;omega) (by decide)]
        rfl
       ·rcases List.mem_append.1 hx with hx | hx
        ·exact hle x hx
        ·rw[List.mem_singleton] at hx
         exact hx▸ent3 (Nat.le_trans cut_len f4) fun x hx=>fA x (cut_mem hx)
       ·show (16-((i+1:Nat):Int)).toNat<(16-(i:Int)).toNat
        omega
      | false=>
       refine⟨_,?_,⟨i+1,a4,l++[entT ((i+1:Nat):Int) name (cutN args 1 ((args.length:Int)-1).toNat)],rfl,by omega,by simp;omega,fun x hx=>?_,ha4⟩,?_⟩
       ·unfold u___brepkernelmade_Dice__Small_l0
        simp only[ltI_eq,addI_eq,lenL_eq]
        rw[decide_eq_true (by omega),idxL_nat,hx]
        simp only[cond_true,cond_false,obS,hc0,hc1,hrw,hrm,e1,onS_l,e4,e5,hcut,T_str,hw]
        rw[room_ok (by simp;omega) (by decide)]
        rfl
       ·rcases List.mem_append.1 hx with hx | hx
        ·exact hle x hx
        ·rw[List.mem_singleton] at hx
         exact hx▸ent3 (Nat.le_trans cut_len f4) fun x hx=>fA x (cut_mem hx)
       ·show (16-((i+1:Nat):Int)).toNat<(16-(i:Int)).toNat
        omega
     | false=>
      obtain⟨b3,a4,e5,ha4⟩:=s_Bool ha3 (n:=30) (by decide) (by decide)
      cases b3 with
      | true=>
       refine⟨_,?_,⟨i+1,a4,l++[entT ((i+1:Nat):Int) (ByteArray.mk #[88]) args],rfl,by omega,by simp;omega,fun x hx=>?_,ha4⟩,?_⟩
       ·unfold u___brepkernelmade_Dice__Small_l0
        simp only[ltI_eq,addI_eq,lenL_eq]
        rw[decide_eq_true (by omega),idxL_nat,hx]
        simp only[cond_true,cond_false,obS,hc0,hc1,hrw,hrm,e1,onS_l,e4,e5,T_str,hw]
        rw[room_ok (by simp;omega) (by decide)]
        rfl
       ·rcases List.mem_append.1 hx with hx | hx
        ·exact hle x hx
        ·rw[List.mem_singleton] at hx
         exact hx▸ent3 f4 fA
       ·show (16-((i+1:Nat):Int)).toNat<(16-(i:Int)).toNat
        omega
      | false=>
       refine⟨_,?_,⟨i+1,a4,l++[entT ((i+1:Nat):Int) name args],rfl,by omega,by simp;omega,fun x hx=>?_,ha4⟩,?_⟩
       ·unfold u___brepkernelmade_Dice__Small_l0
        simp only[ltI_eq,addI_eq,lenL_eq]
        rw[decide_eq_true (by omega),idxL_nat,hx]
        simp only[cond_true,cond_false,obS,hc0,hc1,hrw,hrm,e1,onS_l,e4,e5,T_str,hw]
        rw[room_ok (by simp;omega) (by decide)]
        rfl
       ·rcases List.mem_append.1 hx with hx | hx
        ·exact hle x hx
        ·rw[List.mem_singleton] at hx
         exact hx▸ent3 f4 fA
       ·show (16-((i+1:Nat):Int)).toNat<(16-(i:Int)).toNat
        omega
   ·right
    refine⟨_,?_,l,a,rfl,⟨by omega,hle⟩,ha⟩
    unfold u___brepkernelmade_Dice__Small_l0
    simp only[ltI_eq,lenL_eq]
    rw[decide_eq_false (by omega)]
    rfl) _ ⟨0,a,[],rfl,by omega,rfl,fun x hx=>by simp at hx,ha⟩
 exact⟨l,a',h2▸h1,h3,h4⟩
end Go.Eng.En
namespace Go.Eng.En
open Go.Eng Rt
theorem ac{p:T→Prop}{a:T}{l:List T}(h:p a)(hl:∀x∈l,p x):∀x∈a::l,p x:=fun x hx=>by
 rcases List.mem_cons.1 hx with rfl | hx
 ·exact h
 ·exact hl x hx
theorem an{p:T→Prop}:∀x∈([]:List T),p x:=fun x hx=>by cases hx
theorem arg_list{n:Nat}{text:ByteArray}{l:List T}(hl:l.length≤4)(h:∀x∈l,OkA n x):OkA (n+1) (argT 6 false [] [] text 0 l):=⟨6,false,[],[],text,0,l,rfl,hl,h,zero_q⟩
theorem arg_one{n:Nat}{text:ByteArray}:OkA (n+1) (argT 2 (decide ((1:Int)<0)) (lm (1:Int).natAbs) [] text 0 []):=⟨2,_,_,_,text,0,[],rfl,by simp,fun x hx=>by simp at hx,int_q (by decide)⟩
theorem s_Small{L:List T}{a:Int}(ha:DiceOK L a):∃H D a',u___brepkernelmade_Dice__Small ((),L,a,())=some (H,D,L,a',())∧OkD D∧DiceOK L a':=by
 have key:∀RL:List T,RL.length≤16→(∀x∈RL,OkRec x)→∃H D a',(ob (loopU u___brepkernelmade_Dice__Small_l0 ((),(),RL,(),(0:Int),L,a,T.v (.slice none 0 0),T.v (.slice none 0 0),T.v (.slice none 0 0),[],())) fun q34=>onS q34 (fun t35=>(ob (T.sl? 2 t35.2.2.2.2.2.2.1) fun x36=>(some (x36,t35.2.2.2.2.2.2.2.1,t35.2.2.1,t35.2.2.2.1,())))) fun q37=>noS q37)=some (H,D,L,a',())∧OkD D∧DiceOK L a':=by
  intro RL h1 h2
  obtain⟨D,a',e,hD,ha'⟩:=small_l0 (t1:=.v (.slice none 0 0)) (t2:=.v (.slice none 0 0)) (t3:=.v (.slice none 0 0)) h1 h2 ha
  rw[e]
  exact⟨[],D,a',rfl,hD,ha'⟩
 unfold u___brepkernelmade_Dice__Small
 rw[s_Int (n:=1) (by decide)]
 simp only[obS,u___brepkernelmade_Dice__Small_1]
 refine key _ (by show (9:Nat)≤16;decide) ?_
 have three:∀{n:Nat} {text t2 t3 t4:ByteArray},OkA (n+2) (argT 6 false [] [] text 0 [argT 2 false [] [] t2 0 [],argT 1 false [] [] t3 0 [],argT 2 (decide ((1:Int)<0)) (lm (1:Int).natAbs) [] t4 0 []]):=arg_list (by simp) (ac arg_plain (ac arg_plain (ac arg_one an)))
 refine ac ⟨_,_,rfl,by decide,by decide,ac (arg_plain (n:=2)) (ac (three (n:=1)) an)⟩ ?_
 refine ac ⟨_,_,rfl,by decide,by decide,ac (arg_plain (n:=2)) (ac (three (n:=1)) an)⟩ ?_
 refine ac ⟨_,_,rfl,by decide,by decide,ac (arg_plain (n:=2)) (ac (arg_plain (n:=2)) (ac (arg_plain (n:=2)) an))⟩ ?_
 refine ac ⟨_,_,rfl,by decide,by decide,ac (arg_plain (n:=2)) (ac (arg_list (n:=2) (by decide) (ac arg_plain (ac arg_plain (ac arg_plain an)))) an)⟩ ?_
 refine ac ⟨_,_,rfl,by decide,by decide,ac (arg_plain (n:=2)) (ac (arg_plain (n:=2)) (ac (arg_plain (n:=2)) an))⟩ ?_
 refine ac ⟨_,_,rfl,by decide,by decide,ac (arg_plain (n:=2)) (ac (arg_list (n:=2) (by decide) (ac arg_plain an)) (ac (arg_plain (n:=2)) (ac (arg_plain (n:=2)) an)))⟩ ?_
 refine ac ⟨_,_,rfl,by decide,by decide,ac (arg_plain (n:=2)) (ac (arg_list (n:=2) (by decide) (ac arg_plain an)) an)⟩ ?_
 refine ac ⟨_,_,rfl,by decide,by decide,ac (arg_plain (n:=2)) (ac (arg_plain (n:=2)) an)⟩ ?_
 exact ac ⟨_,_,rfl,by decide,by decide,ac (arg_plain (n:=2)) (ac (arg_plain (n:=2)) (ac (arg_plain (n:=2)) an))⟩ an
end Go.Eng.En
namespace Go.Eng
theorem le_lpr{S E:Type}{F:S→Option (S⊕E)}(n:Nat)(s:S):Le (iter F n s) (loopU F s):=le_loop (fun _=>le_rfl) n s
noncomputable def v_ref01_Trim(n:Nat)(t:((List T)×Unit)):Option ((List T)×Unit):=
 (ob (iter u_ref01_Trim_l0 n (t.1,(Go.Eng.lenL t.1),())) fun q3=>onS q3 (fun t4=>(ob (Go.Eng.cutL t4.1 (0:Int) t4.2.1) fun x5=>(ob (Go.Eng.room [] x5 4) fun x6=>(some (x6,()))))) fun q7=>noS q7)
theorem le_ref01_Trim(n:Nat)(t:((List T)×Unit)):Le (v_ref01_Trim n t) (u_ref01_Trim t):=by
 unfold v_ref01_Trim u_ref01_Trim
 repeat' with_reducible first | exact le_rfl | refine le_cond ?_ ?_ | refine le_onS (fun _=>?_) fun _=>?_ | refine le_ob ?_ fun _=>?_ | refine le_both ?_ ?_ | exact le_lpr _ _
noncomputable def v_ref01_Of(n:Nat)(t:(Int×Unit)):Option ((List T)×Unit):=
 (ob (Go.Eng.nn (32:Int)) fun x0=>(ob (Go.Eng.v_ref01_Trim n ([(Go.Eng.T.v (Go.Value.int Go.IntKind.u32 (Go.Eng.wr Go.IntKind.u32 t.1))),(Go.Eng.T.v (Go.Value.int Go.IntKind.u32 (Go.Eng.wr Go.IntKind.u32 (Go.Eng.shrI Go.IntKind.u64 t.1 x0))))],())) fun x1=>(some (x1.1,()))))
theorem le_ref01_Of(n:Nat)(t:(Int×Unit)):Le (v_ref01_Of n t) (u_ref01_Of t):=by
 unfold v_ref01_Of u_ref01_Of
 repeat' with_reducible first | exact le_rfl | refine le_cond ?_ ?_ | refine le_onS (fun _=>?_) fun _=>?_ | refine le_ob ?_ fun _=>?_ | refine le_both ?_ ?_ | exact le_ref01_Trim n _
noncomputable def v_ref01_Cmp(n:Nat)(t:((List T)×(List T)×Unit)):Option (Int×Unit):=
 (bif (Bool.not (Go.Eng.eqI (Go.Eng.lenL t.1) (Go.Eng.lenL t.2.1))) then (bif (Go.Eng.ltI (Go.Eng.lenL t.1) (Go.Eng.lenL t.2.1)) then (some ((-1:Int),())) else (some ((1:Int),()))) else (ob (iter u_ref01_Cmp_l0 n (t.1,t.2.1,(Go.Eng.wr Go.IntKind.i64 (Go.Eng.subI (Go.Eng.lenL t.1) (1:Int))),())) fun q9=>onS q9 (fun t10=>(some (t10.1,()))) fun q11=>onS q11 (fun t12=>(some ((0:Int),()))) fun q13=>noS q13))
theorem le_ref01_Cmp(n:Nat)(t:((List T)×(List T)×Unit)):Le (v_ref01_Cmp n t) (u_ref01_Cmp t):=by
 unfold v_ref01_Cmp u_ref01_Cmp
 repeat' with_reducible first | exact le_rfl | refine le_cond ?_ ?_ | refine le_onS (fun _=>?_) fun _=>?_ | refine le_ob ?_ fun _=>?_ | refine le_both ?_ ?_ | exact le_lpr _ _
noncomputable def v_ref01_Mul_l0(n:Nat)(s1:(List T×List T×List T×Int×Unit)):Option ((List T×List T×List T×Int×Unit)⊕((List T×Unit)⊕Empty)):=
 (bif (Go.Eng.ltI s1.2.2.2.1 (Go.Eng.lenL s1.1)) then (ob (iter u_ref01_Mul_l1 n (s1.1,s1.2.1,s1.2.2.1,s1.2.2.2.1,(0:Int),(0:Int),())) fun q13=>onS q13 (fun t14=>(ob (Go.Eng.chkI (Go.Eng.lenL t14.2.2.1) (Go.Eng.wr Go.IntKind.i64 (Go.Eng.addI t14.2.2.2.1 (Go.Eng.lenL t14.2.1)))) fun x15=>(ob (Go.Eng.idxN t14.2.2.1 x15) fun x16=>(some (Sum.inl (t14.1,t14.2.1,(List.set t14.2.2.1 x15 (Go.Eng.T.upd 1 x16 0 [(Go.Eng.T.v (Go.Value.int Go.IntKind.u32 (Go.Eng.wr Go.IntKind.u32 t14.2.2.2.2.1)))])),(Go.Eng.wr Go.IntKind.i64 (Go.Eng.addI t14.2.2.2.1 (1:Int))),())))))) fun q17=>noS q17) else (some (Sum.inr (Sum.inl (s1.2.2.1,())))))
theorem le_ref01_Mul_l0(n:Nat)(s1:(List T×List T×List T×Int×Unit)):Le (v_ref01_Mul_l0 n s1) (u_ref01_Mul_l0 s1):=by
 unfold v_ref01_Mul_l0 u_ref01_Mul_l0
 repeat' with_reducible first | exact le_rfl | refine le_cond ?_ ?_ | refine le_onS (fun _=>?_) fun _=>?_ | refine le_ob ?_ fun _=>?_ | refine le_both ?_ ?_ | exact le_lpr _ _
noncomputable def v_ref01_Mul(n:Nat)(t:((List T)×(List T)×Unit)):Option ((List T)×Unit):=
 (ob (Go.Eng.mkLen (Go.Eng.wr Go.IntKind.i64 (Go.Eng.addI (Go.Eng.lenL t.1) (Go.Eng.lenL t.2.1))) (Go.Eng.wr Go.IntKind.i64 (Go.Eng.addI (Go.Eng.lenL t.1) (Go.Eng.lenL t.2.1))) 4) fun x0=>(ob (iter (v_ref01_Mul_l0 n) n (t.1,t.2.1,(Go.Eng.repL x0.1 (Go.Eng.T.v (Go.Value.int Go.IntKind.u32 (0:Int)))),(0:Int),())) fun q18=>onS q18 (fun t19=>(ob (Go.Eng.v_ref01_Trim n (t19.1,())) fun x20=>(some (x20.1,())))) fun q21=>noS q21))
theorem le_ref01_Mul(n:Nat)(t:((List T)×(List T)×Unit)):Le (v_ref01_Mul n t) (u_ref01_Mul t):=by
 unfold v_ref01_Mul u_ref01_Mul
 repeat' with_reducible first | exact le_rfl | refine le_cond ?_ ?_ | refine le_onS (fun _=>?_) fun _=>?_ | refine le_ob ?_ fun _=>?_ | refine le_both ?_ ?_ | exact le_ref01_Trim n _ | exact le_loop (le_ref01_Mul_l0 n) _ _
noncomputable def v_ref01_minus(n:Nat)(t:((List T)×(List T)×Unit)):Option ((List T)×Unit):=
 (ob (Go.Eng.mkLen (Go.Eng.lenL t.1) (Go.Eng.lenL t.1) 4) fun x0=>(ob (iter u_ref01_minus_l0 n (t.1,t.2.1,(Go.Eng.repL x0.1 (Go.Eng.T.v (Go.Value.int Go.IntKind.u32 (0:Int)))),(0:Int),(0:Int),())) fun q14=>onS q14 (fun t15=>(ob (Go.Eng.v_ref01_Trim n (t15.1,())) fun x16=>(some (x16.1,())))) fun q17=>noS q17))
theorem le_ref01_minus(n:Nat)(t:((List T)×(List T)×Unit)):Le (v_ref01_minus n t) (u_ref01_minus t):=by
 unfold v_ref01_minus u_ref01_minus
 repeat' with_reducible first | exact le_rfl | refine le_cond ?_ ?_ | refine le_onS (fun _=>?_) fun _=>?_ | refine le_ob ?_ fun _=>?_ | refine le_both ?_ ?_ | exact le_ref01_Trim n _ | exact le_lpr _ _
noncomputable def v_ref01_Bits(n:Nat)(t:((List T)×Unit)):Option (Int×Unit):=
 (bif (Go.Eng.eqI (Go.Eng.lenL t.1) (0:Int)) then (some ((0:Int),())) else (ob (Go.Eng.idxL t.1 (Go.Eng.wr Go.IntKind.i64 (Go.Eng.subI (Go.Eng.lenL t.1) (1:Int)))) fun x0=>(ob (Go.Eng.T.int? Go.IntKind.u32 (Go.Eng.T.cell x0 0)) fun x3=>(ob (iter u_ref01_Bits_l0 n ((Go.Eng.wr Go.IntKind.i64 (Go.Eng.mulI (32:Int) (Go.Eng.wr Go.IntKind.i64 (Go.Eng.subI (Go.Eng.lenL t.1) (1:Int))))),x3,())) fun q4=>onS q4 (fun t5=>(some (t5.1,()))) fun q6=>noS q6))))
theorem le_ref01_Bits(n:Nat)(t:((List T)×Unit)):Le (v_ref01_Bits n t) (u_ref01_Bits t):=by
 unfold v_ref01_Bits u_ref01_Bits
 repeat' with_reducible first | exact le_rfl | refine le_cond ?_ ?_ | refine le_onS (fun _=>?_) fun _=>?_ | refine le_ob ?_ fun _=>?_ | refine le_both ?_ ?_ | exact le_lpr _ _
noncomputable def v_ref01_up(n:Nat)(t:((List T)×Int×Unit)):Option ((List T)×Unit):=
 (ob (Go.Eng.mkLen (Go.Eng.wr Go.IntKind.i64 (Go.Eng.divI t.2.1 (32:Int))) (Go.Eng.wr Go.IntKind.i64 (Go.Eng.divI t.2.1 (32:Int))) 4) fun x0=>(ob (iter u_ref01_up_l0 n (t.1,t.2.1,(Go.Eng.repL x0.1 (Go.Eng.T.v (Go.Value.int Go.IntKind.u32 (0:Int)))),(0:Int),(0:Int),())) fun q7=>onS q7 (fun t8=>(ob (Go.Eng.room t8.1 [(Go.Eng.T.v (Go.Value.int Go.IntKind.u32 (Go.Eng.wr Go.IntKind.u32 t8.2.1)))] 4) fun x9=>(ob (Go.Eng.v_ref01_Trim n (x9,())) fun x10=>(some (x10.1,()))))) fun q11=>noS q11))
theorem le_ref01_up(n:Nat)(t:((List T)×Int×Unit)):Le (v_ref01_up n t) (u_ref01_up t):=by
 unfold v_ref01_up u_ref01_up
 repeat' with_reducible first | exact le_rfl | refine le_cond ?_ ?_ | refine le_onS (fun _=>?_) fun _=>?_ | refine le_ob ?_ fun _=>?_ | refine le_both ?_ ?_ | exact le_ref01_Trim n _ | exact le_lpr _ _
noncomputable def v_ref01_times(n:Nat)(t:((List T)×Int×Unit)):Option ((List T)×Unit):=
 (ob (Go.Eng.v_ref01_Of n ((Go.Eng.wr Go.IntKind.u64 t.2.1),())) fun x0=>(ob (Go.Eng.v_ref01_Mul n (t.1,x0.1,())) fun x1=>(some (x1.1,()))))
theorem le_ref01_times(n:Nat)(t:((List T)×Int×Unit)):Le (v_ref01_times n t) (u_ref01_times t):=by
 unfold v_ref01_times u_ref01_times
 repeat' with_reducible first | exact le_rfl | refine le_cond ?_ ?_ | refine le_onS (fun _=>?_) fun _=>?_ | refine le_ob ?_ fun _=>?_ | refine le_both ?_ ?_ | exact le_ref01_Of n _ | exact le_ref01_Mul n _
noncomputable def v_ref01_byLimb(n:Nat)(t:((List T)×Int×Unit)):Option ((List T)×Int×Unit):=
 (ob (Go.Eng.mkLen (Go.Eng.lenL t.1) (Go.Eng.lenL t.1) 4) fun x0=>(ob (iter u_ref01_byLimb_l0 n (t.1,t.2.1,(Go.Eng.repL x0.1 (Go.Eng.T.v (Go.Value.int Go.IntKind.u32 (0:Int)))),(0:Int),(Go.Eng.wr Go.IntKind.i64 (Go.Eng.subI (Go.Eng.lenL t.1) (1:Int))),())) fun q9=>onS q9 (fun t10=>(ob (Go.Eng.v_ref01_Trim n (t10.1,())) fun x11=>(some (x11.1,(Go.Eng.wr Go.IntKind.u32 t10.2.1),())))) fun q12=>noS q12))
theorem le_ref01_byLimb(n:Nat)(t:((List T)×Int×Unit)):Le (v_ref01_byLimb n t) (u_ref01_byLimb t):=by
 unfold v_ref01_byLimb u_ref01_byLimb
 repeat' with_reducible first | exact le_rfl | refine le_cond ?_ ?_ | refine le_onS (fun _=>?_) fun _=>?_ | refine le_ob ?_ fun _=>?_ | refine le_both ?_ ?_ | exact le_ref01_Trim n _ | exact le_lpr _ _
noncomputable def v_ref01_down(n:Nat)(t:((List T)×Int×Unit)):Option ((List T)×Unit):=
 (bif (Go.Eng.leI (Go.Eng.lenL t.1) (Go.Eng.wr Go.IntKind.i64 (Go.Eng.divI t.2.1 (32:Int)))) then (some ([],())) else (ob (Go.Eng.cutL t.1 (Go.Eng.wr Go.IntKind.i64 (Go.Eng.divI t.2.1 (32:Int))) (Go.Eng.lenL t.1)) fun x0=>(ob (Go.Eng.mkLen (Go.Eng.lenL x0) (Go.Eng.lenL x0) 4) fun x1=>(ob (iter u_ref01_down_l0 n (x0,t.2.1,(Go.Eng.repL x1.1 (Go.Eng.T.v (Go.Value.int Go.IntKind.u32 (0:Int)))),(0:Int),())) fun q14=>onS q14 (fun t15=>(ob (Go.Eng.v_ref01_Trim n (t15.1,())) fun x16=>(some (x16.1,())))) fun q17=>noS q17))))
theorem le_ref01_down(n:Nat)(t:((List T)×Int×Unit)):Le (v_ref01_down n t) (u_ref01_down t):=by
 unfold v_ref01_down u_ref01_down
 repeat' with_reducible first | exact le_rfl | refine le_cond ?_ ?_ | refine le_onS (fun _=>?_) fun _=>?_ | refine le_ob ?_ fun _=>?_ | refine le_both ?_ ?_ | exact le_ref01_Trim n _ | exact le_lpr _ _
noncomputable def v_ref01_Div_l1(n:Nat)(s33:(List T×List T×List T×Int×Int×Int×Int×List T×Unit)):Option ((List T×List T×List T×Int×Int×Int×Int×List T×Unit)⊕((List T×List T×List T×Int×Int×Int×Int×List T×Unit)⊕Empty)):=
 (ob (Go.Eng.v_ref01_Cmp n (s33.2.2.2.2.2.2.2.1,s33.2.2.1,())) fun x34=>(bif (Go.Eng.ltI (0:Int) x34.1) then (ob (Go.Eng.u_ref01_shifted (s33.1,s33.2.2.2.2.2.1,())) fun x35=>(ob (Go.Eng.v_ref01_minus n (s33.2.2.2.2.2.2.2.1,x35.1,())) fun x36=>(some (Sum.inl (s33.1,s33.2.1,s33.2.2.1,s33.2.2.2.1,s33.2.2.2.2.1,s33.2.2.2.2.2.1,(Go.Eng.wr Go.IntKind.u64 (Go.Eng.subI s33.2.2.2.2.2.2.1 (1:Int))),x36.1,()))))) else (some (Sum.inr (Sum.inl (s33.1,s33.2.1,s33.2.2.1,s33.2.2.2.1,s33.2.2.2.2.1,s33.2.2.2.2.2.1,s33.2.2.2.2.2.2.1,s33.2.2.2.2.2.2.2.1,()))))))
theorem le_ref01_Div_l1(n:Nat)(s33:(List T×List T×List T×Int×Int×Int×Int×List T×Unit)):Le (v_ref01_Div_l1 n s33) (u_ref01_Div_l1 s33):=by
 unfold v_ref01_Div_l1 u_ref01_Div_l1
 repeat' with_reducible first | exact le_rfl | refine le_cond ?_ ?_ | refine le_onS (fun _=>?_) fun _=>?_ | refine le_ob ?_ fun _=>?_ | refine le_both ?_ ?_ | exact le_ref01_Cmp n _ | exact le_ref01_minus n _
noncomputable def v_ref01_Div_l0(n:Nat)(s17:(List T×List T×List T×Int×Int×Int×Unit)):Option ((List T×List T×List T×Int×Int×Int×Unit)⊕((List T×List T×Int×Unit)⊕Empty)):=
 (bif (Go.Eng.leI (0:Int) s17.2.2.2.2.2.1) then (ob (α:=((List T×List T×List T×Int×Int×Int×Int×Unit)⊕Empty)) (bif (Go.Eng.ltI (Go.Eng.wr Go.IntKind.i64 (Go.Eng.addI s17.2.2.2.2.2.1 s17.2.2.2.2.1)) (Go.Eng.lenL s17.2.2.1)) then (ob (Go.Eng.idxL s17.2.2.1 (Go.Eng.wr Go.IntKind.i64 (Go.Eng.addI s17.2.2.2.2.2.1 s17.2.2.2.2.1))) fun x18=>(ob (Go.Eng.T.anyInt? (Go.Eng.T.cell x18 0)) fun x19=>(some (Sum.inl (s17.1,s17.2.1,s17.2.2.1,s17.2.2.2.1,s17.2.2.2.2.1,s17.2.2.2.2.2.1,(Go.Eng.wr Go.IntKind.u64 x19),()))))) else (some (Sum.inl (s17.1,s17.2.1,s17.2.2.1,s17.2.2.2.1,s17.2.2.2.2.1,s17.2.2.2.2.2.1,(0:Int),())))) fun q20=>onS q20 (fun t21=>(ob (α:=((List T×List T×List T×Int×Int×Int×Int×Unit)⊕Empty)) (bif (Go.Eng.ltI (Go.Eng.wr Go.IntKind.i64 (Go.Eng.subI (Go.Eng.wr Go.IntKind.i64 (Go.Eng.addI t21.2.2.2.2.2.1 t21.2.2.2.2.1)) (1:Int))) (Go.Eng.lenL t21.2.2.1)) then (ob (Go.Eng.nn (32:Int)) fun x22=>(ob (Go.Eng.idxL t21.2.2.1 (Go.Eng.wr Go.IntKind.i64 (Go.Eng.subI (Go.Eng.wr Go.IntKind.i64 (Go.Eng.addI t21.2.2.2.2.2.1 t21.2.2.2.2.1)) (1:Int)))) fun x23=>(ob (Go.Eng.T.anyInt? (Go.Eng.T.cell x23 0)) fun x24=>(some (Sum.inl (t21.1,t21.2.1,t21.2.2.1,t21.2.2.2.1,t21.2.2.2.2.1,t21.2.2.2.2.2.1,(Go.Eng.bitI Go.BinOp.or Go.IntKind.u64 (Go.Eng.wr Go.IntKind.u64 (Go.Eng.shlI Go.IntKind.u64 t21.2.2.2.2.2.2.1 x22)) (Go.Eng.wr Go.IntKind.u64 x24)),())))))) else (ob (Go.Eng.nn (32:Int)) fun x25=>(some (Sum.inl (t21.1,t21.2.1,t21.2.2.1,t21.2.2.2.1,t21.2.2.2.2.1,t21.2.2.2.2.2.1,(Go.Eng.wr Go.IntKind.u64 (Go.Eng.shlI Go.IntKind.u64 t21.2.2.2.2.2.2.1 x25)),()))))) fun q26=>onS q26 (fun t27=>(ob (Go.Eng.idxL t27.1 (Go.Eng.wr Go.IntKind.i64 (Go.Eng.subI t27.2.2.2.2.1 (1:Int)))) fun x28=>(ob (Go.Eng.T.anyInt? (Go.Eng.T.cell x28 0)) fun x29=>(ob (Go.Eng.nz (Go.Eng.wr Go.IntKind.u64 x29)) fun x30=>(ob (Go.Eng.v_ref01_times n (t27.1,(Go.Eng.wr Go.IntKind.u32 (Go.Eng.mmI Bool.false (Go.Eng.wr Go.IntKind.u64 (Go.Eng.divI t27.2.2.2.2.2.2.1 x30)) (4294967295:Int))),())) fun x31=>(ob (Go.Eng.u_ref01_shifted (x31.1,t27.2.2.2.2.2.1,())) fun x32=>(ob (iter (v_ref01_Div_l1 n) n (t27.1,t27.2.1,t27.2.2.1,t27.2.2.2.1,t27.2.2.2.2.1,t27.2.2.2.2.2.1,(Go.Eng.mmI Bool.false (Go.Eng.wr Go.IntKind.u64 (Go.Eng.divI t27.2.2.2.2.2.2.1 x30)) (4294967295:Int)),x32.1,())) fun q37=>onS q37 (fun t38=>(ob (Go.Eng.chkI (Go.Eng.lenL t38.2.1) t38.2.2.2.2.2.1) fun x39=>(ob (Go.Eng.idxN t38.2.1 x39) fun x40=>(ob (Go.Eng.v_ref01_minus n (t38.2.2.1,t38.2.2.2.2.2.2.2.1,())) fun x41=>(some (Sum.inl (t38.1,(List.set t38.2.1 x39 (Go.Eng.T.upd 1 x40 0 [(Go.Eng.T.v (Go.Value.int Go.IntKind.u32 (Go.Eng.wr Go.IntKind.u32 t38.2.2.2.2.2.2.1)))])),x41.1,t38.2.2.2.1,t38.2.2.2.2.1,(Go.Eng.wr Go.IntKind.i64 (Go.Eng.subI t38.2.2.2.2.2.1 (1:Int))),()))))))) fun q42=>noS q42))))))) fun q43=>noS q43)) fun q44=>noS q44) else (some (Sum.inr (Sum.inl (s17.2.1,s17.2.2.1,s17.2.2.2.1,())))))
theorem le_ref01_Div_l0(n:Nat)(s17:(List T×List T×List T×Int×Int×Int×Unit)):Le (v_ref01_Div_l0 n s17) (u_ref01_Div_l0 s17):=by
 unfold v_ref01_Div_l0 u_ref01_Div_l0
 repeat' with_reducible first | exact le_rfl | refine le_cond ?_ ?_ | refine le_onS (fun _=>?_) fun _=>?_ | refine le_ob ?_ fun _=>?_ | refine le_both ?_ ?_ | exact le_ref01_times n _ | exact le_ref01_minus n _ | exact le_loop (le_ref01_Div_l1 n) _ _
noncomputable def v_ref01_Div(n:Nat)(t:((List T)×(List T)×Unit)):Option ((List T)×(List T)×Int×Unit):=
 (bif (Go.Eng.eqI (Go.Eng.lenL t.2.1) (0:Int)) then (some ([],[],(3:Int),())) else (ob (Go.Eng.v_ref01_Cmp n (t.1,t.2.1,())) fun x0=>(bif (Go.Eng.ltI x0.1 (0:Int)) then (ob (Go.Eng.v_ref01_Trim n (t.1,())) fun x1=>(some ([],x1.1,(0:Int),()))) else (ob (Go.Eng.u_ref01_small (t.1,())) fun x2=>(bif x2.2.1 then (ob (Go.Eng.u_ref01_small (t.2.1,())) fun x3=>(ob (Go.Eng.nz x3.1) fun x4=>(ob (Go.Eng.v_ref01_Of n ((Go.Eng.wr Go.IntKind.u64 (Go.Eng.divI x2.1 x4)),())) fun x5=>(ob (Go.Eng.nz x3.1) fun x6=>(ob (Go.Eng.v_ref01_Of n ((Go.Eng.modI x2.1 x6),())) fun x7=>(some (x5.1,x7.1,(0:Int),()))))))) else (bif (Go.Eng.eqI (Go.Eng.lenL t.2.1) (1:Int)) then (ob (Go.Eng.idxL t.2.1 (0:Int)) fun x8=>(ob (Go.Eng.T.int? Go.IntKind.u32 (Go.Eng.T.cell x8 0)) fun x9=>(ob (Go.Eng.v_ref01_byLimb n (t.1,x9,())) fun x10=>(ob (Go.Eng.v_ref01_Of n ((Go.Eng.wr Go.IntKind.u64 x10.2.1),())) fun x11=>(some (x10.1,x11.1,(0:Int),())))))) else (ob (Go.Eng.cutL t.2.1 (Go.Eng.wr Go.IntKind.i64 (Go.Eng.subI (Go.Eng.lenL t.2.1) (1:Int))) (Go.Eng.lenL t.2.1)) fun x12=>(ob (Go.Eng.v_ref01_Bits n (x12,())) fun x13=>(ob (Go.Eng.v_ref01_up n (t.2.1,(Go.Eng.wr Go.IntKind.i64 (Go.Eng.subI (32:Int) x13.1)),())) fun x14=>(ob (Go.Eng.v_ref01_up n (t.1,(Go.Eng.wr Go.IntKind.i64 (Go.Eng.subI (32:Int) x13.1)),())) fun x15=>(ob (Go.Eng.mkLen (Go.Eng.wr Go.IntKind.i64 (Go.Eng.addI (Go.Eng.wr Go.IntKind.i64 (Go.Eng.subI (Go.Eng.lenL x15.1) (Go.Eng.lenL x14.1))) (1:Int))) (Go.Eng.wr Go.IntKind.i64 (Go.Eng.addI (Go.Eng.wr Go.IntKind.i64 (Go.Eng.subI (Go.Eng.lenL x15.1) (Go.Eng.lenL x14.1))) (1:Int))) 4) fun x16=>(ob (iter (v_ref01_Div_l0 n) n (x14.1,(Go.Eng.repL x16.1 (Go.Eng.T.v (Go.Value.int Go.IntKind.u32 (0:Int)))),x15.1,(Go.Eng.wr Go.IntKind.i64 (Go.Eng.subI (32:Int) x13.1)),(Go.Eng.lenL x14.1),(Go.Eng.wr Go.IntKind.i64 (Go.Eng.subI (Go.Eng.lenL x15.1) (Go.Eng.lenL x14.1))),())) fun q45=>onS q45 (fun t46=>(ob (Go.Eng.v_ref01_Trim n (t46.1,())) fun x47=>(ob (Go.Eng.v_ref01_down n (t46.2.1,t46.2.2.1,())) fun x48=>(some (x47.1,x48.1,(0:Int),()))))) fun q49=>noS q49))))))))))))
theorem le_ref01_Div(n:Nat)(t:((List T)×(List T)×Unit)):Le (v_ref01_Div n t) (u_ref01_Div t):=by
 unfold v_ref01_Div u_ref01_Div
 repeat' with_reducible first | exact le_rfl | refine le_cond ?_ ?_ | refine le_onS (fun _=>?_) fun _=>?_ | refine le_ob ?_ fun _=>?_ | refine le_both ?_ ?_ | exact le_ref01_Cmp n _ | exact le_ref01_Trim n _ | exact le_ref01_Of n _ | exact le_ref01_byLimb n _ | exact le_ref01_Bits n _ | exact le_ref01_up n _ | exact le_ref01_down n _ | exact le_loop (le_ref01_Div_l0 n) _ _
noncomputable def v_ref01_Gcd_l0(n:Nat)(s2:(List T×List T×Unit)):Option ((List T×List T×Unit)⊕((List T×Unit)⊕((List T×Unit)⊕Empty))):=
 (bif (Go.Eng.ltI (0:Int) (Go.Eng.lenL s2.2.1)) then (ob (Go.Eng.u_ref01_small (s2.1,())) fun x3=>(ob (Go.Eng.u_ref01_small (s2.2.1,())) fun x4=>(bif x3.2.1 then (bif x4.2.1 then (ob (iter u_ref01_Gcd_l1 n (x3.1,x4.1,())) fun q7=>onS q7 (fun t8=>(ob (Go.Eng.v_ref01_Of n (t8.1,())) fun x9=>(some (Sum.inr (Sum.inl (x9.1,())))))) fun q10=>noS q10) else (ob (Go.Eng.v_ref01_Div n (s2.1,s2.2.1,())) fun x11=>(some (Sum.inl (s2.2.1,x11.2.1,()))))) else (ob (Go.Eng.v_ref01_Div n (s2.1,s2.2.1,())) fun x12=>(some (Sum.inl (s2.2.1,x12.2.1,()))))))) else (some (Sum.inr (Sum.inr (Sum.inl (s2.1,()))))))
theorem le_ref01_Gcd_l0(n:Nat)(s2:(List T×List T×Unit)):Le (v_ref01_Gcd_l0 n s2) (u_ref01_Gcd_l0 s2):=by
 unfold v_ref01_Gcd_l0 u_ref01_Gcd_l0
 repeat' with_reducible first | exact le_rfl | refine le_cond ?_ ?_ | refine le_onS (fun _=>?_) fun _=>?_ | refine le_ob ?_ fun _=>?_ | refine le_both ?_ ?_ | exact le_ref01_Of n _ | exact le_ref01_Div n _ | exact le_lpr _ _
noncomputable def v_ref01_Gcd(n:Nat)(t:((List T)×(List T)×Unit)):Option ((List T)×Unit):=
 (ob (Go.Eng.v_ref01_Trim n (t.1,())) fun x0=>(ob (Go.Eng.v_ref01_Trim n (t.2.1,())) fun x1=>(ob (iter (v_ref01_Gcd_l0 n) n (x0.1,x1.1,())) fun q13=>onS q13 (fun t14=>(some (t14.1,()))) fun q15=>onS q15 (fun t16=>(some (t16.1,()))) fun q17=>noS q17)))
theorem le_ref01_Gcd(n:Nat)(t:((List T)×(List T)×Unit)):Le (v_ref01_Gcd n t) (u_ref01_Gcd t):=by
 unfold v_ref01_Gcd u_ref01_Gcd
 repeat' with_reducible first | exact le_rfl | refine le_cond ?_ ?_ | refine le_onS (fun _=>?_) fun _=>?_ | refine le_ob ?_ fun _=>?_ | refine le_both ?_ ?_ | exact le_ref01_Trim n _ | exact le_loop (le_ref01_Gcd_l0 n) _ _
noncomputable def v_ref02_size(n:Nat)(t:(Int×Unit)):Option ((List T)×Bool×Unit):=
 (bif (Go.Eng.ltI t.1 (0:Int)) then (ob (Go.Eng.v_ref01_Of n ((Go.Eng.wr Go.IntKind.u64 (Go.Eng.addI (Go.Eng.wr Go.IntKind.u64 (Go.Eng.wr Go.IntKind.i64 (Go.Eng.subI (0:Int) (Go.Eng.wr Go.IntKind.i64 (Go.Eng.addI t.1 (1:Int)))))) (1:Int))),())) fun x0=>(some (x0.1,Bool.true,()))) else (ob (Go.Eng.v_ref01_Of n ((Go.Eng.wr Go.IntKind.u64 t.1),())) fun x1=>(some (x1.1,Bool.false,()))))
theorem le_ref02_size(n:Nat)(t:(Int×Unit)):Le (v_ref02_size n t) (u_ref02_size t):=by
 unfold v_ref02_size u_ref02_size
 repeat' with_reducible first | exact le_rfl | refine le_cond ?_ ?_ | refine le_onS (fun _=>?_) fun _=>?_ | refine le_ob ?_ fun _=>?_ | refine le_both ?_ ?_ | exact le_ref01_Of n _
noncomputable def v_ref02_reduce(n:Nat)(t:(Bool×(List T)×(List T)×Unit)):Option (Bool×(List T)×(List T)×Unit):=
 (ob (Go.Eng.v_ref01_Trim n (t.2.1,())) fun x0=>(ob (Go.Eng.v_ref01_Trim n (t.2.2.1,())) fun x1=>(bif (Go.Eng.eqI (Go.Eng.lenL x0.1) (0:Int)) then (some (Bool.false,[],[],())) else (ob (Go.Eng.v_ref01_Gcd n (x0.1,x1.1,())) fun x2=>(ob (α:=((Bool×List T×List T×Unit×Bool×T×T×Unit)⊕Empty)) (bif (Bool.not (Go.Eng.eqI (Go.Eng.lenL x2.1) (1:Int))) then (ob (Go.Eng.v_ref01_Div n (x0.1,x2.1,())) fun x3=>(ob (Go.Eng.v_ref01_Div n (x1.1,x2.1,())) fun x4=>(some (Sum.inl (t.1,x3.1,x4.1,(),Bool.false,(Go.Eng.T.v (Go.Value.slice (Option.none) 0 0)),(Go.Eng.T.v (Go.Value.slice (Option.none) 0 0)),()))))) else (ob (Go.Eng.idxL x2.1 (0:Int)) fun x5=>(ob (Go.Eng.T.int? Go.IntKind.u32 (Go.Eng.T.cell x5 0)) fun x6=>(bif (Bool.not (Go.Eng.eqI x6 (1:Int))) then (ob (Go.Eng.v_ref01_Div n (x0.1,x2.1,())) fun x7=>(ob (Go.Eng.v_ref01_Div n (x1.1,x2.1,())) fun x8=>(some (Sum.inl (t.1,x7.1,x8.1,(),Bool.false,(Go.Eng.T.v (Go.Value.slice (Option.none) 0 0)),(Go.Eng.T.v (Go.Value.slice (Option.none) 0 0)),()))))) else (some (Sum.inl (t.1,x0.1,x1.1,(),Bool.false,(Go.Eng.T.v (Go.Value.slice (Option.none) 0 0)),(Go.Eng.T.v (Go.Value.slice (Option.none) 0 0)),()))))))) fun q9=>onS q9 (fun t10=>(ob (α:=((Bool×List T×List T×Unit×Bool×T×T×Unit)⊕Empty)) (bif (Go.Eng.eqI (Go.Eng.lenL t10.2.2.1) (1:Int)) then (ob (Go.Eng.idxL t10.2.2.1 (0:Int)) fun x11=>(ob (Go.Eng.T.int? Go.IntKind.u32 (Go.Eng.T.cell x11 0)) fun x12=>(bif (Go.Eng.eqI x12 (1:Int)) then (some (Sum.inl (t10.1,t10.2.1,[],(),t10.2.2.2.2.1,t10.2.2.2.2.2.1,t10.2.2.2.2.2.2.1,()))) else (some (Sum.inl (t10.1,t10.2.1,t10.2.2.1,(),t10.2.2.2.2.1,t10.2.2.2.2.2.1,t10.2.2.2.2.2.2.1,())))))) else (some (Sum.inl (t10.1,t10.2.1,t10.2.2.1,(),t10.2.2.2.2.1,t10.2.2.2.2.2.1,t10.2.2.2.2.2.2.1,())))) fun q13=>onS q13 (fun t14=>(some (t14.1,t14.2.1,t14.2.2.1,()))) fun q15=>noS q15)) fun q16=>noS q16)))))
theorem le_ref02_reduce(n:Nat)(t:(Bool×(List T)×(List T)×Unit)):Le (v_ref02_reduce n t) (u_ref02_reduce t):=by
 unfold v_ref02_reduce u_ref02_reduce
 repeat' with_reducible first | exact le_rfl | refine le_cond ?_ ?_ | refine le_onS (fun _=>?_) fun _=>?_ | refine le_ob ?_ fun _=>?_ | refine le_both ?_ ?_ | exact le_ref01_Trim n _ | exact le_ref01_Gcd n _ | exact le_ref01_Div n _
noncomputable def v_ref02_Make(n:Nat)(t:(Int×Int×Unit)):Option (Bool×(List T)×(List T)×Int×Unit):=
 (bif (Go.Eng.eqI t.2.1 (0:Int)) then (some (Bool.false,[],[],(3:Int),())) else (ob (Go.Eng.v_ref02_size n (t.1,())) fun x0=>(ob (Go.Eng.v_ref02_size n (t.2.1,())) fun x1=>(ob (Go.Eng.v_ref02_reduce n ((Bool.not (Go.Eng.eqB x0.2.1 x1.2.1)),x0.1,x1.1,())) fun x2=>(some (x2.1,x2.2.1,x2.2.2.1,(0:Int),()))))))
theorem le_ref02_Make(n:Nat)(t:(Int×Int×Unit)):Le (v_ref02_Make n t) (u_ref02_Make t):=by
 unfold v_ref02_Make u_ref02_Make
 repeat' with_reducible first | exact le_rfl | refine le_cond ?_ ?_ | refine le_onS (fun _=>?_) fun _=>?_ | refine le_ob ?_ fun _=>?_ | refine le_both ?_ ?_ | exact le_ref02_size n _ | exact le_ref02_reduce n _
noncomputable def v_ref02_Frac(n:Nat)(t:(Int×Int×Unit)):Option (Bool×(List T)×(List T)×Unit):=
 (ob (Go.Eng.v_ref02_Make n (t.1,t.2.1,())) fun x0=>(some (x0.1,x0.2.1,x0.2.2.1,())))
theorem le_ref02_Frac(n:Nat)(t:(Int×Int×Unit)):Le (v_ref02_Frac n t) (u_ref02_Frac t):=by
 unfold v_ref02_Frac u_ref02_Frac
 repeat' with_reducible first | exact le_rfl | refine le_cond ?_ ?_ | refine le_onS (fun _=>?_) fun _=>?_ | refine le_ob ?_ fun _=>?_ | refine le_both ?_ ?_ | exact le_ref02_Make n _
noncomputable def v_ref02_Int(n:Nat)(t:(Int×Unit)):Option (Bool×(List T)×(List T)×Unit):=
 (ob (Go.Eng.v_ref02_size n (t.1,())) fun x0=>(some (x0.2.1,x0.1,[],())))
theorem le_ref02_Int(n:Nat)(t:(Int×Unit)):Le (v_ref02_Int n t) (u_ref02_Int t):=by
 unfold v_ref02_Int u_ref02_Int
 repeat' with_reducible first | exact le_rfl | refine le_cond ?_ ?_ | refine le_onS (fun _=>?_) fun _=>?_ | refine le_ob ?_ fun _=>?_ | refine le_both ?_ ?_ | exact le_ref02_size n _
noncomputable def v_natural_trim(n:Nat)(t:((List T)×Unit)):Option ((List T)×Unit):=
 (ob (iter u_natural_trim_l0 n (t.1,(Go.Eng.lenL t.1),())) fun q3=>onS q3 (fun t4=>(ob (Go.Eng.cutL t4.1 (0:Int) t4.2.1) fun x5=>(some (x5,())))) fun q6=>noS q6)
theorem le_natural_trim(n:Nat)(t:((List T)×Unit)):Le (v_natural_trim n t) (u_natural_trim t):=by
 unfold v_natural_trim u_natural_trim
 repeat' with_reducible first | exact le_rfl | refine le_cond ?_ ?_ | refine le_onS (fun _=>?_) fun _=>?_ | refine le_ob ?_ fun _=>?_ | refine le_both ?_ ?_ | exact le_lpr _ _
noncomputable def v_natural_Cmp(n:Nat)(t:((List T)×(List T)×Unit)):Option (Int×Unit):=
 (ob (Go.Eng.v_natural_trim n (t.1,())) fun x0=>(ob (Go.Eng.v_natural_trim n (t.2.1,())) fun x1=>(bif (Bool.not (Go.Eng.eqI (Go.Eng.lenL x0.1) (Go.Eng.lenL x1.1))) then (bif (Go.Eng.ltI (Go.Eng.lenL x0.1) (Go.Eng.lenL x1.1)) then (some ((-1:Int),())) else (some ((1:Int),()))) else (ob (iter u_natural_Cmp_l0 n (x0.1,x1.1,(Go.Eng.wr Go.IntKind.i64 (Go.Eng.subI (Go.Eng.lenL x0.1) (1:Int))),())) fun q11=>onS q11 (fun t12=>(some (t12.1,()))) fun q13=>onS q13 (fun t14=>(some ((0:Int),()))) fun q15=>noS q15))))
theorem le_natural_Cmp(n:Nat)(t:((List T)×(List T)×Unit)):Le (v_natural_Cmp n t) (u_natural_Cmp t):=by
 unfold v_natural_Cmp u_natural_Cmp
 repeat' with_reducible first | exact le_rfl | refine le_cond ?_ ?_ | refine le_onS (fun _=>?_) fun _=>?_ | refine le_ob ?_ fun _=>?_ | refine le_both ?_ ?_ | exact le_natural_trim n _ | exact le_lpr _ _
noncomputable def v_natural_Of(n:Nat)(t:(Int×Unit)):Option ((List T)×Unit):=
 (ob (Go.Eng.nn (32:Int)) fun x0=>(ob (Go.Eng.v_natural_trim n ([(Go.Eng.T.v (Go.Value.int Go.IntKind.u32 (Go.Eng.wr Go.IntKind.u32 t.1))),(Go.Eng.T.v (Go.Value.int Go.IntKind.u32 (Go.Eng.wr Go.IntKind.u32 (Go.Eng.shrI Go.IntKind.u64 t.1 x0))))],())) fun x1=>(some (x1.1,()))))
theorem le_natural_Of(n:Nat)(t:(Int×Unit)):Le (v_natural_Of n t) (u_natural_Of t):=by
 unfold v_natural_Of u_natural_Of
 repeat' with_reducible first | exact le_rfl | refine le_cond ?_ ?_ | refine le_onS (fun _=>?_) fun _=>?_ | refine le_ob ?_ fun _=>?_ | refine le_both ?_ ?_ | exact le_natural_trim n _
noncomputable def v_natural_raise(n:Nat)(t:((List T)×Int×Unit)):Option ((List T)×Unit):=
 (ob (Go.Eng.mkLen (Go.Eng.wr Go.IntKind.i64 (Go.Eng.addI (Go.Eng.lenL t.1) (1:Int))) (Go.Eng.wr Go.IntKind.i64 (Go.Eng.addI (Go.Eng.lenL t.1) (1:Int))) 4) fun x0=>(ob (iter u_natural_raise_l0 n (t.1,t.2.1,(Go.Eng.repL x0.1 (Go.Eng.T.v (Go.Value.int Go.IntKind.u32 (0:Int)))),(0:Int),t.1,(Go.Eng.lenL t.1),(0:Int),())) fun q8=>onS q8 (fun t9=>(ob (Go.Eng.chkI (Go.Eng.lenL t9.2.1) (Go.Eng.lenL t9.1)) fun x10=>(ob (Go.Eng.idxN t9.2.1 x10) fun x11=>(some ((List.set t9.2.1 x10 (Go.Eng.T.upd 1 x11 0 [(Go.Eng.T.v (Go.Value.int Go.IntKind.u32 (Go.Eng.wr Go.IntKind.u32 t9.2.2.1)))])),()))))) fun q12=>noS q12))
theorem le_natural_raise(n:Nat)(t:((List T)×Int×Unit)):Le (v_natural_raise n t) (u_natural_raise t):=by
 unfold v_natural_raise u_natural_raise
 repeat' with_reducible first | exact le_rfl | refine le_cond ?_ ?_ | refine le_onS (fun _=>?_) fun _=>?_ | refine le_ob ?_ fun _=>?_ | refine le_both ?_ ?_ | exact le_lpr _ _
noncomputable def v_slices_Clone___uint32_uint32_(n:Nat)(t:((List T)×Unit)):Option ((List T)×Unit):=
 (bif (Go.Eng.nilL t.1) then (bothV (some ([],())) (ob (Go.Eng.room [] t.1 4) fun x0=>(some (x0,())))) else (ob (Go.Eng.room [] t.1 4) fun x1=>(some (x1,()))))
theorem le_slices_Clone___uint32_uint32_(n:Nat)(t:((List T)×Unit)):Le (v_slices_Clone___uint32_uint32_ n t) (u_slices_Clone___uint32_uint32_ t):=by
 unfold v_slices_Clone___uint32_uint32_ u_slices_Clone___uint32_uint32_
 repeat' with_reducible first | exact le_rfl | refine le_cond ?_ ?_ | refine le_onS (fun _=>?_) fun _=>?_ | refine le_ob ?_ fun _=>?_ | refine le_both ?_ ?_
noncomputable def v_slices_Clone___uint32_uint32__r(n:Nat)(t:((List T)×Unit)):Option ((List T)×Unit):=
 (bif (Go.Eng.nilL t.1) then (bothV (some ([],())) (ob (Go.Eng.room [] t.1 4) fun x0=>(some (x0,())))) else (ob (Go.Eng.room [] t.1 4) fun x1=>(some (x1,()))))
theorem le_slices_Clone___uint32_uint32__r(n:Nat)(t:((List T)×Unit)):Le (v_slices_Clone___uint32_uint32__r n t) (u_slices_Clone___uint32_uint32__r t):=by
 unfold v_slices_Clone___uint32_uint32__r u_slices_Clone___uint32_uint32__r
 repeat' with_reducible first | exact le_rfl | refine le_cond ?_ ?_ | refine le_onS (fun _=>?_) fun _=>?_ | refine le_ob ?_ fun _=>?_ | refine le_both ?_ ?_
noncomputable def v_natural_small(n:Nat)(t:((List T)×Int×Unit)):Option ((List T)×Int×Unit):=
 (ob (Go.Eng.mkLen (Go.Eng.lenL t.1) (Go.Eng.lenL t.1) 4) fun x0=>(ob (iter u_natural_small_l0 n (t.1,t.2.1,(Go.Eng.repL x0.1 (Go.Eng.T.v (Go.Value.int Go.IntKind.u32 (0:Int)))),(0:Int),(Go.Eng.wr Go.IntKind.i64 (Go.Eng.subI (Go.Eng.lenL t.1) (1:Int))),())) fun q9=>onS q9 (fun t10=>(ob (Go.Eng.v_natural_trim n (t10.1,())) fun x11=>(some (x11.1,(Go.Eng.wr Go.IntKind.u32 t10.2.1),())))) fun q12=>noS q12))
theorem le_natural_small(n:Nat)(t:((List T)×Int×Unit)):Le (v_natural_small n t) (u_natural_small t):=by
 unfold v_natural_small u_natural_small
 repeat' with_reducible first | exact le_rfl | refine le_cond ?_ ?_ | refine le_onS (fun _=>?_) fun _=>?_ | refine le_ob ?_ fun _=>?_ | refine le_both ?_ ?_ | exact le_natural_trim n _ | exact le_lpr _ _
noncomputable def v_natural_Mul_l0(n:Nat)(s1:(List T×List T×List T×Int×Int×Unit)):Option ((List T×List T×List T×Int×Int×Unit)⊕((List T×Unit)⊕Empty)):=
 (bif (Go.Eng.ltI s1.2.2.2.2.1 s1.2.2.2.1) then (ob (α:=((List T×List T×List T×Int×Int×Unit)⊕Empty)) (ob (Go.Eng.idxL s1.2.2.1 s1.2.2.2.2.1) fun x2=>(ob (Go.Eng.T.int? Go.IntKind.u32 (Go.Eng.T.cell x2 0)) fun x3=>(bif (Go.Eng.eqI x3 (0:Int)) then (some (Sum.inl (s1.1,s1.2.1,s1.2.2.1,s1.2.2.2.1,s1.2.2.2.2.1,()))) else (ob (iter u_natural_Mul_l1 n (s1.1,s1.2.1,s1.2.2.2.2.1,(Go.Eng.T.cell x2 0),(0:Int),s1.2.2.1,s1.2.2.2.1,s1.2.2.2.2.1,s1.1,(Go.Eng.lenL s1.1),(0:Int),())) fun q14=>onS q14 (fun t15=>(ob (Go.Eng.chkI (Go.Eng.lenL t15.2.1) (Go.Eng.wr Go.IntKind.i64 (Go.Eng.addI t15.2.2.1 (Go.Eng.lenL t15.1)))) fun x16=>(ob (Go.Eng.idxN t15.2.1 x16) fun x17=>(some (Sum.inl (t15.1,(List.set t15.2.1 x16 (Go.Eng.T.upd 1 x17 0 [(Go.Eng.T.v (Go.Value.int Go.IntKind.u32 (Go.Eng.wr Go.IntKind.u32 t15.2.2.2.1)))])),t15.2.2.2.2.1,t15.2.2.2.2.2.1,t15.2.2.2.2.2.2.1,())))))) fun q18=>noS q18)))) fun q19=>onS q19 (fun t20=>(some (Sum.inl (t20.1,t20.2.1,t20.2.2.1,t20.2.2.2.1,(Go.Eng.wr Go.IntKind.i64 (Go.Eng.addI t20.2.2.2.2.1 (1:Int))),())))) fun q21=>noS q21) else (some (Sum.inr (Sum.inl (s1.2.1,())))))
theorem le_natural_Mul_l0(n:Nat)(s1:(List T×List T×List T×Int×Int×Unit)):Le (v_natural_Mul_l0 n s1) (u_natural_Mul_l0 s1):=by
 unfold v_natural_Mul_l0 u_natural_Mul_l0
 repeat' with_reducible first | exact le_rfl | refine le_cond ?_ ?_ | refine le_onS (fun _=>?_) fun _=>?_ | refine le_ob ?_ fun _=>?_ | refine le_both ?_ ?_ | exact le_lpr _ _
noncomputable def v_natural_Mul(n:Nat)(t:((List T)×(List T)×Unit)):Option ((List T)×Unit):=
 (ob (Go.Eng.mkLen (Go.Eng.wr Go.IntKind.i64 (Go.Eng.addI (Go.Eng.lenL t.1) (Go.Eng.lenL t.2.1))) (Go.Eng.wr Go.IntKind.i64 (Go.Eng.addI (Go.Eng.lenL t.1) (Go.Eng.lenL t.2.1))) 4) fun x0=>(ob (iter (v_natural_Mul_l0 n) n (t.2.1,(Go.Eng.repL x0.1 (Go.Eng.T.v (Go.Value.int Go.IntKind.u32 (0:Int)))),t.1,(Go.Eng.lenL t.1),(0:Int),())) fun q22=>onS q22 (fun t23=>(ob (Go.Eng.v_natural_trim n (t23.1,())) fun x24=>(some (x24.1,())))) fun q25=>noS q25))
theorem le_natural_Mul(n:Nat)(t:((List T)×(List T)×Unit)):Le (v_natural_Mul n t) (u_natural_Mul t):=by
 unfold v_natural_Mul u_natural_Mul
 repeat' with_reducible first | exact le_rfl | refine le_cond ?_ ?_ | refine le_onS (fun _=>?_) fun _=>?_ | refine le_ob ?_ fun _=>?_ | refine le_both ?_ ?_ | exact le_natural_trim n _ | exact le_loop (le_natural_Mul_l0 n) _ _
noncomputable def v_natural_Div_l0(n:Nat)(s15:(List T×Int×List T×List T×Int×Int×Unit)):Option ((List T×Int×List T×List T×Int×Int×Unit)⊕((List T×Int×List T×Unit)⊕Empty)):=
 (bif (Go.Eng.leI (0:Int) s15.2.2.2.2.2.1) then (ob (Go.Eng.idxL s15.2.2.1 (Go.Eng.wr Go.IntKind.i64 (Go.Eng.addI s15.2.2.2.2.2.1 s15.2.2.2.2.1))) fun x16=>(ob (Go.Eng.T.anyInt? (Go.Eng.T.cell x16 0)) fun x17=>(ob (Go.Eng.nn (32:Int)) fun x18=>(ob (Go.Eng.idxL s15.2.2.1 (Go.Eng.wr Go.IntKind.i64 (Go.Eng.subI (Go.Eng.wr Go.IntKind.i64 (Go.Eng.addI s15.2.2.2.2.2.1 s15.2.2.2.2.1)) (1:Int)))) fun x19=>(ob (Go.Eng.T.anyInt? (Go.Eng.T.cell x19 0)) fun x20=>(ob (Go.Eng.idxL s15.2.2.2.1 (Go.Eng.wr Go.IntKind.i64 (Go.Eng.subI s15.2.2.2.2.1 (1:Int)))) fun x21=>(ob (Go.Eng.T.anyInt? (Go.Eng.T.cell x21 0)) fun x22=>(ob (Go.Eng.nz (Go.Eng.wr Go.IntKind.u64 x22)) fun x23=>(ob (Go.Eng.idxL s15.2.2.2.1 (Go.Eng.wr Go.IntKind.i64 (Go.Eng.subI s15.2.2.2.2.1 (1:Int)))) fun x24=>(ob (Go.Eng.T.anyInt? (Go.Eng.T.cell x24 0)) fun x25=>(ob (Go.Eng.nz (Go.Eng.wr Go.IntKind.u64 x25)) fun x26=>(ob (iter u_natural_Div_l1 n (s15.1,s15.2.1,s15.2.2.1,s15.2.2.2.1,s15.2.2.2.2.1,s15.2.2.2.2.2.1,(Go.Eng.wr Go.IntKind.u64 (Go.Eng.divI (Go.Eng.bitI Go.BinOp.or Go.IntKind.u64 (Go.Eng.wr Go.IntKind.u64 (Go.Eng.shlI Go.IntKind.u64 (Go.Eng.wr Go.IntKind.u64 x17) x18)) (Go.Eng.wr Go.IntKind.u64 x20)) x23)),(Go.Eng.modI (Go.Eng.bitI Go.BinOp.or Go.IntKind.u64 (Go.Eng.wr Go.IntKind.u64 (Go.Eng.shlI Go.IntKind.u64 (Go.Eng.wr Go.IntKind.u64 x17) x18)) (Go.Eng.wr Go.IntKind.u64 x20)) x26),())) fun q37=>onS q37 (fun t38=>(ob (iter u_natural_Div_l2 n (t38.1,t38.2.1,t38.2.2.1,t38.2.2.2.1,t38.2.2.2.2.1,t38.2.2.2.2.2.1,t38.2.2.2.2.2.2.1,(0:Int),(0:Int),t38.2.2.2.1,(Go.Eng.lenL t38.2.2.2.1),(0:Int),())) fun q45=>onS q45 (fun t46=>(ob (Go.Eng.idxL t46.2.2.1 (Go.Eng.wr Go.IntKind.i64 (Go.Eng.addI t46.2.2.2.2.2.1 t46.2.2.2.2.1))) fun x47=>(ob (Go.Eng.T.anyInt? (Go.Eng.T.cell x47 0)) fun x48=>(ob (Go.Eng.idxL t46.2.2.1 (Go.Eng.wr Go.IntKind.i64 (Go.Eng.addI t46.2.2.2.2.2.1 t46.2.2.2.2.1))) fun x49=>none)))) fun q50=>noS q50)) fun q51=>noS q51)))))))))))) else (some (Sum.inr (Sum.inl (s15.1,s15.2.1,s15.2.2.1,())))))
theorem le_natural_Div_l0(n:Nat)(s15:(List T×Int×List T×List T×Int×Int×Unit)):Le (v_natural_Div_l0 n s15) (u_natural_Div_l0 s15):=by
 unfold v_natural_Div_l0 u_natural_Div_l0
 repeat' with_reducible first | exact le_rfl | refine le_cond ?_ ?_ | refine le_onS (fun _=>?_) fun _=>?_ | refine le_ob ?_ fun _=>?_ | refine le_both ?_ ?_ | exact le_lpr _ _ | exact le_lpr _ _
noncomputable def v_natural_Div(n:Nat)(t:((List T)×(List T)×Unit)):Option ((List T)×(List T)×Int×Unit):=
 (ob (Go.Eng.v_natural_trim n (t.1,())) fun x0=>(ob (Go.Eng.v_natural_trim n (t.2.1,())) fun x1=>(bif (Go.Eng.eqI (Go.Eng.lenL x1.1) (0:Int)) then (some ([],[],(3:Int),())) else (ob (Go.Eng.v_natural_Cmp n (x0.1,x1.1,())) fun x2=>(bif (Go.Eng.ltI x2.1 (0:Int)) then (ob (Go.Eng.v_slices_Clone___uint32_uint32_ n (x0.1,())) fun x3=>(some ([],x3.1,(0:Int),()))) else (bif (Go.Eng.eqI (Go.Eng.lenL x1.1) (1:Int)) then (ob (Go.Eng.idxL x1.1 (0:Int)) fun x4=>(ob (Go.Eng.T.int? Go.IntKind.u32 (Go.Eng.T.cell x4 0)) fun x5=>(ob (Go.Eng.v_natural_small n (x0.1,x5,())) fun x6=>(ob (Go.Eng.v_natural_trim n ([(Go.Eng.T.v (Go.Value.int Go.IntKind.u32 x6.2.1))],())) fun x7=>(some (x6.1,x7.1,(0:Int),())))))) else (ob (Go.Eng.idxL x1.1 (Go.Eng.wr Go.IntKind.i64 (Go.Eng.subI (Go.Eng.lenL x1.1) (1:Int)))) fun x8=>(ob (Go.Eng.T.int? Go.IntKind.u32 (Go.Eng.T.cell x8 0)) fun x9=>(ob (Go.Eng.u_math_bits_LeadingZeros32 (x9,())) fun x10=>(ob (Go.Eng.v_natural_raise n (x0.1,x10.1,())) fun x11=>(ob (Go.Eng.v_natural_raise n (x1.1,x10.1,())) fun x12=>(ob (Go.Eng.v_natural_trim n (x12.1,())) fun x13=>(ob (Go.Eng.mkLen (Go.Eng.wr Go.IntKind.i64 (Go.Eng.subI (Go.Eng.lenL x11.1) (Go.Eng.lenL x13.1))) (Go.Eng.wr Go.IntKind.i64 (Go.Eng.subI (Go.Eng.lenL x11.1) (Go.Eng.lenL x13.1))) 4) fun x14=>(ob (iter (v_natural_Div_l0 n) n ((Go.Eng.repL x14.1 (Go.Eng.T.v (Go.Value.int Go.IntKind.u32 (0:Int)))),x10.1,x11.1,x13.1,(Go.Eng.lenL x13.1),(Go.Eng.wr Go.IntKind.i64 (Go.Eng.subI (Go.Eng.lenL (Go.Eng.repL x14.1 (Go.Eng.T.v (Go.Value.int Go.IntKind.u32 (0:Int))))) (1:Int))),())) fun q52=>onS q52 (fun t53=>(ob (Go.Eng.v_natural_trim n (t53.2.2.1,())) fun x54=>(ob (iter u_natural_Div_l5 n (t53.1,x54.1,t53.2.1,(Go.Eng.lenL x54.1),(0:Int),())) fun q61=>onS q61 (fun t62=>(ob (Go.Eng.v_natural_trim n (t62.1,())) fun x63=>(ob (Go.Eng.v_natural_trim n (t62.2.1,())) fun x64=>(some (x63.1,x64.1,(0:Int),()))))) fun q65=>noS q65))) fun q66=>noS q66))))))))))))))
theorem le_natural_Div(n:Nat)(t:((List T)×(List T)×Unit)):Le (v_natural_Div n t) (u_natural_Div t):=by
 unfold v_natural_Div u_natural_Div
 repeat' with_reducible first | exact le_rfl | refine le_cond ?_ ?_ | refine le_onS (fun _=>?_) fun _=>?_ | refine le_ob ?_ fun _=>?_ | refine le_both ?_ ?_ | exact le_natural_trim n _ | exact le_natural_Cmp n _ | exact le_slices_Clone___uint32_uint32_ n _ | exact le_natural_small n _ | exact le_natural_raise n _ | exact le_loop (le_natural_Div_l0 n) _ _ | exact le_lpr _ _
noncomputable def v_natural_Shift(n:Nat)(t:((List T)×Int×Unit)):Option ((List T)×Int×Unit):=
 (ob (Go.Eng.v_natural_trim n (t.1,())) fun x0=>(bif (Go.Eng.ltI (16384:Int) t.2.1) then (some ([],(2:Int),())) else (bif (Go.Eng.leI (0:Int) t.2.1) then (ob (Go.Eng.mkLen (Go.Eng.wr Go.IntKind.i64 (Go.Eng.divI t.2.1 (32:Int))) (Go.Eng.wr Go.IntKind.i64 (Go.Eng.divI t.2.1 (32:Int))) 4) fun x1=>(ob (Go.Eng.v_natural_raise n (x0.1,(Go.Eng.modI t.2.1 (32:Int)),())) fun x2=>(ob (Go.Eng.room (Go.Eng.repL x1.1 (Go.Eng.T.v (Go.Value.int Go.IntKind.u32 (0:Int)))) x2.1 4) fun x3=>(ob (Go.Eng.v_natural_trim n (x3,())) fun x4=>(some (x4.1,(0:Int),())))))) else (bif (Go.Eng.leI t.2.1 (Go.Eng.wr Go.IntKind.i64 (Go.Eng.mulI (-32:Int) (Go.Eng.lenL x0.1)))) then (some ([],(0:Int),())) else (ob (Go.Eng.cutL x0.1 (Go.Eng.wr Go.IntKind.i64 (Go.Eng.divI (Go.Eng.wr Go.IntKind.i64 (Go.Eng.subI (0:Int) t.2.1)) (32:Int))) (Go.Eng.lenL x0.1)) fun x5=>(ob (Go.Eng.v_slices_Clone___uint32_uint32__r n (x5,())) fun x6=>(ob (iter u_natural_Shift_l0 n (x6.1,(Go.Eng.modI (Go.Eng.wr Go.IntKind.i64 (Go.Eng.subI (0:Int) t.2.1)) (32:Int)),(Go.Eng.lenL x6.1),(0:Int),())) fun q26=>onS q26 (fun t27=>(ob (Go.Eng.v_natural_trim n (t27.1,())) fun x28=>(some (x28.1,(0:Int),())))) fun q29=>noS q29)))))))
theorem le_natural_Shift(n:Nat)(t:((List T)×Int×Unit)):Le (v_natural_Shift n t) (u_natural_Shift t):=by
 unfold v_natural_Shift u_natural_Shift
 repeat' with_reducible first | exact le_rfl | refine le_cond ?_ ?_ | refine le_onS (fun _=>?_) fun _=>?_ | refine le_ob ?_ fun _=>?_ | refine le_both ?_ ?_ | exact le_natural_trim n _ | exact le_natural_raise n _ | exact le_slices_Clone___uint32_uint32__r n _ | exact le_lpr _ _
noncomputable def v_slices_Reverse___byte_byte_(n:Nat)(t:((List T)×Unit)):Option ((List T)×Unit):=
 (ob (iter u_slices_Reverse___byte_byte__l0 n (t.1,(0:Int),(Go.Eng.wr Go.IntKind.i64 (Go.Eng.subI (Go.Eng.lenL t.1) (1:Int))),())) fun q11=>onS q11 (fun t12=>(some (t12.1,()))) fun q13=>noS q13)
theorem le_slices_Reverse___byte_byte_(n:Nat)(t:((List T)×Unit)):Le (v_slices_Reverse___byte_byte_ n t) (u_slices_Reverse___byte_byte_ t):=by
 unfold v_slices_Reverse___byte_byte_ u_slices_Reverse___byte_byte_
 repeat' with_reducible first | exact le_rfl | refine le_cond ?_ ?_ | refine le_onS (fun _=>?_) fun _=>?_ | refine le_ob ?_ fun _=>?_ | refine le_both ?_ ?_ | exact le_lpr _ _
noncomputable def v_natural_Text_l0(n:Nat)(s1:(List T×List T×Unit)):Option ((List T×List T×Unit)⊕((List T×Unit)⊕Empty)):=
 (bif (Go.Eng.ltI (0:Int) (Go.Eng.lenL s1.1)) then (ob (Go.Eng.v_natural_small n (s1.1,(1000000000:Int),())) fun x2=>(ob (iter u_natural_Text_l1 n (x2.1,s1.2.1,x2.2.1,(0:Int),())) fun q6=>onS q6 (fun t7=>(some (Sum.inl (t7.1,t7.2.1,())))) fun q8=>noS q8)) else (some (Sum.inr (Sum.inl (s1.2.1,())))))
theorem le_natural_Text_l0(n:Nat)(s1:(List T×List T×Unit)):Le (v_natural_Text_l0 n s1) (u_natural_Text_l0 s1):=by
 unfold v_natural_Text_l0 u_natural_Text_l0
 repeat' with_reducible first | exact le_rfl | refine le_cond ?_ ?_ | refine le_onS (fun _=>?_) fun _=>?_ | refine le_ob ?_ fun _=>?_ | refine le_both ?_ ?_ | exact le_natural_small n _ | exact le_lpr _ _
noncomputable def v_natural_Text(n:Nat)(t:((List T)×Unit)):Option (ByteArray×Unit):=
 (ob (Go.Eng.v_natural_trim n (t.1,())) fun x0=>(bif (Go.Eng.eqI (Go.Eng.lenL x0.1) (0:Int)) then (some ((ByteArray.mk #[48]),())) else (ob (iter (v_natural_Text_l0 n) n (x0.1,[],())) fun q9=>onS q9 (fun t10=>(ob (Go.Eng.v_slices_Reverse___byte_byte_ n (t10.1,())) fun x11=>(ob (Go.Eng.strOf x11.1) fun x12=>(some (x12,()))))) fun q13=>noS q13)))
theorem le_natural_Text(n:Nat)(t:((List T)×Unit)):Le (v_natural_Text n t) (u_natural_Text t):=by
 unfold v_natural_Text u_natural_Text
 repeat' with_reducible first | exact le_rfl | refine le_cond ?_ ?_ | refine le_onS (fun _=>?_) fun _=>?_ | refine le_ob ?_ fun _=>?_ | refine le_both ?_ ?_ | exact le_natural_trim n _ | exact le_slices_Reverse___byte_byte_ n _ | exact le_loop (le_natural_Text_l0 n) _ _
noncomputable def v_entity_power_l0(n:Nat)(s2:(Int×List T×List T×Unit)):Option ((Int×List T×List T×Unit)⊕((List T×Unit)⊕Empty)):=
 (bif (Go.Eng.ltI (0:Int) s2.1) then (ob (α:=((Int×List T×List T×Unit)⊕Empty)) (ob (α:=((Int×List T×List T×Unit)⊕Empty)) (bif (Go.Eng.eqI (Go.Eng.modI s2.1 (2:Int)) (1:Int)) then (ob (Go.Eng.v_natural_Mul n (s2.2.1,s2.2.2.1,())) fun x3=>(some (Sum.inl (s2.1,x3.1,s2.2.2.1,())))) else (some (Sum.inl (s2.1,s2.2.1,s2.2.2.1,())))) fun q4=>onS q4 (fun t5=>(bif (Go.Eng.ltI (1:Int) t5.1) then (ob (Go.Eng.v_natural_Mul n (t5.2.2.1,t5.2.2.1,())) fun x6=>(some (Sum.inl (t5.1,t5.2.1,x6.1,())))) else (some (Sum.inl (t5.1,t5.2.1,t5.2.2.1,()))))) fun q7=>noS q7) fun q8=>onS q8 (fun t9=>(some (Sum.inl ((Go.Eng.wr Go.IntKind.i64 (Go.Eng.divI t9.1 (2:Int))),t9.2.1,t9.2.2.1,())))) fun q10=>noS q10) else (some (Sum.inr (Sum.inl (s2.2.1,())))))
theorem le_entity_power_l0(n:Nat)(s2:(Int×List T×List T×Unit)):Le (v_entity_power_l0 n s2) (u_entity_power_l0 s2):=by
 unfold v_entity_power_l0 u_entity_power_l0
 repeat' with_reducible first | exact le_rfl | refine le_cond ?_ ?_ | refine le_onS (fun _=>?_) fun _=>?_ | refine le_ob ?_ fun _=>?_ | refine le_both ?_ ?_ | exact le_natural_Mul n _
noncomputable def v_entity_power(n:Nat)(t:(Int×Unit)):Option ((List T)×Unit):=
 (ob (Go.Eng.v_natural_Of n ((1:Int),())) fun x0=>(ob (Go.Eng.v_natural_Of n ((10:Int),())) fun x1=>(ob (iter (v_entity_power_l0 n) n (t.1,x0.1,x1.1,())) fun q11=>onS q11 (fun t12=>(some (t12.1,()))) fun q13=>noS q13)))
theorem le_entity_power(n:Nat)(t:(Int×Unit)):Le (v_entity_power n t) (u_entity_power t):=by
 unfold v_entity_power u_entity_power
 repeat' with_reducible first | exact le_rfl | refine le_cond ?_ ?_ | refine le_onS (fun _=>?_) fun _=>?_ | refine le_ob ?_ fun _=>?_ | refine le_both ?_ ?_ | exact le_natural_Of n _ | exact le_loop (le_entity_power_l0 n) _ _
noncomputable def v_entity_factors_l0(n:Nat)(s0:(List T×Int×Unit)):Option ((List T×Int×Unit)⊕((Int×List T×Unit)⊕Empty)):=
 (ob (Go.Eng.v_natural_Of n ((5:Int),())) fun x1=>(ob (Go.Eng.v_natural_Div n (s0.1,x1.1,())) fun x2=>(bif (Bool.not (Go.Eng.eqI x2.2.2.1 (0:Int))) then (some (Sum.inr (Sum.inl (s0.2.1,s0.1,())))) else (bif (Go.Eng.ltI (0:Int) (Go.Eng.lenL x2.2.1)) then (some (Sum.inr (Sum.inl (s0.2.1,s0.1,())))) else (bif (Go.Eng.eqI (Go.Eng.lenL s0.1) (0:Int)) then (some (Sum.inr (Sum.inl (s0.2.1,s0.1,())))) else (some (Sum.inl (x2.1,(Go.Eng.wr Go.IntKind.i64 (Go.Eng.addI s0.2.1 (1:Int))),()))))))))
theorem le_entity_factors_l0(n:Nat)(s0:(List T×Int×Unit)):Le (v_entity_factors_l0 n s0) (u_entity_factors_l0 s0):=by
 unfold v_entity_factors_l0 u_entity_factors_l0
 repeat' with_reducible first | exact le_rfl | refine le_cond ?_ ?_ | refine le_onS (fun _=>?_) fun _=>?_ | refine le_ob ?_ fun _=>?_ | refine le_both ?_ ?_ | exact le_natural_Of n _ | exact le_natural_Div n _
noncomputable def v_entity_factors(n:Nat)(t:((List T)×Unit)):Option (Int×(List T)×Unit):=
 (ob (iter (v_entity_factors_l0 n) n (t.1,(0:Int),())) fun q3=>onS q3 (fun t4=>(some (t4.1,t4.2.1,()))) fun q5=>noS q5)
theorem le_entity_factors(n:Nat)(t:((List T)×Unit)):Le (v_entity_factors n t) (u_entity_factors t):=by
 unfold v_entity_factors u_entity_factors
 repeat' with_reducible first | exact le_rfl | refine le_cond ?_ ?_ | refine le_onS (fun _=>?_) fun _=>?_ | refine le_ob ?_ fun _=>?_ | refine le_both ?_ ?_ | exact le_loop (le_entity_factors_l0 n) _ _
noncomputable def v_entity_Decimal_l0(n:Nat)(s0:(Unit×List T×Int×List T×Bool×List T×List T×Unit)):Option ((Unit×List T×Int×List T×Bool×List T×List T×Unit)⊕((Unit×List T×Int×Bool×List T×List T×Unit)⊕Empty)):=
 (bif (Go.Eng.ltI (0:Int) (Go.Eng.lenL s0.2.2.2.1)) then (ob (Go.Eng.idxL s0.2.2.2.1 (0:Int)) fun x1=>(ob (Go.Eng.T.int? Go.IntKind.u32 (Go.Eng.T.cell x1 0)) fun x2=>(bif (Go.Eng.eqI (Go.Eng.bitI Go.BinOp.and Go.IntKind.u32 x2 (1:Int)) (0:Int)) then (ob (Go.Eng.v_natural_Shift n (s0.2.2.2.1,(-1:Int),())) fun x3=>(some (Sum.inl ((),s0.2.1,(Go.Eng.wr Go.IntKind.i64 (Go.Eng.addI s0.2.2.1 (1:Int))),x3.1,s0.2.2.2.2.1,s0.2.2.2.2.2.1,s0.2.2.2.2.2.2.1,())))) else (some (Sum.inr (Sum.inl ((),s0.2.1,s0.2.2.1,s0.2.2.2.2.1,s0.2.2.2.2.2.1,s0.2.2.2.2.2.2.1,()))))))) else (some (Sum.inr (Sum.inl ((),s0.2.1,s0.2.2.1,s0.2.2.2.2.1,s0.2.2.2.2.2.1,s0.2.2.2.2.2.2.1,())))))
theorem le_entity_Decimal_l0(n:Nat)(s0:(Unit×List T×Int×List T×Bool×List T×List T×Unit)):Le (v_entity_Decimal_l0 n s0) (u_entity_Decimal_l0 s0):=by
 unfold v_entity_Decimal_l0 u_entity_Decimal_l0
 repeat' with_reducible first | exact le_rfl | refine le_cond ?_ ?_ | refine le_onS (fun _=>?_) fun _=>?_ | refine le_ob ?_ fun _=>?_ | refine le_both ?_ ?_ | exact le_natural_Shift n _
noncomputable def v_entity_Decimal(n:Nat)(t:(Bool×(List T)×(List T)×Unit)):Option (ByteArray×Bool×Unit):=
 (ob (α:=((ByteArray×Bool×Unit)⊕((Unit×Int×List T×Bool×List T×List T×Unit)⊕Empty))) (bif (Go.Eng.ltI (0:Int) (Go.Eng.lenL t.2.2.1)) then (ob (iter (v_entity_Decimal_l0 n) n ((),t.2.1,(0:Int),t.2.2.1,t.1,t.2.1,t.2.2.1,())) fun q4=>onS q4 (fun t5=>(ob (Go.Eng.v_natural_Shift n (t5.2.2.2.2.2.1,(Go.Eng.wr Go.IntKind.i64 (Go.Eng.subI (0:Int) t5.2.2.1)),())) fun x6=>(ob (Go.Eng.v_entity_factors n (x6.1,())) fun x7=>(ob (Go.Eng.v_natural_Of n ((1:Int),())) fun x8=>(ob (Go.Eng.v_natural_Cmp n (x7.2.1,x8.1,())) fun x9=>(bif (Bool.not (Go.Eng.eqI x9.1 (0:Int))) then (some (Sum.inl ((ByteArray.mk #[]),Bool.false,()))) else (ob (Go.Eng.v_entity_power n ((Go.Eng.mmI Bool.true t5.2.2.1 x7.1),())) fun x10=>(ob (Go.Eng.v_natural_Mul n (t5.2.1,x10.1,())) fun x11=>(ob (Go.Eng.v_natural_Div n (x11.1,t5.2.2.2.2.2.1,())) fun x12=>(some (Sum.inr (Sum.inl ((),(Go.Eng.mmI Bool.true t5.2.2.1 x7.1),x12.1,t5.2.2.2.1,t5.2.2.2.2.1,t5.2.2.2.2.2.1,()))))))))))))) fun q13=>noS q13) else (some (Sum.inr (Sum.inl ((),(0:Int),t.2.1,t.1,t.2.1,t.2.2.1,()))))) fun q14=>onS q14 (fun t15=>(some (t15.1,t15.2.1,()))) fun q16=>onS q16 (fun t17=>(ob (Go.Eng.v_natural_Text n (t17.2.2.1,())) fun x18=>(ob (α:=((Unit×Int×ByteArray×Bool×List T×List T×Unit)⊕Empty)) (bif (Go.Eng.leI (Go.Eng.lenS x18.1) t17.2.1) then (ob (Go.Eng.u_strings_Repeat ((ByteArray.mk #[48]),(Go.Eng.wr Go.IntKind.i64 (Go.Eng.subI (Go.Eng.wr Go.IntKind.i64 (Go.Eng.addI t17.2.1 (1:Int))) (Go.Eng.lenS x18.1))),())) fun x19=>(ob (Go.Eng.catS x19.1 x18.1) fun x20=>(some (Sum.inl ((),t17.2.1,x20,t17.2.2.2.1,t17.2.2.2.2.1,t17.2.2.2.2.2.1,()))))) else (some (Sum.inl ((),t17.2.1,x18.1,t17.2.2.2.1,t17.2.2.2.2.1,t17.2.2.2.2.2.1,())))) fun q21=>onS q21 (fun t22=>(ob (Go.Eng.subS t22.2.2.1 (0:Int) (Go.Eng.wr Go.IntKind.i64 (Go.Eng.subI (Go.Eng.lenS t22.2.2.1) t22.2.1))) fun x23=>(ob (Go.Eng.catS x23 (ByteArray.mk #[46])) fun x24=>(ob (Go.Eng.subS t22.2.2.1 (Go.Eng.wr Go.IntKind.i64 (Go.Eng.subI (Go.Eng.lenS t22.2.2.1) t22.2.1)) (Go.Eng.lenS t22.2.2.1)) fun x25=>(ob (Go.Eng.catS x24 x25) fun x26=>(ob (α:=((ByteArray×Unit)⊕Empty)) (bif t22.2.2.2.1 then (ob (Go.Eng.catS (ByteArray.mk #[45]) x26) fun x27=>(some (Sum.inl (x27,())))) else (some (Sum.inl (x26,())))) fun q28=>onS q28 (fun t29=>(some (t29.1,Bool.true,()))) fun q30=>noS q30)))))) fun q31=>noS q31))) fun q32=>noS q32)
theorem le_entity_Decimal(n:Nat)(t:(Bool×(List T)×(List T)×Unit)):Le (v_entity_Decimal n t) (u_entity_Decimal t):=by
 unfold v_entity_Decimal u_entity_Decimal
 repeat' with_reducible first | exact le_rfl | refine le_cond ?_ ?_ | refine le_onS (fun _=>?_) fun _=>?_ | refine le_ob ?_ fun _=>?_ | refine le_both ?_ ?_ | exact le_natural_Shift n _ | exact le_entity_factors n _ | exact le_natural_Of n _ | exact le_natural_Cmp n _ | exact le_entity_power n _ | exact le_natural_Mul n _ | exact le_natural_Div n _ | exact le_natural_Text n _ | exact le_loop (le_entity_Decimal_l0 n) _ _
noncomputable def v_slices_Index___int_int_(n:Nat)(t:((List T)×Int×Unit)):Option (Int×Unit):=
 (ob (iter u_slices_Index___int_int__l0 n (t.1,t.2.1,(Go.Eng.lenL t.1),(0:Int),())) fun q3=>onS q3 (fun t4=>(some (t4.1,()))) fun q5=>onS q5 (fun t6=>(some ((-1:Int),()))) fun q7=>noS q7)
theorem le_slices_Index___int_int_(n:Nat)(t:((List T)×Int×Unit)):Le (v_slices_Index___int_int_ n t) (u_slices_Index___int_int_ t):=by
 unfold v_slices_Index___int_int_ u_slices_Index___int_int_
 repeat' with_reducible first | exact le_rfl | refine le_cond ?_ ?_ | refine le_onS (fun _=>?_) fun _=>?_ | refine le_ob ?_ fun _=>?_ | refine le_both ?_ ?_ | exact le_lpr _ _
noncomputable def v_slices_Contains___int_int_(n:Nat)(t:((List T)×Int×Unit)):Option (Bool×Unit):=
 (ob (Go.Eng.v_slices_Index___int_int_ n (t.1,t.2.1,())) fun x0=>(some ((Go.Eng.leI (0:Int) x0.1),())))
theorem le_slices_Contains___int_int_(n:Nat)(t:((List T)×Int×Unit)):Le (v_slices_Contains___int_int_ n t) (u_slices_Contains___int_int_ t):=by
 unfold v_slices_Contains___int_int_ u_slices_Contains___int_int_
 repeat' with_reducible first | exact le_rfl | refine le_cond ?_ ?_ | refine le_onS (fun _=>?_) fun _=>?_ | refine le_ob ?_ fun _=>?_ | refine le_both ?_ ?_ | exact le_slices_Index___int_int_ n _
noncomputable def v_slices_Index___string_string_(n:Nat)(t:((List T)×ByteArray×Unit)):Option (Int×Unit):=
 (ob (iter u_slices_Index___string_string__l0 n (t.1,t.2.1,(Go.Eng.lenL t.1),(0:Int),())) fun q3=>onS q3 (fun t4=>(some (t4.1,()))) fun q5=>onS q5 (fun t6=>(some ((-1:Int),()))) fun q7=>noS q7)
theorem le_slices_Index___string_string_(n:Nat)(t:((List T)×ByteArray×Unit)):Le (v_slices_Index___string_string_ n t) (u_slices_Index___string_string_ t):=by
 unfold v_slices_Index___string_string_ u_slices_Index___string_string_
 repeat' with_reducible first | exact le_rfl | refine le_cond ?_ ?_ | refine le_onS (fun _=>?_) fun _=>?_ | refine le_ob ?_ fun _=>?_ | refine le_both ?_ ?_ | exact le_lpr _ _
noncomputable def v_slices_Contains___string_string_(n:Nat)(t:((List T)×ByteArray×Unit)):Option (Bool×Unit):=
 (ob (Go.Eng.v_slices_Index___string_string_ n (t.1,t.2.1,())) fun x0=>(some ((Go.Eng.leI (0:Int) x0.1),())))
theorem le_slices_Contains___string_string_(n:Nat)(t:((List T)×ByteArray×Unit)):Le (v_slices_Contains___string_string_ n t) (u_slices_Contains___string_string_ t):=by
 unfold v_slices_Contains___string_string_ u_slices_Contains___string_string_
 repeat' with_reducible first | exact le_rfl | refine le_cond ?_ ?_ | refine le_onS (fun _=>?_) fun _=>?_ | refine le_ob ?_ fun _=>?_ | refine le_both ?_ ?_ | exact le_slices_Index___string_string_ n _
noncomputable def v__entity_rule__fits(n:Nat)(t:((List T)×Int×Int×(List T)×Int×Bool×(List T)×(List T)×ByteArray×Int×(List T)×Unit)):Option (Bool×Unit):=
 (ob (Go.Eng.v_slices_Contains___int_int_ n (t.1,t.2.2.2.2.1,())) fun x0=>(bif x0.1 then (bif (Bool.not (Go.Eng.eqI t.2.2.2.2.1 (4:Int))) then (some (Bool.true,())) else (ob (Go.Eng.v_slices_Contains___string_string_ n (t.2.2.2.1,t.2.2.2.2.2.2.2.2.1,())) fun x1=>(some (x1.1,())))) else (some (Bool.false,()))))
theorem le__entity_rule__fits(n:Nat)(t:((List T)×Int×Int×(List T)×Int×Bool×(List T)×(List T)×ByteArray×Int×(List T)×Unit)):Le (v__entity_rule__fits n t) (u__entity_rule__fits t):=by
 unfold v__entity_rule__fits u__entity_rule__fits
 repeat' with_reducible first | exact le_rfl | refine le_cond ?_ ?_ | refine le_onS (fun _=>?_) fun _=>?_ | refine le_ob ?_ fun _=>?_ | refine le_both ?_ ?_ | exact le_slices_Contains___int_int_ n _ | exact le_slices_Contains___string_string_ n _
noncomputable def v_entity_typed_1(n:Nat)(t:(Int×Bool×(List T)×(List T)×ByteArray×Int×(List T)×Unit×(List T)×Int×Int×(List T)×Unit)):Option (Bool×(List T)×Int×Int×(List T)×Unit):=
 (ob (Go.Eng.v__entity_rule__fits n (t.2.2.2.2.2.2.2.2.1,t.2.2.2.2.2.2.2.2.2.1,t.2.2.2.2.2.2.2.2.2.2.1,t.2.2.2.2.2.2.2.2.2.2.2.1,t.1,t.2.1,t.2.2.1,t.2.2.2.1,t.2.2.2.2.1,t.2.2.2.2.2.1,t.2.2.2.2.2.2.1,())) fun x0=>(some ((Bool.not x0.1),t.2.2.2.2.2.2.2.2.1,t.2.2.2.2.2.2.2.2.2.1,t.2.2.2.2.2.2.2.2.2.2.1,t.2.2.2.2.2.2.2.2.2.2.2.1,())))
theorem le_entity_typed_1(n:Nat)(t:(Int×Bool×(List T)×(List T)×ByteArray×Int×(List T)×Unit×(List T)×Int×Int×(List T)×Unit)):Le (v_entity_typed_1 n t) (u_entity_typed_1 t):=by
 unfold v_entity_typed_1 u_entity_typed_1
 repeat' with_reducible first | exact le_rfl | refine le_cond ?_ ?_ | refine le_onS (fun _=>?_) fun _=>?_ | refine le_ob ?_ fun _=>?_ | refine le_both ?_ ?_ | exact le__entity_rule__fits n _
noncomputable def v_slices_IndexFunc___api_Arg_api_Arg__l0(n:Nat)(s0:(List T×Unit×Int×Int×List T×Int×Int×List T×Unit)):Option ((List T×Unit×Int×Int×List T×Int×Int×List T×Unit)⊕((Int×List T×Int×Int×List T×Unit)⊕((List T×Int×Int×List T×Unit)⊕Empty))):=
 (bif (Go.Eng.ltI s0.2.2.2.1 s0.2.2.1) then (ob (Go.Eng.idxL s0.1 s0.2.2.2.1) fun x1=>(ob (Go.Eng.T.int? Go.IntKind.i64 (Go.Eng.T.cell x1 0)) fun x2=>(ob (Go.Eng.T.bool? (Go.Eng.T.cell x1 1)) fun x3=>(ob (Go.Eng.T.sl? 1 (Go.Eng.T.cell x1 2)) fun x4=>(ob (Go.Eng.T.sl? 1 (Go.Eng.T.cell x1 3)) fun x5=>(ob (Go.Eng.T.str? (Go.Eng.T.cell x1 4)) fun x6=>(ob (Go.Eng.T.int? Go.IntKind.i64 (Go.Eng.T.cell x1 5)) fun x7=>(ob (Go.Eng.T.sl? 7 (Go.Eng.T.cell x1 6)) fun x8=>(ob (Go.Eng.v_entity_typed_1 n (x2,x3,x4,x5,x6,x7,x8,(),s0.2.2.2.2.1,s0.2.2.2.2.2.1,s0.2.2.2.2.2.2.1,s0.2.2.2.2.2.2.2.1,())) fun x9=>(bif x9.1 then (some (Sum.inr (Sum.inl (s0.2.2.2.1,x9.2.1,x9.2.2.1,x9.2.2.2.1,x9.2.2.2.2.1,())))) else (some (Sum.inl (s0.1,(),s0.2.2.1,(Go.Eng.wr Go.IntKind.i64 (Go.Eng.addI s0.2.2.2.1 (1:Int))),x9.2.1,x9.2.2.1,x9.2.2.2.1,x9.2.2.2.2.1,()))))))))))))) else (some (Sum.inr (Sum.inr (Sum.inl (s0.2.2.2.2.1,s0.2.2.2.2.2.1,s0.2.2.2.2.2.2.1,s0.2.2.2.2.2.2.2.1,()))))))
theorem le_slices_IndexFunc___api_Arg_api_Arg__l0(n:Nat)(s0:(List T×Unit×Int×Int×List T×Int×Int×List T×Unit)):Le (v_slices_IndexFunc___api_Arg_api_Arg__l0 n s0) (u_slices_IndexFunc___api_Arg_api_Arg__l0 s0):=by
 unfold v_slices_IndexFunc___api_Arg_api_Arg__l0 u_slices_IndexFunc___api_Arg_api_Arg__l0
 repeat' with_reducible first | exact le_rfl | refine le_cond ?_ ?_ | refine le_onS (fun _=>?_) fun _=>?_ | refine le_ob ?_ fun _=>?_ | refine le_both ?_ ?_ | exact le_entity_typed_1 n _
noncomputable def v_slices_IndexFunc___api_Arg_api_Arg_(n:Nat)(t:((List T)×Unit×(List T)×Int×Int×(List T)×Unit)):Option (Int×(List T)×Int×Int×(List T)×Unit):=
 (ob (iter (v_slices_IndexFunc___api_Arg_api_Arg__l0 n) n (t.1,(),(Go.Eng.lenL t.1),(0:Int),t.2.2.1,t.2.2.2.1,t.2.2.2.2.1,t.2.2.2.2.2.1,())) fun q10=>onS q10 (fun t11=>(some (t11.1,t11.2.1,t11.2.2.1,t11.2.2.2.1,t11.2.2.2.2.1,()))) fun q12=>onS q12 (fun t13=>(some ((-1:Int),t13.1,t13.2.1,t13.2.2.1,t13.2.2.2.1,()))) fun q14=>noS q14)
theorem le_slices_IndexFunc___api_Arg_api_Arg_(n:Nat)(t:((List T)×Unit×(List T)×Int×Int×(List T)×Unit)):Le (v_slices_IndexFunc___api_Arg_api_Arg_ n t) (u_slices_IndexFunc___api_Arg_api_Arg_ t):=by
 unfold v_slices_IndexFunc___api_Arg_api_Arg_ u_slices_IndexFunc___api_Arg_api_Arg_
 repeat' with_reducible first | exact le_rfl | refine le_cond ?_ ?_ | refine le_onS (fun _=>?_) fun _=>?_ | refine le_ob ?_ fun _=>?_ | refine le_both ?_ ?_ | exact le_loop (le_slices_IndexFunc___api_Arg_api_Arg__l0 n) _ _
noncomputable def v_slices_ContainsFunc___api_Arg_api_Arg_(n:Nat)(t:((List T)×Unit×(List T)×Int×Int×(List T)×Unit)):Option (Bool×(List T)×Int×Int×(List T)×Unit):=
 (ob (Go.Eng.v_slices_IndexFunc___api_Arg_api_Arg_ n (t.1,(),t.2.2.1,t.2.2.2.1,t.2.2.2.2.1,t.2.2.2.2.2.1,())) fun x0=>(some ((Go.Eng.leI (0:Int) x0.1),x0.2.1,x0.2.2.1,x0.2.2.2.1,x0.2.2.2.2.1,())))
theorem le_slices_ContainsFunc___api_Arg_api_Arg_(n:Nat)(t:((List T)×Unit×(List T)×Int×Int×(List T)×Unit)):Le (v_slices_ContainsFunc___api_Arg_api_Arg_ n t) (u_slices_ContainsFunc___api_Arg_api_Arg_ t):=by
 unfold v_slices_ContainsFunc___api_Arg_api_Arg_ u_slices_ContainsFunc___api_Arg_api_Arg_
 repeat' with_reducible first | exact le_rfl | refine le_cond ?_ ?_ | refine le_onS (fun _=>?_) fun _=>?_ | refine le_ob ?_ fun _=>?_ | refine le_both ?_ ?_ | exact le_slices_IndexFunc___api_Arg_api_Arg_ n _
noncomputable def v_entity_typed_l0(n:Nat)(s1:(List T×Unit×List T×List T×Int×Int×ByteArray×List T×Unit)):Option ((List T×Unit×List T×List T×Int×Int×ByteArray×List T×Unit)⊕((Int×Unit)⊕((List T×Unit×List T×ByteArray×List T×Unit)⊕Empty))):=
 (bif (Go.Eng.ltI s1.2.2.2.2.2.1 s1.2.2.2.2.1) then (ob (Go.Eng.idxL s1.2.2.2.1 s1.2.2.2.2.2.1) fun x2=>(ob (Go.Eng.idxL s1.2.2.2.2.2.2.2.1 s1.2.2.2.2.2.1) fun x3=>(ob (Go.Eng.T.sl? 1 (Go.Eng.T.cell x2 0)) fun x4=>(ob (Go.Eng.T.int? Go.IntKind.i64 (Go.Eng.T.cell x2 1)) fun x5=>(ob (Go.Eng.T.int? Go.IntKind.i64 (Go.Eng.T.cell x2 2)) fun x6=>(ob (Go.Eng.T.sl? 1 (Go.Eng.T.cell x2 3)) fun x7=>(ob (Go.Eng.T.int? Go.IntKind.i64 (Go.Eng.T.cell x3 0)) fun x8=>(ob (Go.Eng.T.bool? (Go.Eng.T.cell x3 1)) fun x9=>(ob (Go.Eng.T.sl? 1 (Go.Eng.T.cell x3 2)) fun x10=>(ob (Go.Eng.T.sl? 1 (Go.Eng.T.cell x3 3)) fun x11=>(ob (Go.Eng.T.str? (Go.Eng.T.cell x3 4)) fun x12=>(ob (Go.Eng.T.int? Go.IntKind.i64 (Go.Eng.T.cell x3 5)) fun x13=>(ob (Go.Eng.T.sl? 7 (Go.Eng.T.cell x3 6)) fun x14=>(ob (Go.Eng.u__entity_rule__elements (x4,x5,x6,x7,x8,x9,x10,x11,x12,x13,x14,())) fun x15=>(bif (Bool.not x15.2.1) then (some (Sum.inr (Sum.inl ((36:Int),())))) else (ob (Go.Eng.T.sl? 1 (Go.Eng.T.cell x2 0)) fun x16=>(ob (Go.Eng.T.int? Go.IntKind.i64 (Go.Eng.T.cell x2 1)) fun x17=>(ob (Go.Eng.T.int? Go.IntKind.i64 (Go.Eng.T.cell x2 2)) fun x18=>(ob (Go.Eng.T.sl? 1 (Go.Eng.T.cell x2 3)) fun x19=>(ob (Go.Eng.v_slices_ContainsFunc___api_Arg_api_Arg_ n (x15.1,(),x16,x17,x18,x19,())) fun x20=>(bif x20.1 then (some (Sum.inr (Sum.inl ((36:Int),())))) else (some (Sum.inl (s1.1,(),s1.2.2.1,s1.2.2.2.1,s1.2.2.2.2.1,(Go.Eng.wr Go.IntKind.i64 (Go.Eng.addI s1.2.2.2.2.2.1 (1:Int))),s1.2.2.2.2.2.2.1,s1.2.2.2.2.2.2.2.1,())))))))))))))))))))))))) else (some (Sum.inr (Sum.inr (Sum.inl (s1.1,(),s1.2.2.1,s1.2.2.2.2.2.2.1,s1.2.2.2.2.2.2.2.1,()))))))
theorem le_entity_typed_l0(n:Nat)(s1:(List T×Unit×List T×List T×Int×Int×ByteArray×List T×Unit)):Le (v_entity_typed_l0 n s1) (u_entity_typed_l0 s1):=by
 unfold v_entity_typed_l0 u_entity_typed_l0
 repeat' with_reducible first | exact le_rfl | refine le_cond ?_ ?_ | refine le_onS (fun _=>?_) fun _=>?_ | refine le_ob ?_ fun _=>?_ | refine le_both ?_ ?_ | exact le_slices_ContainsFunc___api_Arg_api_Arg_ n _
noncomputable def v_entity_typed_l2(n:Nat)(s40:(List T×Unit×Unit×List T×Int×Int×List T×Int×Int×ByteArray×List T×T×T×T×T×Unit)):Option ((List T×Unit×Unit×List T×Int×Int×List T×Int×Int×ByteArray×List T×T×T×T×T×Unit)⊕((Int×Unit)⊕((List T×Unit×List T×Int×Int×ByteArray×List T×Unit)⊕Empty))):=
 (bif (Go.Eng.ltI s40.2.2.2.2.2.2.2.2.1 s40.2.2.2.2.2.2.2.1) then (ob (Go.Eng.idxL s40.2.2.2.2.2.2.1 s40.2.2.2.2.2.2.2.2.1) fun x41=>(ob (Go.Eng.T.int? Go.IntKind.i64 (Go.Eng.T.cell x41 5)) fun x42=>(ob (Go.Eng.T.one? (Go.Eng.mapGetD (Go.Eng.T.v (Go.Value.int Go.IntKind.i64 x42)) s40.1 (Go.Eng.T.v (Go.Value.string (ByteArray.mk #[]))))) fun x43=>(ob (Go.Eng.T.int? Go.IntKind.i64 (Go.Eng.T.cell x41 0)) fun x44=>(bif (Go.Eng.eqI x44 (5:Int)) then (bif (Bool.not (Go.Eng.mapHas (Go.Eng.T.v (Go.Value.int Go.IntKind.i64 x42)) s40.1)) then (some (Sum.inr (Sum.inl ((35:Int),())))) else (ob (Go.Eng.T.sl? 1 s40.2.2.2.2.2.2.2.2.2.2.2.2.2.2.1) fun x45=>(ob (Go.Eng.T.str? x43) fun x46=>(ob (Go.Eng.v_slices_Contains___string_string_ n (x45,x46,())) fun x47=>(bif (Bool.not x47.1) then (some (Sum.inr (Sum.inl ((35:Int),())))) else (some (Sum.inl (s40.1,(),(),s40.2.2.2.1,s40.2.2.2.2.1,s40.2.2.2.2.2.1,s40.2.2.2.2.2.2.1,s40.2.2.2.2.2.2.2.1,(Go.Eng.wr Go.IntKind.i64 (Go.Eng.addI s40.2.2.2.2.2.2.2.2.1 (1:Int))),s40.2.2.2.2.2.2.2.2.2.1,s40.2.2.2.2.2.2.2.2.2.2.1,s40.2.2.2.2.2.2.2.2.2.2.2.1,s40.2.2.2.2.2.2.2.2.2.2.2.2.1,s40.2.2.2.2.2.2.2.2.2.2.2.2.2.1,s40.2.2.2.2.2.2.2.2.2.2.2.2.2.2.1,())))))))) else (some (Sum.inl (s40.1,(),(),s40.2.2.2.1,s40.2.2.2.2.1,s40.2.2.2.2.2.1,s40.2.2.2.2.2.2.1,s40.2.2.2.2.2.2.2.1,(Go.Eng.wr Go.IntKind.i64 (Go.Eng.addI s40.2.2.2.2.2.2.2.2.1 (1:Int))),s40.2.2.2.2.2.2.2.2.2.1,s40.2.2.2.2.2.2.2.2.2.2.1,s40.2.2.2.2.2.2.2.2.2.2.2.1,s40.2.2.2.2.2.2.2.2.2.2.2.2.1,s40.2.2.2.2.2.2.2.2.2.2.2.2.2.1,s40.2.2.2.2.2.2.2.2.2.2.2.2.2.2.1,())))))))) else (some (Sum.inr (Sum.inr (Sum.inl (s40.1,(),s40.2.2.2.1,s40.2.2.2.2.1,s40.2.2.2.2.2.1,s40.2.2.2.2.2.2.2.2.2.1,s40.2.2.2.2.2.2.2.2.2.2.1,()))))))
theorem le_entity_typed_l2(n:Nat)(s40:(List T×Unit×Unit×List T×Int×Int×List T×Int×Int×ByteArray×List T×T×T×T×T×Unit)):Le (v_entity_typed_l2 n s40) (u_entity_typed_l2 s40):=by
 unfold v_entity_typed_l2 u_entity_typed_l2
 repeat' with_reducible first | exact le_rfl | refine le_cond ?_ ?_ | refine le_onS (fun _=>?_) fun _=>?_ | refine le_ob ?_ fun _=>?_ | refine le_both ?_ ?_ | exact le_slices_Contains___string_string_ n _
noncomputable def v_entity_typed_l1(n:Nat)(s25:(List T×Unit×List T×Int×Int×ByteArray×List T×Unit)):Option ((List T×Unit×List T×Int×Int×ByteArray×List T×Unit)⊕((Int×Unit)⊕((Unit)⊕Empty))):=
 (bif (Go.Eng.ltI s25.2.2.2.2.1 s25.2.2.2.1) then (ob (Go.Eng.idxL s25.2.2.1 s25.2.2.2.2.1) fun x26=>(ob (Go.Eng.idxL s25.2.2.2.2.2.2.1 s25.2.2.2.2.1) fun x27=>(ob (Go.Eng.T.sl? 1 (Go.Eng.T.cell x26 0)) fun x28=>(ob (Go.Eng.T.int? Go.IntKind.i64 (Go.Eng.T.cell x26 1)) fun x29=>(ob (Go.Eng.T.int? Go.IntKind.i64 (Go.Eng.T.cell x26 2)) fun x30=>(ob (Go.Eng.T.sl? 1 (Go.Eng.T.cell x26 3)) fun x31=>(ob (Go.Eng.T.int? Go.IntKind.i64 (Go.Eng.T.cell x27 0)) fun x32=>(ob (Go.Eng.T.bool? (Go.Eng.T.cell x27 1)) fun x33=>(ob (Go.Eng.T.sl? 1 (Go.Eng.T.cell x27 2)) fun x34=>(ob (Go.Eng.T.sl? 1 (Go.Eng.T.cell x27 3)) fun x35=>(ob (Go.Eng.T.str? (Go.Eng.T.cell x27 4)) fun x36=>(ob (Go.Eng.T.int? Go.IntKind.i64 (Go.Eng.T.cell x27 5)) fun x37=>(ob (Go.Eng.T.sl? 7 (Go.Eng.T.cell x27 6)) fun x38=>(ob (Go.Eng.u__entity_rule__elements (x28,x29,x30,x31,x32,x33,x34,x35,x36,x37,x38,())) fun x39=>(ob (iter (v_entity_typed_l2 n) n (s25.1,(),(),s25.2.2.1,s25.2.2.2.1,s25.2.2.2.2.1,x39.1,(Go.Eng.lenL x39.1),(0:Int),s25.2.2.2.2.2.1,s25.2.2.2.2.2.2.1,(Go.Eng.T.cell x26 0),(Go.Eng.T.cell x26 1),(Go.Eng.T.cell x26 2),(Go.Eng.T.cell x26 3),())) fun q48=>onS q48 (fun t49=>(some (Sum.inr (Sum.inl (t49.1,()))))) fun q50=>onS q50 (fun t51=>(some (Sum.inl (t51.1,(),t51.2.2.1,t51.2.2.2.1,(Go.Eng.wr Go.IntKind.i64 (Go.Eng.addI t51.2.2.2.2.1 (1:Int))),t51.2.2.2.2.2.1,t51.2.2.2.2.2.2.1,())))) fun q52=>noS q52))))))))))))))) else (some (Sum.inr (Sum.inr (Sum.inl ())))))
theorem le_entity_typed_l1(n:Nat)(s25:(List T×Unit×List T×Int×Int×ByteArray×List T×Unit)):Le (v_entity_typed_l1 n s25) (u_entity_typed_l1 s25):=by
 unfold v_entity_typed_l1 u_entity_typed_l1
 repeat' with_reducible first | exact le_rfl | refine le_cond ?_ ?_ | refine le_onS (fun _=>?_) fun _=>?_ | refine le_ob ?_ fun _=>?_ | refine le_both ?_ ?_ | exact le_loop (le_entity_typed_l2 n) _ _
noncomputable def v_entity_typed(n:Nat)(t:((List T)×ByteArray×(List T)×Unit)):Option (Int×Unit):=
 (ob (Go.Eng.u_entity_rules (t.2.1,())) fun x0=>(bif (Go.Eng.nilL x0.1) then (bothV (some ((38:Int),())) (bif (Bool.not (Go.Eng.eqI (Go.Eng.lenL t.2.2.1) (Go.Eng.lenL x0.1))) then (some ((36:Int),())) else (ob (iter (v_entity_typed_l0 n) n (t.1,(),x0.1,x0.1,(Go.Eng.lenL x0.1),(0:Int),t.2.1,t.2.2.1,())) fun q21=>onS q21 (fun t22=>(some (t22.1,()))) fun q23=>onS q23 (fun t24=>(ob (iter (v_entity_typed_l1 n) n (t24.1,(),t24.2.2.1,(Go.Eng.lenL t24.2.2.1),(0:Int),t24.2.2.2.1,t24.2.2.2.2.1,())) fun q53=>onS q53 (fun t54=>(some (t54.1,()))) fun q55=>onS q55 (fun t56=>(some ((0:Int),()))) fun q57=>noS q57)) fun q58=>noS q58))) else (bif (Bool.not (Go.Eng.eqI (Go.Eng.lenL t.2.2.1) (Go.Eng.lenL x0.1))) then (some ((36:Int),())) else (ob (iter (v_entity_typed_l0 n) n (t.1,(),x0.1,x0.1,(Go.Eng.lenL x0.1),(0:Int),t.2.1,t.2.2.1,())) fun q79=>onS q79 (fun t80=>(some (t80.1,()))) fun q81=>onS q81 (fun t82=>(ob (iter (v_entity_typed_l1 n) n (t82.1,(),t82.2.2.1,(Go.Eng.lenL t82.2.2.1),(0:Int),t82.2.2.2.1,t82.2.2.2.2.1,())) fun q111=>onS q111 (fun t112=>(some (t112.1,()))) fun q113=>onS q113 (fun t114=>(some ((0:Int),()))) fun q115=>noS q115)) fun q116=>noS q116))))
theorem le_entity_typed(n:Nat)(t:((List T)×ByteArray×(List T)×Unit)):Le (v_entity_typed n t) (u_entity_typed t):=by
 unfold v_entity_typed u_entity_typed
 repeat' with_reducible first | exact le_rfl | refine le_cond ?_ ?_ | refine le_onS (fun _=>?_) fun _=>?_ | refine le_ob ?_ fun _=>?_ | refine le_both ?_ ?_ | exact le_loop (le_entity_typed_l0 n) _ _ | exact le_loop (le_entity_typed_l1 n) _ _
noncomputable def v_entity_typedC(n:Nat)(t:((List T)×ByteArray×(List T)×Unit)):Option (Int×Unit):=match u_entity_typedN t with
 | some q=>some q
 | none=>v_entity_typed n t
theorem le_entity_typedC(n:Nat)(t:((List T)×ByteArray×(List T)×Unit)):Le (v_entity_typedC n t) (u_entity_typedC t):=by
 unfold v_entity_typedC
 cases h:u_entity_typedN t with
 | some q=>rw[typedC_N h];exact le_rfl
 | none=>rw[typedC_O h];exact le_entity_typed n t
end Go.Eng
namespace Go.Eng.En
open Go.Eng
noncomputable def typV(n:Nat)(words:List T):List T→List T→Option (List T)
 | [],out=>some out
 | x::l,out=>ob (T.int? .i64 (T.cell x 0)) fun id=>ob (T.str? (T.cell x 1)) fun nm=>ob (T.sl? 7 (T.cell x 2)) fun args=>ob (v_entity_typedC n (words,nm,args,())) fun e=>
  bif eqI e.1 0 then typV n words l out else ob (room out [dT (e.1,id)] 40) fun out=>typV n words l out
theorem le_typV(n:Nat)(words:List T):∀l out,Le (typV n words l out) (typL words l out)
 | [],out=>le_rfl
 | x::l,out=>by
  simp only[typV,typL]
  exact le_ob le_rfl fun _=>le_ob le_rfl fun _=>le_ob le_rfl fun _=>le_ob (le_entity_typedC n _) fun _=>le_cond (le_typV n words l _) (le_ob le_rfl fun _=>le_typV n words l _)
end Go.Eng.En
namespace Go.Eng
noncomputable def v_entity_Typed(n:Nat)(t:((List T)×(List T)×Unit)):Option ((List T)×Unit):=ob (En.wordsL t.2.1) fun m=>ob (En.typV n m t.2.1 []) fun out=>some (out,())
theorem le_entity_Typed(n:Nat)(t:((List T)×(List T)×Unit)):Le (v_entity_Typed n t) (u_entity_Typed t):=le_ob le_rfl fun _=>le_ob (En.le_typV n _ _ _) fun _=>le_rfl
noncomputable def v_brepkernellaw24_sane(n:Nat)(t:Unit):Option (Bool×Unit):=
 (ob (Go.Eng.v_ref02_Frac n ((-3:Int),(8:Int),())) fun x0=>(ob (Go.Eng.v_entity_Decimal n (x0.1,x0.2.1,x0.2.2.1,())) fun x1=>(ob (Go.Eng.v_ref02_Int n ((5:Int),())) fun x2=>(ob (Go.Eng.v_entity_Decimal n (x2.1,x2.2.1,x2.2.2.1,())) fun x3=>(ob (Go.Eng.v_ref02_Frac n ((1:Int),(3:Int),())) fun x4=>(ob (Go.Eng.v_entity_Decimal n (x4.1,x4.2.1,x4.2.2.1,())) fun x5=>(ob (Go.Eng.v_entity_Typed n ([],[(Go.Eng.T.agg [(Go.Eng.T.v (Go.Value.int Go.IntKind.i64 (1:Int))),(Go.Eng.T.v (Go.Value.string (ByteArray.mk #[80,76,65,78,69]))),(Go.Eng.T.sl 7 [(Go.Eng.T.agg [(Go.Eng.T.v (Go.Value.int Go.IntKind.i64 (3:Int))),(Go.Eng.T.v (Go.Value.bool Bool.false)),(Go.Eng.T.sl 1 []),(Go.Eng.T.sl 1 []),(Go.Eng.T.v (Go.Value.string (ByteArray.mk #[]))),(Go.Eng.T.v (Go.Value.int Go.IntKind.i64 (0:Int))),(Go.Eng.T.sl 7 [])]),(Go.Eng.T.agg [(Go.Eng.T.v (Go.Value.int Go.IntKind.i64 (5:Int))),(Go.Eng.T.v (Go.Value.bool Bool.false)),(Go.Eng.T.sl 1 []),(Go.Eng.T.sl 1 []),(Go.Eng.T.v (Go.Value.string (ByteArray.mk #[]))),(Go.Eng.T.v (Go.Value.int Go.IntKind.i64 (2:Int))),(Go.Eng.T.sl 7 [])]),(Go.Eng.T.agg [(Go.Eng.T.v (Go.Value.int Go.IntKind.i64 (5:Int))),(Go.Eng.T.v (Go.Value.bool Bool.false)),(Go.Eng.T.sl 1 []),(Go.Eng.T.sl 1 []),(Go.Eng.T.v (Go.Value.string (ByteArray.mk #[]))),(Go.Eng.T.v (Go.Value.int Go.IntKind.i64 (2:Int))),(Go.Eng.T.sl 7 [])])])]),(Go.Eng.T.agg [(Go.Eng.T.v (Go.Value.int Go.IntKind.i64 (2:Int))),(Go.Eng.T.v (Go.Value.string (ByteArray.mk #[67,65,82,84,69,83,73,65,78,95,80,79,73,78,84]))),(Go.Eng.T.sl 7 [(Go.Eng.T.agg [(Go.Eng.T.v (Go.Value.int Go.IntKind.i64 (3:Int))),(Go.Eng.T.v (Go.Value.bool Bool.false)),(Go.Eng.T.sl 1 []),(Go.Eng.T.sl 1 []),(Go.Eng.T.v (Go.Value.string (ByteArray.mk #[]))),(Go.Eng.T.v (Go.Value.int Go.IntKind.i64 (0:Int))),(Go.Eng.T.sl 7 [])]),(Go.Eng.T.agg [(Go.Eng.T.v (Go.Value.int Go.IntKind.i64 (6:Int))),(Go.Eng.T.v (Go.Value.bool Bool.false)),(Go.Eng.T.sl 1 []),(Go.Eng.T.sl 1 []),(Go.Eng.T.v (Go.Value.string (ByteArray.mk #[]))),(Go.Eng.T.v (Go.Value.int Go.IntKind.i64 (0:Int))),(Go.Eng.T.sl 7 [(Go.Eng.T.agg [(Go.Eng.T.v (Go.Value.int Go.IntKind.i64 (1:Int))),(Go.Eng.T.v (Go.Value.bool Bool.false)),(Go.Eng.T.sl 1 []),(Go.Eng.T.sl 1 []),(Go.Eng.T.v (Go.Value.string (ByteArray.mk #[]))),(Go.Eng.T.v (Go.Value.int Go.IntKind.i64 (0:Int))),(Go.Eng.T.sl 7 [])]),(Go.Eng.T.agg [(Go.Eng.T.v (Go.Value.int Go.IntKind.i64 (1:Int))),(Go.Eng.T.v (Go.Value.bool Bool.false)),(Go.Eng.T.sl 1 []),(Go.Eng.T.sl 1 []),(Go.Eng.T.v (Go.Value.string (ByteArray.mk #[]))),(Go.Eng.T.v (Go.Value.int Go.IntKind.i64 (0:Int))),(Go.Eng.T.sl 7 [])]),(Go.Eng.T.agg [(Go.Eng.T.v (Go.Value.int Go.IntKind.i64 (1:Int))),(Go.Eng.T.v (Go.Value.bool Bool.false)),(Go.Eng.T.sl 1 []),(Go.Eng.T.sl 1 []),(Go.Eng.T.v (Go.Value.string (ByteArray.mk #[]))),(Go.Eng.T.v (Go.Value.int Go.IntKind.i64 (0:Int))),(Go.Eng.T.sl 7 [])])])])])])],())) fun x6=>(bif x1.2.1 then (bif (Go.Eng.eqS x1.1 (ByteArray.mk #[45,48,46,51,55,53])) then (bif x3.2.1 then (bif (Go.Eng.eqS x3.1 (ByteArray.mk #[53,46])) then (bif (Bool.not x5.2.1) then (bif (Go.Eng.eqI (Go.Eng.lenL x6.1) (1:Int)) then (ob (Go.Eng.idxL x6.1 (0:Int)) fun x7=>(ob (Go.Eng.T.int? Go.IntKind.i64 (Go.Eng.T.cell x7 0)) fun x8=>(bif (Go.Eng.eqI x8 (35:Int)) then (ob (Go.Eng.idxL x6.1 (0:Int)) fun x9=>(ob (Go.Eng.T.int? Go.IntKind.i64 (Go.Eng.T.cell x9 1)) fun x10=>(some ((Go.Eng.eqI x10 (1:Int)),())))) else (some (Bool.false,()))))) else (some (Bool.false,()))) else (some (Bool.false,()))) else (some (Bool.false,()))) else (some (Bool.false,()))) else (some (Bool.false,()))) else (some (Bool.false,()))))))))))
theorem le_brepkernellaw24_sane(n:Nat)(t:Unit):Le (v_brepkernellaw24_sane n t) (u_brepkernellaw24_sane t):=by
 unfold v_brepkernellaw24_sane u_brepkernellaw24_sane
 repeat' with_reducible first | exact le_rfl | refine le_cond ?_ ?_ | refine le_onS (fun _=>?_) fun _=>?_ | refine le_ob ?_ fun _=>?_ | refine le_both ?_ ?_ | exact le_ref02_Frac n _ | exact le_entity_Decimal n _ | exact le_ref02_Int n _ | exact le_entity_Typed n _
end Go.Eng
namespace Go.Eng.En
open Go.Eng
theorem v_sane:v_brepkernellaw24_sane 40 ()=some (true,()):=by kernel_rfl
theorem e_sane:u_brepkernellaw24_sane ()=some (true,()):=le_brepkernellaw24_sane 40 () _ v_sane
end Go.Eng.En
namespace Go.Eng.En
open Go.Eng
theorem frm_ok:∀p∈frm,(∀f∈p.1,f∈fms)∧p.1.length≤100∧lenS p.2=(p.1.length:Int)∧p.1≠[]∧∀(k:Nat) f,p.1[k]?=some f→idxS p.2 (k:Int)=some f.c:=by
 intro p hp
 simp only[frm,List.mem_cons,List.not_mem_nil,or_false] at hp
 rcases hp with rfl | rfl | rfl | rfl | rfl | rfl | rfl | rfl
 all_goals
  refine⟨by intro f hf;simp only[List.mem_cons,List.not_mem_nil,or_false] at hf;simp only[fms,List.mem_cons,List.not_mem_nil,or_false];grind,by decide,by unfold lenS;rfl,by simp,fun k f hk=>?_⟩
  have hlt:=(List.getElem?_eq_some_iff.1 hk).1
  simp only[List.length_cons,List.length_nil] at hlt
  unfold idxS
  match k,hlt with
  | 0,_=>cases hk;rfl
  | 1,_=>cases hk;rfl
  | 2,_=>first | (cases hk;rfl) | omega
  | 3,_=>first | (cases hk;rfl) | omega
  | k+4,h=>omega
theorem typed_eq{H D m args:List T}{name:ByteArray}(hD:OkD D)(hm:WD D m)(ha:args.length≤8)(hA:∀x∈args,OkA 8 x):∃e:Int,u_entity_typedC (m,name,args,())=some (e,())∧u_ref24_typed (H,D,name,args,())=some (e,()):=by
 rcases rules_cases name with⟨h1,s,h2⟩ | ⟨h1,p,hp,h2,h3⟩
 ·refine⟨38,typedC_N ?_,?_⟩
  ·unfold u_entity_typedN
   rw[h1];rfl
  ·unfold u_ref24_typed
   rw[h2];rfl
 ·obtain⟨f1,f2,f3,f4,f5⟩:=frm_ok p hp
  obtain⟨fs,F⟩:=p
  have hN:u_entity_typedN (m,name,args,())=none:=by unfold u_entity_typedN;rw[h1];rfl
  rw[typedC_O hN]
  unfold u_entity_typed u_ref24_typed
  rw[h2,h3]
  have hnil:nilL (fs.map Fm.T)=false:=by
   cases fs with
   | nil=>exact absurd rfl f4
   | cons f l=>exact nilL_cons _ _
  simp only[obS,hnil,cond_false,lenL_eq,List.length_map,Bool.not_true,eqI_eq]
  rw[show lenS F=(fs.length:Int) from f3]
  by_cases hn:args.length=fs.length
  ·rw[decide_eq_true (by omega)]
   simp only[Bool.not_true,cond_false]
   have a0:=ent_l0 (m:=m) (name:=name) f1 f2 hn hA
   have b0:=ref_l0 (F:=F) (H:=H) (D:=D) (name:=name) f1 f2 f3 f5 hn hA
   rcases a0 with⟨a1,a2⟩ | ⟨k,hk,a2,a1⟩
   ·rcases b0 with⟨b1,_⟩ | ⟨k,hk,b2,_⟩
    ·rw[a1,b1]
     simp only[obS,onS_r,onS_l,lenL_eq,List.length_map]
     have c0:=ent_l1 (D:=D) (name:=name) hm f1 f2 hn hA a2
     have d0:=ref_l1 (H:=H) (name:=name) hD f1 f2 f3 f5 hn hA a2
     rcases c0 with⟨c1,c2⟩ | ⟨k,hk,c2,c1⟩
     ·rcases d0 with⟨d1,_⟩ | ⟨k,hk,d2,_⟩
      ·rw[c1,d1]
       exact⟨0,rfl,rfl⟩
      ·rw[c2 k hk] at d2;cases d2
     ·rcases d0 with⟨_,d2⟩ | ⟨_,_,_,d1⟩
      ·rw[d2 k hk] at c2;cases c2
      ·rw[c1,d1]
       exact⟨35,rfl,rfl⟩
    ·rw[a2 k hk] at b2;cases b2
   ·rcases b0 with⟨_,b2⟩ | ⟨_,_,_,b1⟩
    ·rw[b2 k hk] at a2;cases a2
    ·rw[a1,b1]
     exact⟨36,rfl,rfl⟩
  ·rw[decide_eq_false (by omega)]
   exact⟨36,rfl,rfl⟩
theorem typL_loop{H D m:List T}(hD:OkD D)(hm:WD D m):∀(j k:Nat) (o:List (Int×Int)),k+j=D.length→o.length≤k→∃o':List (Int×Int),o'.length≤16∧typL m (D.drop k) (o.map dT)=some (o'.map dT) ∧
 loopU u_ref24_Typed_l0 ((),o.map dT,(k:Int),H,D,())=some (.inl (o'.map dT,()))
 | 0,k,o,hk,ho=>by
  have h16:=hD.1
  rw[List.drop_of_length_le (by omega)]
  refine⟨o,by omega,rfl,loopU_out ?_⟩
  unfold u_ref24_Typed_l0
  simp only[ltI_eq,lenL_eq]
  rw[decide_eq_false (by omega)]
  rfl
 | j+1,k,o,hk,ho=>by
  have h16:=hD.1
  obtain⟨x,hx⟩:∃x,D[k]?=some x:=⟨_,List.getElem?_eq_getElem (by omega)⟩
  have hdr:D.drop k=x::D.drop (k+1):=by
   obtain⟨h,rfl⟩:=List.getElem?_eq_some_iff.1 hx
   exact List.drop_eq_getElem_cons h
  obtain⟨name,args,e,ha1,ha2,_⟩:=ent_of hD hx
  obtain⟨c0,c1,c2⟩:=cell0 e
  obtain⟨er,t1,t2⟩:=typed_eq (H:=H) (name:=name) hD hm ha1 ha2
  have hw:wr .i64 ((k:Int)+1)=((k+1:Nat):Int):=by rw[wr64 (by omega) (by omega)];rfl
  rw[hdr]
  by_cases h0:er=0
  ·obtain⟨o',g1,g2,g3⟩:=typL_loop (H:=H) hD hm j (k+1) o (by omega) (by omega)
   refine⟨o',g1,?_,(loopU_go (s':=((),o.map dT,((k+1:Nat):Int),H,D,())) ?_).trans g3⟩
   ·simp only[typL,c0,c1,c2,T_int,T_str,T_sl,obS,t1,eqI_eq]
    rw[decide_eq_true h0]
    exact g2
   ·unfold u_ref24_Typed_l0
    simp only[ltI_eq,addI_eq,lenL_eq]
    rw[decide_eq_true (by omega),idxL_nat,hx]
    simp only[cond_true,obS,c1,c2,T_str,T_sl,t2,eqI_eq]
    rw[decide_eq_true h0]
    simp only[Bool.not_true,cond_false,obS,onS_l,hw]
  ·obtain⟨o',g1,g2,g3⟩:=typL_loop (H:=H) hD hm j (k+1) (o++[(er,idT x)]) (by omega) (by rw[List.length_append,List.length_singleton];omega)
   rw[List.map_append] at g2 g3
   refine⟨o',g1,?_,(loopU_go (s':=((),o.map dT++[(er,idT x)].map dT,((k+1:Nat):Int),H,D,())) ?_).trans g3⟩
   ·simp only[typL,c0,c1,c2,T_int,T_str,T_sl,obS,t1,eqI_eq]
    rw[decide_eq_false h0]
    simp only[cond_false]
    rw[room_ok (by simp only[List.length_map,List.length_cons,List.length_nil];omega) (by decide)]
    exact g2
   ·unfold u_ref24_Typed_l0
    simp only[ltI_eq,addI_eq,lenL_eq]
    rw[decide_eq_true (by omega),idxL_nat,hx]
    simp only[cond_true,obS,c0,c1,c2,T_int,T_str,T_sl,t2,eqI_eq]
    rw[decide_eq_false h0]
    simp only[Bool.not_false,cond_true,obS,onS_l,At_eq]
    rw[room_ok (by simp only[List.length_map,List.length_cons,List.length_nil];omega) (by decide)]
    simp only[obS,onS_l,hw]
    rfl
theorem typEq{H D:List T}(hD:OkD D):TypEq H D:=by
 obtain⟨m,hm,hw⟩:=words_has D hD.2
 obtain⟨o,h1,h2,h3⟩:=typL_loop (H:=H) hD hw D.length 0 [] (by omega) (by simp)
 refine⟨o,h1,?_,?_⟩
 ·unfold u_entity_Typed
  rw[hm]
  rw[List.drop_zero] at h2
  simp only[obS]
  rw[show typL m D []=some (o.map dT) from h2]
  rfl
 ·unfold u_ref24_Typed
  rw[show ((),([]:List T),(0:Int),H,D,())=((),([]:List (Int×Int)).map dT,((0:Nat):Int),H,D,()) from rfl,h3]
  rfl
theorem law_graph(zs:List Int)(id:Int):u_brepkernellaw24_EntityGraph (zs.map intT,id,())=some (true,()):=by
 unfold u_brepkernellaw24_EntityGraph
 rw[s_Light,List.length_map,e_sane]
 simp only[obS]
 by_cases hl:zs.length≤500
 ·rw[decide_eq_true hl,s_Roll]
  simp only[Bool.not_true,cond_false,obS]
  obtain⟨H1,D1,a1,e1,d1,k1⟩:=s_Small (show DiceOK (zs.map intT) 0 from⟨zs,rfl,by omega,by omega,by omega⟩)
  rw[e1]
  simp only[obS]
  obtain⟨H2,D2,a2,e2,d2,k2⟩:=s_File (n:=6) (by decide) (by decide) k1
  rw[e2]
  simp only[obS]
  obtain⟨H3,D3,a3,e3,d3,k3⟩:=s_Small k2
  rw[e3]
  simp only[obS]
  have h:=g_l0 (fs:=[(H1,D1),(H2,D2),(H3,D3)]) (id:=id) (by show (3:Nat)≤16;decide) (fun f hf=>by
   simp only[List.mem_cons,List.not_mem_nil,or_false] at hf
   rcases hf with rfl | rfl | rfl
   ·exact⟨d1,typEq d1⟩
   ·exact⟨d2,typEq d2⟩
   ·exact⟨d3,typEq d3⟩)
  simp only[lenL_eq]
  rw[show ([T.agg [T.sl 2 H1,T.sl 3 D1],T.agg [T.sl 2 H2,T.sl 3 D2],T.agg [T.sl 2 H3,T.sl 3 D3]]:List T)=[(H1,D1),(H2,D2),(H3,D3)].map fileT from rfl,List.length_map,h]
  rfl
 ·rw[decide_eq_false hl]
  rfl
end Go.Eng.En
