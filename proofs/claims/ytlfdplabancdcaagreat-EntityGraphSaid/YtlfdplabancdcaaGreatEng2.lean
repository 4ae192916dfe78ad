/- An engine that turns the code of a function into a plain function on tuples, part 2: what it says of a function holds of every run; it has no conditions of its own. -/
import Derived.Laws.StructEq
import Derived.ChangeKeysEq
import Derived.Lib.ConvBytes
import Derived.MapKept
import Derived.Carry
import Derived.Lib.MinMax
import Derived.LoopN
import Derived.Maps.RangeRun
import Derived.Scope
import Derived.Test.YtlfdplabancdcaaGreatEng1
set_option linter.unusedSimpArgs false
set_option linter.unusedVariables false
namespace Go.Eng
open Go.RowKit
section
variable {R:Type} {P:Program} {w0 w:World} {F Xc:Nat→Prop} {ρ0:Base} {ρ:Rho} {st:St} {a:Act} {r:R}
theorem scal_ok{X X':Nat→Prop}{w w':World}{ρ' ρ'':Rho}{s:S1}{y:Value}(h:RdS w X ρ' s y)(hs:s.list.all scalC=true):RdS w' X' ρ'' s y:=by
 have key:∀(c:C) (y:Value),scalC c=true→RdC1 w X ρ' c y→RdC1 w' X' ρ'' c y:=by
  intro c y hc hr
  unfold scalC at hc
  split at hc
  ·rcases hr with hr | ⟨hr,h1⟩
   ·cases hr
   ·have:=Rd.inv_v hr
    subst this
    exact .inr ⟨.v _,h1⟩
  ·cases hc
 cases s with
 | c c=>exact key c y (by simpa[S1.list] using hs) h
 | agg l=>
  obtain⟨cs,e,hl⟩:=h
  exact⟨cs,e,hl.1,fun i c y h1 h2=>key c y (List.all_eq_true.1 hs c (List.mem_of_getElem? h1)) (hl.2 i c y h1 h2)⟩
theorem res_scal{X X':Nat→Prop}{w w':World}{ρ' ρ'':Rho}{rs:List S1}{v:Value}(h:RdRes w X ρ' rs v)(hs:rs.all (fun s=>s.list.all scalC)=true):RdD w' X' ρ'' (resD rs) v:=by
 have key:∀{vs:List Value},RdSs w X ρ' rs vs→RdSs w' X' ρ'' rs vs:=fun hl=>⟨hl.1,fun i s y h1 h2=>scal_ok (hl.2 i s y h1 h2) (List.all_eq_true.1 hs s (List.mem_of_getElem? h1))⟩
 match rs with
 | [s]=>exact scal_ok (show RdS w X ρ' s v from h) (by simpa using hs)
 | []=>obtain⟨vs,e1,hl⟩:=h;exact⟨vs,e1,key hl⟩
 | s1::s2::l=>obtain⟨vs,e1,hl⟩:=h;exact⟨vs,e1,key hl⟩
theorem freezeL_len:∀(rows:List Nat) (objs:List O),(freezeL objs rows).length=objs.length
 | [],_=>rfl
 | q::rows,objs=>by simp only[freezeL_cons];split <;> simp[freezeL_len rows]
theorem freezeL_dead:∀(rows:List Nat) (objs:List O) (j:Nat),objs[j]?=some .dead→(freezeL objs rows)[j]?=some .dead
 | [],_,_,h=>h
 | q::rows,objs,j,h=>by
  simp only[freezeL_cons]
  split
  ·rename_i o ho
   refine freezeL_dead rows _ j ?_
   by_cases hq:q=j
   ·subst hq;rw[h] at ho;cases ho;rw[List.getElem?_set_self (List.getElem?_eq_some_iff.1 h).1];rfl
   ·rw[List.getElem?_set_ne hq];exact h
  ·exact freezeL_dead rows objs j h
theorem freezeL_fbox:∀(rows:List Nat) (objs:List O) (j:Nat) (l:List C),objs[j]?=some (.fbox l)→(freezeL objs rows)[j]?=some (.fbox l)
 | [],_,_,_,h=>h
 | q::rows,objs,j,l,h=>by
  simp only[freezeL_cons]
  split
  ·rename_i o ho
   refine freezeL_fbox rows _ j l ?_
   by_cases hq:q=j
   ·subst hq;rw[h] at ho;cases ho;rw[List.getElem?_set_self (List.getElem?_eq_some_iff.1 h).1];rfl
   ·rw[List.getElem?_set_ne hq];exact h
  ·exact freezeL_fbox rows objs j l h
theorem freezeL_rr:∀(rows:List Nat) (objs:List O) (j:Nat) (hole:Option Nat) (e e2:TypeId) (n:Nat) (l:List (List T)),objs[j]?=some (.rr hole e e2 n l)→(freezeL objs rows)[j]?=some (.rr hole e e2 n l)
 | [],_,_,_,_,_,_,_,h=>h
 | q::rows,objs,j,hole,e,e2,n,l,h=>by
  simp only[freezeL_cons]
  split
  ·rename_i o ho
   refine freezeL_rr rows _ j hole e e2 n l ?_
   by_cases hq:q=j
   ·subst hq;rw[h] at ho;cases ho;rw[List.getElem?_set_self (List.getElem?_eq_some_iff.1 h).1];rfl
   ·rw[List.getElem?_set_ne hq];exact h
  ·exact freezeL_rr rows objs j hole e e2 n l h
theorem freezeL_fwd:∀(rows:List Nat) (objs:List O) (j:Nat) (l:Nat),objs[j]?=some (.fwd l)→(freezeL objs rows)[j]?=some (.fwd l)
 | [],_,_,_,h=>h
 | q::rows,objs,j,l,h=>by
  simp only[freezeL_cons]
  split
  ·rename_i o ho
   refine freezeL_fwd rows _ j l ?_
   by_cases hq:q=j
   ·subst hq;rw[h] at ho;cases ho;rw[List.getElem?_set_self (List.getElem?_eq_some_iff.1 h).1];rfl
   ·rw[List.getElem?_set_ne hq];exact h
  ·exact freezeL_fwd rows objs j l h
theorem freezeL_itr:∀(rows:List Nat) (objs:List O) (j:Nat) (cur:Option T) (e:TypeId) (n:Nat) (l:List T),objs[j]?=some (.itr cur e n l)→(freezeL objs rows)[j]?=some (.itr cur e n l)
 | [],_,_,_,_,_,_,h=>h
 | q::rows,objs,j,cur,e,n,l,h=>by
  simp only[freezeL_cons]
  split
  ·rename_i o ho
   refine freezeL_itr rows _ j cur e n l ?_
   by_cases hq:q=j
   ·subst hq;rw[h] at ho;cases ho;rw[List.getElem?_set_self (List.getElem?_eq_some_iff.1 h).1];rfl
   ·rw[List.getElem?_set_ne hq];exact h
  ·exact freezeL_itr rows objs j cur e n l h
theorem freezeL_other:∀(rows:List Nat) (objs:List O) (j:Nat),j∉rows→(freezeL objs rows)[j]?=objs[j]?
 | [],_,_,_=>rfl
 | q::rows,objs,j,h=>by
  simp only[List.mem_cons,not_or] at h
  simp only[freezeL_cons]
  split
  ·rw[freezeL_other rows _ j h.2,List.getElem?_set_ne (fun e=>h.1 e.symm)]
  ·exact freezeL_other rows objs j h.2
theorem freezeL_has{objs:List O}{rows:List Nat}{j b:Nat}(h:Has (freezeL objs rows) ρ j b):Has objs ρ j b:=by
 obtain⟨o,v,h1,h2,h3,h4⟩:=h
 have hlt:j<objs.length:=by rw[←freezeL_len rows];exact(List.getElem?_eq_some_iff.1 h1).1
 cases ho:objs[j]'hlt with
 | box l=>
  have ho':objs[j]?=some (.box l):=by rw[List.getElem?_eq_getElem hlt,ho]
  rw[freezeL_box _ _ _ _ ho'] at h1
  cases h1
  exact⟨_,v,ho',rfl,h3,h4⟩
 | row fz e n l=>
  have ho':objs[j]?=some (.row fz e n l):=by rw[List.getElem?_eq_getElem hlt,ho]
  obtain⟨fz',g1,g2⟩:=freezeL_row rows _ _ _ _ _ _ ho'
  rw[g1] at h1
  cases h1
  cases fz with
  | false=>exact⟨_,v,ho',rfl,h3,h4⟩
  | true=>rw[g2 (.inl rfl)] at h2;cases h2
 | mp fz e n l=>
  have ho':objs[j]?=some (.mp fz e n l):=by rw[List.getElem?_eq_getElem hlt,ho]
  obtain⟨fz',g1,g2⟩:=freezeL_mp rows _ _ _ _ _ _ ho'
  rw[g1] at h1
  cases h1
  cases fz with
  | false=>exact⟨_,v,ho',rfl,h3,h4⟩
  | true=>rw[g2 (.inl rfl)] at h2;cases h2
 | fbox l=>
  have ho':objs[j]?=some (.fbox l):=by rw[List.getElem?_eq_getElem hlt,ho]
  rw[freezeL_fbox _ _ _ _ ho'] at h1
  cases h1;cases h2
 | rr hole e e2 n l=>
  have ho':objs[j]?=some (.rr hole e e2 n l):=by rw[List.getElem?_eq_getElem hlt,ho]
  rw[freezeL_rr _ _ _ _ _ _ _ _ ho'] at h1
  cases h1
  exact⟨_,v,ho',rfl,h3,h4⟩
 | itr cur e n l=>
  have ho':objs[j]?=some (.itr cur e n l):=by rw[List.getElem?_eq_getElem hlt,ho]
  rw[freezeL_itr _ _ _ _ _ _ _ ho'] at h1
  cases h1
  exact⟨_,v,ho',rfl,h3,h4⟩
 | fwd l=>
  have ho':objs[j]?=some (.fwd l):=by rw[List.getElem?_eq_getElem hlt,ho]
  rw[freezeL_fwd _ _ _ _ ho'] at h1
  cases h1;cases h2
 | dead=>
  have ho':objs[j]?=some .dead:=by rw[List.getElem?_eq_getElem hlt,ho]
  rw[freezeL_dead _ _ _ ho'] at h1
  cases h1;cases h2
 | fresh=>
  have ho':objs[j]?=some .fresh:=by rw[List.getElem?_eq_getElem hlt,ho]
  rw[(freezeL_np _ _ _).1 ho'] at h1
  cases h1;cases h2
theorem setK_other:∀(km:List (Option Nat)) (po:List O) (objs:List O) (j:Nat),some j∉km→(setK objs km po)[j]?=objs[j]?
 | [],po,objs,j,_=>by cases po <;> rfl
 | some k::km,[],objs,j,_=>rfl
 | none::km,[],objs,j,_=>rfl
 | some k::km,o::po,objs,j,h=>by
  simp only[setK]
  rw[setK_other km po _ j (fun hm=>h (by simp[hm])),List.getElem?_set_ne (fun e=>h (by simp[e]))]
 | none::km,o::po,objs,j,h=>by
  simp only[setK]
  exact setK_other km po _ j (fun hm=>h (by simp[hm]))
theorem setK_at:∀(km:List (Option Nat)) (po:List O) (objs:List O) (i k:Nat) (o:O),(km.filterMap id).Nodup→km[i]?=some (some k)→po[i]?=some o→k<objs.length→(setK objs km po)[k]?=some o
 | [],po,objs,i,k,o,_,h,_,_=>by simp at h
 | m::km,[],objs,i,k,o,_,_,h,_=>by simp at h
 | none::km,o'::po,objs,i,k,o,hn,h1,h2,hl=>by
  simp only[setK]
  cases i with
  | zero=>simp at h1
  | succ i=>exact setK_at km po objs i k o (by simpa using hn) (by simpa using h1) (by simpa using h2) hl
 | some q::km,o'::po,objs,i,k,o,hn,h1,h2,hl=>by
  simp only[setK]
  simp only[List.filterMap_cons,id_eq] at hn
  obtain⟨hq,hn'⟩:=List.nodup_cons.1 hn
  cases i with
  | zero=>
   simp at h1 h2
   subst h1;subst h2
   rw[setK_other km po _ q (fun hm=>hq (List.mem_filterMap.2 ⟨some q,hm,rfl⟩)),List.getElem?_set_self hl]
  | succ i=>exact setK_at km po _ i k o hn' (by simpa using h1) (by simpa using h2) (by simpa using hl)
theorem km_inj{km:List (Option Nat)}(hn:(km.filterMap id).Nodup){i j k:Nat}(h1:km[i]?=some (some k))(h2:km[j]?=some (some k)):i=j:=by
 induction km generalizing i j with
 | nil=>simp at h1
 | cons s rs ih=>
  have key:∀q,rs[q]?=some (some k)→s=some k→False:=fun q hq e=>by
   subst e
   simp only[List.filterMap_cons,id_eq] at hn
   exact(List.nodup_cons.1 hn).1 (List.mem_filterMap.2 ⟨some k,List.mem_of_getElem? hq,rfl⟩)
  have hnd:(rs.filterMap id).Nodup:=by
   cases s with
   | none=>simpa using hn
   | some v=>simp only[List.filterMap_cons,id_eq] at hn;exact(List.nodup_cons.1 hn).2
  cases i with
  | zero=>
   cases j with
   | zero=>rfl
   | succ j=>simp at h1 h2;exact(key j h2 h1).elim
  | succ i=>
   cases j with
   | zero=>simp at h1 h2;exact(key i h1 h2).elim
   | succ j=>simp at h1 h2;rw[ih hnd h1 h2]
theorem freshL_ok{st:St}{dst:Option Nat}{cnt:Nat}{nk:List Nat}(h:freshL st dst cnt=some nk):nk.length=cnt∧∀k∈nk,st.objs[k]?=some .fresh∧st.np≤k:=by
 unfold freshL at h
 split at h
 ·cases h;exact⟨rfl,by simp⟩
 ·rename_i n d
  dsimp only at h
  split at h
  ·rename_i hl
   cases h
   refine⟨hl,fun k hk=>?_⟩
   have hk1:=List.mem_of_mem_take hk
   obtain⟨hk2,hk3⟩:=List.mem_filter.1 hk1
   obtain⟨j,_,rfl⟩:=List.mem_map.1 hk2
   refine⟨?_,Nat.le_add_right _ _⟩
   unfold isFresh at hk3
   split at hk3
   ·rename_i ho;exact ho
   ·cases hk3
  ·split at h
   ·rename_i hl
    cases h
    refine⟨hl,fun k hk=>?_⟩
    have hk1:=List.mem_of_mem_take hk
    obtain⟨hk2,hk3⟩:=List.mem_filter.1 hk1
    simp only[Bool.and_eq_true,decide_eq_true_eq] at hk3
    refine⟨?_,Nat.le_trans (Nat.le_add_right _ _) hk3.1⟩
    have hk4:=hk3.2
    unfold isFresh at hk4
    split at hk4
    ·rename_i ho;exact ho
    ·cases hk4
   ·cases h
 ·cases h
theorem fm_some:∀l:List Nat,l.filterMap (id ∘ some)=l
 | []=>rfl
 | k::l=>by rw[List.filterMap_cons];simp only[Function.comp,id];exact congrArg _ (fm_some l)
theorem km0_nodup{ks:List Nat}{rws:List (Option Nat×O)}(h1:ks.Nodup)(h2:(rws.filterMap (·.1)).Nodup)(h3:∀key∈ks,key∈rws.filterMap (·.1)→False):((ks.map some++rws.map (·.1)).filterMap id).Nodup:=by
 rw[List.filterMap_append,List.filterMap_map,List.filterMap_map]
 have e1:ks.filterMap (id ∘ some)=ks:=by induction ks with | nil=>rfl | cons k l ih=>simp
 have e2:rws.filterMap (id ∘ (·.1))=rws.filterMap (·.1):=rfl
 rw[e1,e2]
 exact List.nodup_append.2 ⟨h1,h2,fun a ha b hb e=>h3 a ha (e▸hb)⟩
def rhoP(ρ:Rho)(ks:List Nat)(rws:List (Option Nat×O)):Rho:=fun i=>match (ks.map some++rws.map (·.1))[i]? with
 | some (some k)=>ρ k
 | some none=>some nilN
 | none=>none
where nilN:Value:=.slice none 0 0
theorem callK_ok{f:FuncId}{A:Callee}{dst:Option Nat}{ds:List D}{vals:List Value}{k:St→D→Option R}(hG:Good P w0 F)(hA:A.OK P f)(h:Rel w0 F Xc ρ0 ρ st a w)(hlen:ds.length=vals.length)
 (hd:∀(i:Nat) d v,ds[i]?=some d→vals[i]?=some v→RdD w (XB st.objs ρ Xc) ρ d v) (hk:callK A st dst ds k=some r):
 Calls P f vals.toArray w fun e w'=>∃v ρ' st' d,e=.returned v∧Rel w0 F Xc ρ0 ρ' st' a w'∧RdD w' (XB st'.objs ρ' Xc) ρ' d v∧k st' d=some r:=by
 obtain⟨hA,hAi,_⟩:=hA
 unfold callK at hk
 split at hk
 ·rename_i I hI
  exact hAi I hI dst ds vals k hG h hlen hd hk
 unfold callK0 at hk
 split at hk
 ·cases hk
 rename_i ss hss
 have hds:=s1s_ok hss
 split at hk
 ·cases hk
 rename_i bl hbl
 split at hk
 ·cases hk
 rename_i cs rws hhand
 dsimp only at hk
 split at hk
 case isFalse=>cases hk
 rename_i hcond
 simp only[Bool.and_eq_true,decide_eq_true_eq,List.all_eq_true] at hcond
 obtain⟨hrk,hdis⟩:=hcond
 obtain⟨rs,po',hk1,hcon⟩:=hA _ _ _ r hk
 clear hk
 generalize hks:keysX A.deep st.objs ss=ks at *
 generalize htk:treeKeys A.rows (ss.flatMap S1.list++bl.flatten)=tk at *
 have hks_nd:ks.Nodup:=hks▸keysX_nodup _ _ ss
 obtain⟨hbl1,hbl2⟩:=seqO_get hbl
 have hbox:∀(i:Nat) l,bl[i]?=some l→∃kk,ks[i]?=some kk∧st.objs[kk]?=some (.box l):=fun i l hi=>by
  obtain⟨kk,g1,g2⟩:=seqO_get' hbl i l hi
  unfold boxCells at g2
  split at g2
  ·cases g2;exact⟨kk,g1,by assumption⟩
  ·cases g2
 have hf:=h.freeze tk
 have hsl:RdSs w (XB st.objs ρ Xc) ρ ss vals:=⟨by rw[←hlen,hds,List.length_map],fun i s y h1 h2=>hd i (.s s) y (by rw[hds,List.getElem?_map,h1];rfl) h2⟩
 obtain⟨ys1,hy1,hback1⟩:=flatS_ok ss vals hsl
 obtain⟨ys2,hy2,hback2⟩:=flatB_ok (w:=w) (X:=XB st.objs ρ Xc) (ρ:=ρ) (Q:=fun i zs=>∃kk v g ys ty,ks[i]?=some kk∧ρ kk=some v∧v=.pointer (some ⟨g,0,none⟩)∧w.heap[g]?=some (.cells ys ty (0,0))∧HeadOK (bl.getD i []) g ys ty∧ys.toList=zs) bl 0 (fun i l hi=>by
  obtain⟨kk,g1,g2⟩:=hbox i l hi
  obtain⟨v,e1,g,ys,ty,e2,e3,e0,e4⟩:=h.objs kk _ g2
  exact⟨ys.toList,e4,kk,v,g,ys,ty,by rw[Nat.zero_add];exact g1,e1,e2,e3,by rw[Nat.zero_add,List.getD_eq_getElem?_getD,hi];exact e0,rfl⟩)
 have hrows:=handC_rows _ _ _ _ _ hhand
 generalize hpo:regroupB bl (cs.drop (ss.flatMap S1.list).length)++rws.map (·.2)=po at *
 let km0:List (Option Nat):=ks.map some++rws.map (·.1)
 have hkm0:km0=ks.map some++rws.map (·.1):=rfl
 have hρP:∀(i:Nat) m,km0[i]?=some m→rhoP ρ ks rws i=match m with | some k=>ρ k | none=>some (.slice none 0 0):=fun i m hm=>by
  unfold rhoP
  rw[←hkm0,hm]
  cases m <;> rfl
 have hidx:∀k i,idxK ks k=some i→∀v,ρ k=some v→rhoP ρ ks rws i=some v:=fun k i hi v hv=>by
  have h1:=idxK_some hi
  have hil:i<ks.length:=(List.getElem?_eq_some_iff.1 h1).1
  rw[hρP i (some k) (by rw[hkm0,List.getElem?_append_left (by simpa using hil),List.getElem?_map,h1];rfl)]
  exact hv
 have hrwP:∀(q:Nat) p,rws[q]?=some p→rhoP ρ ks rws (ks.length+q)=match p.1 with | some key=>ρ key | none=>some (.slice none 0 0):=fun q p hp=>by
  exact hρP (ks.length+q) p.1 (by rw[hkm0,List.getElem?_append_right (by simp)];simp[hp])
 have hXsub:∀b,XB (freezeL st.objs tk) ρ Xc b→XB st.objs ρ Xc b:=fun b hb=>by
  rcases hb with⟨j,hj⟩ | hb
  ·exact .inl ⟨j,freezeL_has hj⟩
  ·exact .inr hb
 have hnb:bl.length=ks.length:=hbl1
 have hpoB:∀i,i<ks.length→po[i]?=(regroupB bl (cs.drop (ss.flatMap S1.list).length))[i]?:=fun i hi=>by
  rw[←hpo,List.getElem?_append_left (by rw[regroupB_len];omega)]
 have hpoR:∀q,po[ks.length+q]?=(rws[q]?).map (·.2):=fun q=>by
  rw[←hpo,List.getElem?_append_right (by rw[regroupB_len];omega),regroupB_len,hnb,Nat.add_sub_cancel_left,List.getElem?_map]
 have hrowF:∀(q:Nat) p,rws[q]?=some p→∀key,p.1=some key→(freezeL st.objs tk)[key]?=some p.2:=fun q p hp key hk=>by
  obtain⟨e,n,l,h1,h2,_⟩:=hrows p (List.mem_of_getElem? hp)
  rw[freezeL_other tk _ key (fun hm=>?_)]
  ·exact h2 key hk
  ·have:=hdis key (List.mem_filterMap.2 ⟨p,List.mem_of_getElem? hp,hk⟩)
   simp[hm] at this
 have hHpo:∀i b,Has po (rhoP ρ ks rws) i b→∃k,km0[i]?=some (some k)∧Has (freezeL st.objs tk) ρ k b:=fun i b ⟨o,v,h1,h2,h3,h4⟩=>by
  by_cases hi:i<ks.length
  ·have hkk:ks[i]?=some ks[i]:=List.getElem?_eq_getElem hi
   have hkm:km0[i]?=some (some ks[i]):=by rw[hkm0,List.getElem?_append_left (by simpa using hi),List.getElem?_map,hkk];rfl
   have hbi:i<bl.length:=by omega
   obtain⟨kk,g1,g2⟩:=hbox i _ (List.getElem?_eq_getElem hbi)
   rw[hkk] at g1
   cases g1
   rw[hρP i _ hkm] at h3
   exact⟨ks[i],hkm,_,v,freezeL_box _ _ _ _ g2,rfl,h3,h4⟩
  ·obtain⟨q,rfl⟩:∃q,i=ks.length+q:=⟨i-ks.length,by omega⟩
   rw[hpoR q] at h1
   cases hp:rws[q]? with
   | none=>simp[hp] at h1
   | some p=>
    rw[hrwP q p hp] at h3
    simp only[hp,Option.map_some,Option.some.injEq] at h1
    have hkm:km0[ks.length+q]?=some p.1:=by rw[hkm0,List.getElem?_append_right (by simp)];simp[hp]
    cases hp1:p.1 with
    | none=>rw[hp1] at h3;simp only[Option.some.injEq] at h3;subst h3;have h5:=h4.one rfl;simp[blk] at h5
    | some key=>
     rw[hp1] at h3 hkm
     refine⟨key,hkm,p.2,v,hrowF q p hp key hp1,?_,h3,h4⟩
     rw[h1];exact h2
 have hXs:∀b,XB po (rhoP ρ ks rws) (fun b=>XB (freezeL st.objs tk) ρ Xc b∧¬mutB po (rhoP ρ ks rws) b) b→XB (freezeL st.objs tk) ρ Xc b:=fun b hb=>by
  rcases hb with⟨i,hi⟩ | hb
  ·obtain⟨kk,_,hh⟩:=hHpo i b hi
   exact .inl ⟨kk,hh⟩
  ·exact hb.1
 have hcells:RdL w (XB po (rhoP ρ ks rws) (fun b=>XB (freezeL st.objs tk) ρ Xc b∧¬mutB po (rhoP ρ ks rws) b)) (rhoP ρ ks rws) cs (ys1++ys2):=by
  refine handC_ok h (fun b hb=>hXsub b (hXs b hb)) hidx _ _ _ _ _ _ hhand (fun key hkey b v hv hb hx=>?_) (fun q p hp=>hrwP q p hp) (hy1.append hy2)
  obtain⟨o,hob,hro⟩:=handC_tree _ _ _ _ _ hhand key hkey
  obtain⟨o',f1,f2⟩:=freezeL_ro hob hro (htk▸hkey)
  have hk':=hf.objs key _ f1
  cases o' with
  | row fz e n l=>
   obtain⟨v',e1,e2⟩:=hk'
   rw[hv] at e1
   cases e1
   exact e2.frozen f2 b hb (hXs b hx)
  | mp fz e n l=>
   obtain⟨v',e1,e2⟩:=hk'
   rw[hv] at e1
   cases e1
   exact e2.frozen f2 b hb (hXs b hx)
  | box l=>cases f2
  | fbox l=>cases f2
  | rr hole e e2 n l=>cases f2
  | fwd l=>cases f2
  | itr cur e n l=>cases f2
  | dead=>cases f2
  | fresh=>cases f2
 have hlen1:ys1.length=(ss.flatMap S1.list).length:=hy1.1
 have hcs2:=hcells.cut
 obtain⟨hc1,hc2⟩:=hcs2
 rw[hlen1] at hc1 hc2
 obtain⟨hbl3,hboxP⟩:=hback2 _ _ _ hc2
 have hcall:=hcon w (fun b=>XB (freezeL st.objs tk) ρ Xc b∧¬mutB po (rhoP ρ ks rws) b) (rhoP ρ ks rws) vals (fun i o ho=>by
  by_cases hi:i<ks.length
  ·rw[hpoB i hi] at ho
   obtain⟨l',zs,rfl,⟨kk,v,g,ys,ty,e1,e2,e3,e4,e0,e5⟩,e6⟩:=hboxP i o ho
   rw[Nat.zero_add] at e1 e0
   refine⟨v,?_,g,ys,ty,e3,e4,(regroupB_self bl _ (handC_self _ _ _ _ _ hhand).right i l' ho).head e0,by rw[e5];exact e6⟩
   rw[hρP i (some kk) (by rw[hkm0,List.getElem?_append_left (by simpa using hi),List.getElem?_map,e1];rfl)]
   exact e2
  ·obtain⟨q,rfl⟩:∃q,i=ks.length+q:=⟨i-ks.length,by omega⟩
   rw[hpoR q] at ho
   cases hp:rws[q]? with
   | none=>simp[hp] at ho
   | some p=>
    simp only[hp,Option.map_some,Option.some.injEq] at ho
    subst ho
    obtain⟨e,n,l,h1,h2,h3⟩:=hrows p (List.mem_of_getElem? hp)
    have hr:=hrwP q p hp
    cases hp1:p.1 with
    | none=>
     rw[hp1] at hr
     obtain⟨h1,hn⟩:=h3 hp1
     rw[h1]
     exact⟨_,hr,hn,.nil n,⟨[],rowAt.nil w e n,⟨rfl,fun i t y h1 _=>by simp[flat] at h1⟩⟩,fun hc=>by cases hc⟩
    | some key=>
     rw[hp1] at hr
     have hF:=hrowF q p hp key hp1
     rcases h1 with h1 | h1
     ·rw[h1] at hF ⊢
      obtain⟨v,f1,f2⟩:=hf.objs key _ hF
      exact⟨v,hr.trans f1,f2.1,f2.2.1,by
       obtain⟨xs,f3,f4⟩:=f2.2.2.1
       exact⟨xs,f3,f4.step (.refl (fun _=>False) w) (fun _ hb=>False.elim hb) (fun b hb=>.inl (hXs b hb))⟩,fun hc=>by cases hc⟩
     ·rw[h1] at hF ⊢
      obtain⟨v,f1,q1,g,es,clock,q2,q3,q4,q5⟩:=hf.objs key _ hF
      exact⟨v,hr.trans f1,q1,g,es,clock,q2,q3,q4.step (.refl (fun _=>False) w) (fun _ hb=>False.elim hb) (fun b hb=>.inl (hXs b hb)),fun hc=>by cases hc⟩)
  (fun i j b hi hj=>by
   obtain⟨k1,g1,h1⟩:=hHpo i b hi
   obtain⟨k2,g2,h2⟩:=hHpo j b hj
   have:=hf.sep k1 k2 b h1 h2
   subst this
   exact km_inj (km0_nodup hks_nd hrk (fun key hk hk2=>by
    obtain⟨p,hp,hpk⟩:=List.mem_filterMap.1 hk2
    obtain⟨i,hi,hie⟩:=List.getElem_of_mem hk
    have hbi:i<bl.length:=by omega
    obtain⟨kk,g1,g2⟩:=hbox i _ (List.getElem?_eq_getElem hbi)
    rw[List.getElem?_eq_getElem hi,hie] at g1
    cases g1
    obtain⟨e,n,l,q1,q2,_⟩:=hrows p hp
    have:=q2 key hpk
    rcases q1 with q1 | q1 <;> (rw[g2,q1] at this;cases this))) g1 g2)
  (fun b hb=>by
   rcases hb.1 with hm | hx
   ·exact hf.lt hm
   ·exact Nat.lt_of_lt_of_le (hf.xcl b hx) hf.frame.size)
  (fun b hb hx=>hx.2 hb)
  (hG.call h.frame fun b ⟨i,hi⟩=>by
   obtain⟨kk,_,hh⟩:=hHpo i b hi
   exact hf.own b ⟨kk,hh⟩)
  (hback1 _ _ _ _ hcells)
 refine hcall.mono fun e w' ⟨v,ρ',he,hs,hρ',hle,hok,hsep,hnew,hres⟩=>?_
 split at hk1
 ·rename_i hb
  simp only[Bool.and_eq_true,List.isEmpty_iff] at hb
  obtain⟨⟨hb1,hb2⟩,hb3⟩:=hb
  have hno:∀b,¬mutB po (rhoP ρ ks rws) b:=fun b ⟨i,o,_,h1,_⟩=>by rw[hb1] at h1;simp at h1
  exact⟨v,ρ,st,resD rs,he,h.world (hs.mono fun b hb _=>(hno b hb).elim),res_scal hres hb3,hk1⟩
 ·split at hk1
  ·cases hk1
  rename_i nk hnk
  split at hk1
  case isFalse=>cases hk1
  rename_i hcond2
  simp only[Bool.and_eq_true,decide_eq_true_eq] at hcond2
  obtain⟨hnkd,_⟩:=hcond2
  split at hk1
  case h_2=>cases hk1
  rename_i po2 rs' hpo2 hrs'
  obtain⟨hnl,hnf⟩:=freshL_ok hnk
  obtain⟨hp2l,hp2⟩:=seqO_get hpo2
  have hpl:po.length=km0.length:=by
   rw[←hpo,hkm0,List.length_append,regroupB_len,List.length_append,List.length_map,List.length_map,List.length_map,hnb]
  have hkml:(km0++nk.map some).length=po'.length:=by rw[List.length_append,List.length_map,hnl];omega
  let ρ'':Rho:=fun j=>match idxK nk j with | some i=>ρ' (po.length+i) | none=>ρ j
  have hρn:∀(i k:Nat),nk[i]?=some k→ρ'' k=ρ' (po.length+i):=fun i k hi=>by
   cases hq:idxK nk k with
   | none=>exact((List.idxOf?_eq_none_iff.1 hq) (List.mem_of_getElem? hi)).elim
   | some q=>
    have:=nodup_idx hnkd (idxK_some hq) hi
    subst this
    simp only[ρ'',hq]
  have hρo:∀k,k∉nk→ρ'' k=ρ k:=fun k hk=>by
   have:idxK nk k=none:=List.idxOf?_eq_none_iff.2 hk
   simp only[ρ'',this]
  have hkmF:∀(i k:Nat),km0[i]?=some (some k)→∃o,(freezeL st.objs tk)[k]?=some o∧o≠.fresh:=fun i k hi=>by
   rw[hkm0] at hi
   by_cases hik:i<ks.length
   ·rw[List.getElem?_append_left (by simpa using hik),List.getElem?_map] at hi
    have hkk:ks[i]?=some k:=by
     cases hq:ks[i]? with
     | none=>simp[hq] at hi
     | some k'=>simp only[hq,Option.map_some,Option.some.injEq] at hi;rw[hi]
    obtain⟨kk,g1,g2⟩:=hbox i _ (List.getElem?_eq_getElem (show i<bl.length by omega))
    rw[hkk] at g1
    cases g1
    exact⟨_,freezeL_box _ _ _ _ g2,fun e=>by cases e⟩
   ·rw[List.getElem?_append_right (by simpa using Nat.le_of_not_lt hik)] at hi
    simp only[List.length_map,List.getElem?_map] at hi
    cases hp:rws[i-ks.length]? with
    | none=>simp[hp] at hi
    | some p=>
     simp only[hp,Option.map_some,Option.some.injEq] at hi
     obtain⟨e,n,l,q1,_,_⟩:=hrows p (List.mem_of_getElem? hp)
     exact⟨p.2,hrowF _ p hp k hi,fun e=>by rcases q1 with q1 | q1 <;> (rw[q1] at e;cases e)⟩
  have hkmn:∀(i k:Nat),km0[i]?=some (some k)→k∉nk:=fun i k hi hm=>by
   obtain⟨o,h1,h2⟩:=hkmF i k hi
   rw[(hnf k hm).1] at h1
   cases h1
   exact h2 rfl
  have hkmc:∀(i:Nat) m,(km0++nk.map some)[i]?=some m→(i<po.length∧km0[i]?=some m)∨∃q k,i=po.length+q∧nk[q]?=some k∧m=some k:=fun i m hi=>by
   rw[List.getElem?_append] at hi
   split at hi
   ·rename_i hlt;exact .inl ⟨by omega,hi⟩
   ·rename_i hlt
    rw[List.getElem?_map] at hi
    cases hq:nk[i-km0.length]? with
    | none=>simp[hq] at hi
    | some k=>simp only[hq,Option.map_some,Option.some.injEq] at hi;exact .inr ⟨i-km0.length,k,by omega,hq,hi.symm⟩
  have hkmA:∀(i k:Nat),(km0++nk.map some)[i]?=some (some k)→ρ'' k=ρ' i:=fun i k hi=>by
   rcases hkmc i _ hi with⟨h1,h2⟩ | ⟨q,k',h1,h2,h3⟩
   ·rw[hρo k (hkmn i k h2),hρ' i h1,hρP i _ h2]
   ·cases h3;rw[h1];exact hρn q k h2
  have hKm:KmOK (km0++nk.map some) ρ' ρ'':=fun i m hi v hv=>by
   cases m with
   | some k=>exact(hkmA i k hi).trans hv
   | none=>
    rcases hkmc i _ hi with⟨h1,h2⟩ | ⟨q,k',h1,h2,h3⟩
    ·rw[hρ' i h1,hρP i _ h2] at hv
     simp only[Option.some.injEq] at hv
     exact hv.symm
    ·cases h3
  have hkmN:((km0++nk.map some).filterMap id).Nodup:=by
   rw[List.filterMap_append,List.filterMap_map]
   have e1:nk.filterMap (id ∘ some)=nk:=fm_some nk
   rw[e1]
   refine List.nodup_append.2 ⟨km0_nodup hks_nd hrk (fun key hk hk2=>?_),hnkd,fun a ha b hb e=>?_⟩
   ·obtain⟨p,hp,hpk⟩:=List.mem_filterMap.1 hk2
    obtain⟨i,hi,hie⟩:=List.getElem_of_mem hk
    obtain⟨kk,g1,g2⟩:=hbox i _ (List.getElem?_eq_getElem (show i<bl.length by omega))
    rw[List.getElem?_eq_getElem hi,hie] at g1
    cases g1
    obtain⟨e,n,l,q1,q2,_⟩:=hrows p hp
    have:=q2 key hpk
    rcases q1 with q1 | q1 <;> (rw[g2,q1] at this;cases this)
   ·subst e
    obtain⟨m,hm,hme⟩:=List.mem_filterMap.1 ha
    simp only[id_eq] at hme
    subst hme
    obtain⟨i,hi,hie⟩:=List.getElem_of_mem hm
    exact hkmn i a (by rw[List.getElem?_eq_getElem hi,hie]) hb
  have hmem:∀j,some j∈km0++nk.map some→∃i,(km0++nk.map some)[i]?=some (some j):=fun j hj=>by
   obtain⟨i,hi,e⟩:=List.getElem_of_mem hj
   exact⟨i,by rw[List.getElem?_eq_getElem hi,e]⟩
  have hlt:∀(i k:Nat),(km0++nk.map some)[i]?=some (some k)→k<(freezeL st.objs tk).length:=fun i k hi=>by
   rcases hkmc i _ hi with⟨_,h2⟩ | ⟨q,k',_,h2,h3⟩
   ·obtain⟨o,h4,_⟩:=hkmF i k h2
    exact(List.getElem?_eq_some_iff.1 h4).1
   ·cases h3
    exact(List.getElem?_eq_some_iff.1 (hnf k (List.mem_of_getElem? h2)).1).1
  have hXF:∀b,mutB po (rhoP ρ ks rws) b→∃k,some k∈km0++nk.map some∧Has (freezeL st.objs tk) ρ k b:=fun b ⟨i,hi⟩=>by
   obtain⟨k,h1,h2⟩:=hHpo i b hi
   exact⟨k,List.mem_append.2 (.inl (List.mem_of_getElem? h1)),h2⟩
  have hobj:∀(i k:Nat) o,(km0++nk.map some)[i]?=some (some k)→po2[i]?=some o→(setK (freezeL st.objs tk) (km0++nk.map some) po2)[k]?=some o:=fun i k o h1 h2=>
   setK_at _ _ _ i k o hkmN h1 h2 (hlt i k h1)
  have hobj':∀(i k:Nat),(km0++nk.map some)[i]?=some (some k)→∃o o2,po'[i]?=some o∧backO (km0++nk.map some) o=some o2∧(setK (freezeL st.objs tk) (km0++nk.map some) po2)[k]?=some o2:=fun i k hi=>by
   have hil:i<po'.length:=by rw[←hkml];exact(List.getElem?_eq_some_iff.1 hi).1
   obtain⟨o2,g1,g2⟩:=hp2 i _ (List.getElem?_eq_getElem hil)
   exact⟨_,o2,List.getElem?_eq_getElem hil,g2,hobj i k o2 hi g1⟩
  have hlive:∀o o2,backO (km0++nk.map some) o=some o2→o2.live=o.live:=fun o o2 ho=>by
   cases o with
   | box l=>
    simp only[backO] at ho
    cases hq:seqO (l.map (backC (km0++nk.map some))) with
    | none=>simp[hq] at ho
    | some l'=>simp only[hq,Option.map_some,Option.some.injEq] at ho;subst ho;rfl
   | row fz e n l=>simp only[backO,Option.some.injEq] at ho;subst ho;rfl
   | mp fz e n l=>simp only[backO,Option.some.injEq] at ho;subst ho;rfl
   | fbox l=>cases ho
   | rr hole e e2 n l=>cases ho
   | fwd l=>cases ho
   | itr cur e n l=>cases ho
   | dead=>simp only[backO,Option.some.injEq] at ho;subst ho;rfl
   | fresh=>cases ho
  have hH2:∀(i k b:Nat),(km0++nk.map some)[i]?=some (some k)→Has (setK (freezeL st.objs tk) (km0++nk.map some) po2) ρ'' k b→Has po' ρ' i b:=fun i k b hi ⟨o,v,h1,h2,h3,h4⟩=>by
   obtain⟨o0,o2,g1,g2,g3⟩:=hobj' i k hi
   rw[g3] at h1
   cases h1
   exact⟨o0,v,g1,by rw[←hlive _ _ g2];exact h2,by rw[←hkmA i k hi];exact h3,h4⟩
  have hXX:∀b,XB (setK (freezeL st.objs tk) (km0++nk.map some) po2) ρ'' Xc b→XB po' ρ' (fun b=>XB (freezeL st.objs tk) ρ Xc b∧¬mutB po (rhoP ρ ks rws) b) b:=fun b hb=>by
   rcases hb with⟨j,hj⟩ | hb
   ·by_cases hK:some j∈km0++nk.map some
    ·obtain⟨i,hi⟩:=hmem j hK
     exact .inl ⟨i,hH2 i j b hi hj⟩
    ·have hj':Has (freezeL st.objs tk) ρ j b:=by
      obtain⟨o,v,h1,h2,h3,h4⟩:=hj
      rw[setK_other _ _ _ j hK] at h1
      rw[hρo j (fun hm=>hK (List.mem_append.2 (.inr (List.mem_map.2 ⟨j,hm,rfl⟩))))] at h3
      exact⟨o,v,h1,h2,h3,h4⟩
     refine .inr ⟨.inl ⟨j,hj'⟩,fun hm=>?_⟩
     obtain⟨k,hk,hh⟩:=hXF b hm
     have:=hf.sep j k b hj' hh
     exact hK (this▸hk)
   ·refine .inr ⟨.inr hb,fun hm=>?_⟩
    obtain⟨k,_,hh⟩:=hXF b hm
    exact hf.xc b ⟨k,hh⟩ hb
  have hsame:Stp (fun _=>False) w' w':=.refl _ w'
  refine⟨v,ρ'',_,resD rs',he,hf.change (setK (freezeL st.objs tk) (km0++nk.map some) po2) ρ'' (fun j=>some j∈km0++nk.map some) hs (fun j hj=>?_) (fun j v hv=>?_) hXF (fun j b hj hb=>?_) (fun j j' b hj hj' hb hb'=>?_) (fun hX j o hj ho=>?_) (fun j hj=>?_),res_ok hXX hKm hres hrs',hk1⟩
  ·exact⟨setK_other _ _ _ j hj,hρo j (fun hm=>hj (List.mem_append.2 (.inr (List.mem_map.2 ⟨j,hm,rfl⟩))))⟩
  ·by_cases hm:j∈nk
   ·have:ρ j=none:=hf.objs j _ (hnf j hm).1
    rw[this] at hv;cases hv
   ·rw[hρo j hm];exact hv
  ·obtain⟨i,hi⟩:=hmem j hj
   rcases hnew i b (hH2 i j b hi hb) with⟨k',hk'⟩ | hge
   ·exact .inl (hXF b ⟨k',hk'⟩)
   ·exact .inr hge
  ·obtain⟨i,hi⟩:=hmem j hj
   obtain⟨i',hi'⟩:=hmem j' hj'
   have:=hsep i i' b (hH2 i j b hi hb) (hH2 i' j' b hi' hb')
   subst this
   rw[hi] at hi'
   cases hi'
   rfl
  ·obtain⟨i,hi⟩:=hmem j hj
   obtain⟨o0,o2,g1,g2,g3⟩:=hobj' i j hi
   have ho':(setK (freezeL st.objs tk) (km0++nk.map some) po2)[j]?=some o:=ho
   rw[g3] at ho'
   cases ho'
   have hk0:=hok i o0 g1
   cases o0 with
   | dead=>simp only[backO,Option.some.injEq] at g2;subst g2;trivial
   | fresh=>cases g2
   | rr hole e e2 n l=>cases g2
   | fwd l=>cases g2
   | itr cur e n l=>cases g2
   | fbox l=>cases g2
   | row fz e n l=>
    simp only[backO,Option.some.injEq] at g2
    subst g2
    obtain⟨v,f1,f2⟩:=hk0
    exact⟨v,(hkmA i j hi).trans f1,f2.1,f2.2.1,(by
     obtain⟨xs,f3,f4⟩:=f2.2.2.1
     exact⟨xs,f3,f4.step hsame (fun _ hb=>False.elim hb) (fun b hb=>.inl (hXX b hb))⟩),fun hz b hb hx=>f2.2.2.2 hz b hb (hXX b hx)⟩
   | mp fz e n l=>
    simp only[backO,Option.some.injEq] at g2
    subst g2
    obtain⟨v,f1,q1,g,es,clock,q2,q3,q4,q5⟩:=hk0
    exact⟨v,(hkmA i j hi).trans f1,q1,g,es,clock,q2,q3,q4.step hsame (fun _ hb=>False.elim hb) (fun b hb=>.inl (hXX b hb)),fun hz hx=>q5 hz (hXX g hx)⟩
   | box l=>
    simp only[backO] at g2
    cases hq:seqO (l.map (backC (km0++nk.map some))) with
    | none=>simp[hq] at g2
    | some l'=>
     simp only[hq,Option.map_some,Option.some.injEq] at g2
     subst g2
     obtain⟨v,f1,g,ys,ty,f2,f3,f0,f4⟩:=hk0
     exact⟨v,(hkmA i j hi).trans f1,g,ys,ty,f2,f3,(backL_self hq).head f0,backL_ok hXX hKm f4 hq⟩
  ·exact hρo j (fun hm=>by have h7:st.np≤j:=(hnf j hm).2;have h8:j<st.np:=hj;omega)
end
@[irreducible] def andB(a b:Bool):Bool:=a&&b
section
variable {R:Type} (P:Program)
def eqFs(rc:TypeId→S1→S1→(Bool→Option R)→Option R)(cs ds:List C):List Field→(Bool→Option R)→Option R
 | [],k=>k true
 | f::fs,k=>if f.name = "_" then none else match aggO P f.type,szO P f.type with
  | some ag,some n=>match subC cs f.offset n ag,subC ds f.offset n ag with
   | some s,some s'=>rc f.type s s' fun b=>eqFs rc cs ds fs fun r=>k (andB b r)
   | _,_=>none
  | _,_=>none
def eqIs(rc:TypeId→S1→S1→(Bool→Option R)→Option R)(e:TypeId)(n:Nat)(ag:Bool)(cs ds:List C):List Nat→(Bool→Option R)→Option R
 | [],k=>k true
 | i::is,k=>match subC cs (i*n) n ag,subC ds (i*n) n ag with
  | some s,some s'=>rc e s s' fun b=>eqIs rc e n ag cs ds is fun r=>k (andB b r)
  | _,_=>none
def S1.aggs:S1→Option (List C)
 | .agg l=>some l
 | _=>none
def eqS1:Nat→TypeId→S1→S1→(Bool→Option R)→Option R
 | 0,_,_,_,_=>none
 | d+1,t,x,y,k=>match P.underlying t with
  | some (.int kd)=>asI kd (.s x) fun a=>asI kd (.s y) fun b=>k (eqI a b)
  | some .bool=>asB (.s x) fun a=>asB (.s y) fun b=>k (eqB a b)
  | some .string=>asS (.s x) fun a=>asS (.s y) fun b=>k (eqS a b)
  | some (.struct fs)=>if P.stoodInHeld t=true then none else match x.aggs,y.aggs with
   | some cs,some ds=>eqFs P (eqS1 d) cs ds fs.toList k
   | _,_=>none
  | some (.array n e)=>match aggO P e,szO P e,x.aggs,y.aggs with
   | some ag,some sz,some cs,some ds=>eqIs (eqS1 d) e sz ag cs ds (List.range n) k
   | _,_,_,_=>none
  | _=>none
def isAggT(P:Program)(ty:TypeId):Bool:=match P.underlying ty with
 | some (.struct _)=>true
 | some (.array _ _)=>true
 | _=>false
def asS1(d:D)(k:S1→Option R):Option R:=match d with
 | .s x=>k x
 | _=>none
def binQ(op:BinOp)(ty yty:TypeId)(x y:D)(f:D→Option R):Option R:=
 if isAggT P ty=true then (if P.eqGuardType P.depth ty=true then none else
  asS1 x fun a=>asS1 y fun b=>if op=.eql then eqS1 P 8 ty a b fun b=>f (dB b) else if op=.neq then eqS1 P 8 ty a b fun b=>f (dB (!b)) else none)
 else binK P op ty yty x y f
variable {P} {w:World} {X:Nat→Prop} {ρ:Rho}
def EqOK(P:Program)(w:World)(X:Nat→Prop)(ρ:Rho)(d:Nat)(rc:∀{R:Type},TypeId→S1→S1→(Bool→Option R)→Option R):Prop:=
 ∀{R:Type} (r:R) (t:TypeId) (x y:S1) (vx vy:Value) (k:Bool→Option R),RdS w X ρ x vx→RdS w X ρ y vy→rc t x y k=some r→∃b,(Op.equalIn d t vx vy).run P w=.ok b w∧k b=some r
theorem eqFs_ok{d:Nat}{rc:∀{R:Type},TypeId→S1→S1→(Bool→Option R)→Option R}(hrc:EqOK P w X ρ d rc){xs ys:Array Value}{cs ds:List C}(hx:RdL w X ρ cs xs.toList)(hy:RdL w X ρ ds ys.toList):
 ∀(fs:List Field) {R:Type} (r:R) (k:Bool→Option R),eqFs P rc cs ds fs k=some r→∃b,(Op.eqFields d xs ys fs).run P w=.ok b w∧k b=some r
 | [],R,r,k,h=>⟨true,by simp[Op.eqFields],h⟩
 | f::fs,R,r,k,h=>by
  simp only[eqFs] at h
  split at h
  ·cases h
  ·rename_i hn
   split at h
   case h_2=>cases h
   rename_i ag n hag hsz
   split at h
   case h_2=>cases h
   rename_i s s' hs hs'
   obtain⟨va,e1,r1⟩:=subC_ok hx hsz hag hs
   obtain⟨vb,e2,r2⟩:=subC_ok hy hsz hag hs'
   obtain⟨b,e3,h3⟩:=hrc r f.type s s' va vb _ r1 r2 h
   obtain⟨b',e4,h4⟩:=eqFs_ok hrc hx hy fs r _ h3
   simp only[Op.eqFields,hn,ne_eq,not_false_eq_true,if_true,Sem.run_bind,e1,e2,e3,Result.andThen_ok]
   cases b with
   | false=>exact⟨false,by simp,by unfold andB at h4;simpa using h4⟩
   | true=>exact⟨b',by simpa using e4,by unfold andB at h4;simpa using h4⟩
theorem eqIs_ok{d:Nat}{rc:∀{R:Type},TypeId→S1→S1→(Bool→Option R)→Option R}(hrc:EqOK P w X ρ d rc){e:TypeId}{n:Nat}{ag:Bool}(hsz:szO P e=some n)(hag:aggO P e=some ag){xs ys:Array Value}{cs ds:List C}(hx:RdL w X ρ cs xs.toList)(hy:RdL w X ρ ds ys.toList):
 ∀(is:List Nat) {R:Type} (r:R) (k:Bool→Option R),eqIs rc e n ag cs ds is k=some r→∃b,(Op.eqItems d e n xs ys is).run P w=.ok b w∧k b=some r
 | [],R,r,k,h=>⟨true,by simp[Op.eqItems],h⟩
 | i::is,R,r,k,h=>by
  simp only[eqIs] at h
  split at h
  case h_2=>cases h
  rename_i s s' hs hs'
  obtain⟨va,e1,r1⟩:=subC_ok hx hsz hag hs
  obtain⟨vb,e2,r2⟩:=subC_ok hy hsz hag hs'
  obtain⟨b,e3,h3⟩:=hrc r e s s' va vb _ r1 r2 h
  obtain⟨b',e4,h4⟩:=eqIs_ok hrc hsz hag hx hy is r _ h3
  simp only[Op.eqItems,Sem.run_bind,e1,e2,e3,Result.andThen_ok]
  cases b with
  | false=>exact⟨false,by simp,by unfold andB at h4;simpa using h4⟩
  | true=>exact⟨b',by simpa using e4,by unfold andB at h4;simpa using h4⟩
theorem aggs_ok{s:S1}{l:List C}{v:Value}(h:RdS w X ρ s v)(hs:s.aggs=some l):∃xs:Array Value,v=.agg xs∧RdL w X ρ l xs.toList:=by
 cases s with
 | c c=>cases hs
 | agg l'=>cases hs;exact h
theorem eqS1_ok:∀(d D:Nat),d≤D→EqOK P w X ρ D (fun {R}=>eqS1 (R:=R) P d)
 | 0,D,_,R,r,t,x,y,vx,vy,k,hx,hy,h=>by cases h
 | d+1,0,hD,R,r,t,x,y,vx,vy,k,hx,hy,h=>by omega
 | d+1,D+1,hD,R,r,t,x,y,vx,vy,k,hx,hy,h0=>by
  have h:eqS1 P (d+1) t x y k=some r:=h0
  clear h0
  have ih:EqOK P w X ρ D (fun {R}=>eqS1 (R:=R) P d):=@fun R=>@eqS1_ok d D (by omega) R
  have hx':RdD w X ρ (.s x) vx:=hx
  have hy':RdD w X ρ (.s y) vy:=hy
  simp only[eqS1] at h
  split at h
  ·rename_i kd hu
   obtain⟨a,rfl,h⟩:=asI_ok hx' h
   obtain⟨b,rfl,h⟩:=asI_ok hy' h
   exact⟨a==b,run_equalIn_int w D t kd kd a b hu,by unfold eqI at h;exact h⟩
  ·rename_i hu
   obtain⟨a,rfl,h⟩:=asB_ok hx' h
   obtain⟨b,rfl,h⟩:=asB_ok hy' h
   exact⟨a==b,run_equalIn_bool w D t a b hu,by unfold eqB at h;exact h⟩
  ·rename_i hu
   obtain⟨a,rfl,h⟩:=asS_ok hx' h
   obtain⟨b,rfl,h⟩:=asS_ok hy' h
   exact⟨a.toList==b.toList,run_equalIn_string w D t a b hu,by unfold eqS at h;exact h⟩
  ·rename_i fs hu
   split at h
   ·cases h
   rename_i hst
   split at h
   case h_2=>cases h
   rename_i cs ds hcs hds
   obtain⟨xs,rfl,hxs⟩:=aggs_ok hx hcs
   obtain⟨ys,rfl,hys⟩:=aggs_ok hy hds
   obtain⟨b,e,hk⟩:=eqFs_ok ih hxs hys fs.toList r k h
   have hf:P.fieldsOf t=fs:=by simp[Program.fieldsOf,hu]
   refine⟨b,?_,hk⟩
   rw[run_equalIn_struct w D t xs ys (by rw[hf];exact hu) (by simpa using hst),hf]
   exact e
  ·rename_i n e hu
   split at h
   case h_2=>cases h
   rename_i ag sz cs ds hag hsz hcs hds
   obtain⟨xs,rfl,hxs⟩:=aggs_ok hx hcs
   obtain⟨ys,rfl,hys⟩:=aggs_ok hy hds
   obtain⟨b,e',hk⟩:=eqIs_ok ih hsz hag hxs hys (List.range n) r k h
   refine⟨b,?_,hk⟩
   obtain⟨i,hi,hsi⟩:∃i,P.info? e=some i∧i.size=sz:=by
    unfold szO at hsz
    cases hi:P.info? e with
    | none=>simp[hi] at hsz
    | some i=>exact⟨i,rfl,by simpa[hi] using hsz⟩
   have hc:P.cellsOf e=sz:=by simp[Program.cellsOf,hi,hsi]
   rw[run_equalIn_array w D xs ys hu hi,hc]
   exact e'
  ·cases h
theorem asS1_ok{d:D}{v:Value}{r:R}{k:S1→Option R}(h:RdD w X ρ d v)(hk:asS1 d k=some r):∃s,RdS w X ρ s v∧k s=some r:=by
 cases d with
 | s x=>exact⟨x,h,hk⟩
 | tup l=>cases hk
theorem binQ_ok{r:R}{op:BinOp}{ty yty:TypeId}{x y:D}{xo yo:Operand}{vx vy:Value}{f:D→Option R}(hx:RdD w X ρ x vx)(hy:RdD w X ρ y vy)(h:binQ P op ty yty x y f=some r):
 ∃d v,(do eqGuard op ty xo yo vx vy;binOp op ty vx vy:Sem Value).run P w=.ok v w∧RdD w X ρ d v∧f d=some r:=by
 unfold binQ at h
 split at h
 case isFalse=>exact binK_ok hx hy h
 rename_i hagg
 split at h
 ·cases h
 rename_i hg
 obtain⟨a,ha,h1⟩:=asS1_ok hx h
 obtain⟨b,hb,h2⟩:=asS1_ok hy h1
 clear h h1
 have aggv:∀{R:Type} {r:R} {k:Bool→Option R},eqS1 P 8 ty a b k=some r→(∃xs,vx=.agg xs)∧∃ys,vy=.agg ys:=by
  intro R r k h
  have h8:eqS1 P 8 ty a b k=match P.underlying ty with
   | some (.int kd)=>asI kd (.s a) fun a=>asI kd (.s b) fun b=>k (eqI a b)
   | some .bool=>asB (.s a) fun a=>asB (.s b) fun b=>k (eqB a b)
   | some .string=>asS (.s a) fun a=>asS (.s b) fun b=>k (eqS a b)
   | some (.struct fs)=>if P.stoodInHeld ty=true then none else match a.aggs,b.aggs with
    | some cs,some ds=>eqFs P (eqS1 P 7) cs ds fs.toList k
    | _,_=>none
   | some (.array n e)=>match aggO P e,szO P e,a.aggs,b.aggs with
    | some ag,some sz,some cs,some ds=>eqIs (eqS1 P 7) e sz ag cs ds (List.range n) k
    | _,_,_,_=>none
   | _=>none:=rfl
  rw[h8] at h
  unfold isAggT at hagg
  split at hagg
  ·rename_i fs hu
   simp only[hu] at h
   split at h
   ·cases h
   split at h
   case h_2=>cases h
   rename_i h1 h2
   obtain⟨xs,e1,_⟩:=aggs_ok ha h1
   obtain⟨ys,e2,_⟩:=aggs_ok hb h2
   exact⟨⟨xs,e1⟩,ys,e2⟩
  ·rename_i n e hu
   simp only[hu] at h
   split at h
   case h_2=>cases h
   rename_i h1 h2
   obtain⟨xs,e1,_⟩:=aggs_ok ha h1
   obtain⟨ys,e2,_⟩:=aggs_ok hb h2
   exact⟨⟨xs,e1⟩,ys,e2⟩
  ·cases hagg
 have hguard:∀xs ys,(eqGuard op ty xo yo (.agg xs) (.agg ys)).run P w=.ok () w:=fun xs ys=>by
  unfold eqGuard
  have hg':P.eqGuardType P.depth ty=false:=by simpa using hg
  cases op <;> first
   | rfl
   | (simp only[Bool.not_true,Bool.false_eq_true,if_false,Sem.run_bind,run_program,Result.andThen_ok,hg',Bool.not_false,if_true,Sem.run_pure])
 have hm:∀vx vy,(Op.equal ty vx vy).run P w=(Op.equalIn 10000 ty vx vy).run P w:=fun _ _=>rfl
 split at h2
 ·rename_i ho
  subst ho
  obtain⟨⟨xs,rfl⟩,ys,rfl⟩:=aggv h2
  obtain⟨q,e,hk⟩:=eqS1_ok (P:=P) 8 10000 (by omega) r ty a b _ _ _ ha hb h2
  refine⟨_,.bool q,?_,.bool q,hk⟩
  simp only[Sem.run_bind,hguard,Result.andThen_ok]
  show (do pure (.bool (←Op.equal ty (.agg xs) (.agg ys))):Sem Value).run P w=_
  simp only[Sem.run_bind,hm,e,Result.andThen_ok,Sem.run_pure]
 ·split at h2
  ·rename_i ho
   subst ho
   obtain⟨⟨xs,rfl⟩,ys,rfl⟩:=aggv h2
   obtain⟨q,e,hk⟩:=eqS1_ok (P:=P) 8 10000 (by omega) r ty a b _ _ _ ha hb h2
   refine⟨_,.bool (!q),?_,.bool (!q),hk⟩
   simp only[Sem.run_bind,hguard,Result.andThen_ok]
   show (do pure (.bool (!(←Op.equal ty (.agg xs) (.agg ys)))):Sem Value).run P w=_
   simp only[Sem.run_bind,hm,e,Result.andThen_ok,Sem.run_pure]
  ·cases h2
end
@[irreducible] def bytesO(s:ByteArray):Option (List T):=if s.size≤140737488355328 then some (bytesL s) else none
section
variable {R:Type} (P:Program)
def convQ(st:St)(src dst:TypeId)(x:D)(k:D→Option R):Option R:=
 match P.underlying src,P.underlying dst with
 | some .string,some (.slice e)=>match P.underlying e with
  | some (.int .u8)=>asS x fun s=>ob (bytesO s) fun l=>k (.s (.c (.t (.sl 1 l))))
  | _=>none
 | _,_=>convertK P st src dst x k
end
section
variable {R:Type} {P:Program} {w0 w:World} {F Xc:Nat→Prop} {ρ0:Base} {ρ:Rho} {st:St} {a:Act} {r:R}
theorem bytes_flat(s:ByteArray):flat (bytesL s)=bytesL s:=by
 unfold bytesL
 induction s.data.toList with
 | nil=>rfl
 | cons b l ih=>rw[List.map_cons,flat_cons,ih];rfl
theorem convQ_ok{src dst:TypeId}{x:D}{v:Value}{k:D→Option R}(hR:Rel w0 F Xc ρ0 ρ st a w)(h:RdD w (XB st.objs ρ Xc) ρ x v)(hk:convQ P st src dst x k=some r):
 ∃y w' d,(convert src dst v).run P w=.ok y w'∧Stp (fun _=>False) w w'∧RdD w' (XB st.objs ρ Xc) ρ d y∧k d=some r:=by
 unfold convQ at hk
 split at hk
 ·rename_i e hs hd
  split at hk
  case h_2=>cases hk
  rename_i he
  obtain⟨s,rfl,hk1⟩:=asS_ok h hk
  obtain⟨l,hl,hk2⟩:=ob_some hk1
  unfold bytesO at hl
  split at hl
  case isFalse=>cases hl
  rename_i hsz
  cases hl
  have hrun:=Lib.run_convert_string_bytes (P:=P) w src dst e s hs hd he
  refine⟨_,_,_,hrun,⟨rfl,rfl,rfl,?_,fun b hb _=>Lib.bytesWorld_at_old w e s b hb⟩,RdD.one (c:=.t (.sl 1 (bytesL s))) ?_ rfl,hk2⟩
  ·have:=Lib.bytesWorld_size w e s;omega
  ·have hbl:bytesL s=s.data.toList.map fun b=>.v (.int .u8 b.toNat):=by unfold bytesL;rfl
   have hln:(bytesL s).length=s.size:=by rw[hbl];simp
   have key:=Rd.sl (w:=Lib.bytesWorld w e s) (X:=XB st.objs ρ Xc) 1 (bytesL s) ⟨w.heap.size,0,none⟩ (grownCap w s.size 0 e) (s.data.toList.map fun b=>.int .u8 b.toNat)
    (by decide) (by rw[hln];exact grownCap_ge w s.size 0 e) (grownCap_le_maxLen w s.size 0 e (by unfold maxLen;omega))
    (fun t ht=>by rw[hbl] at ht;obtain⟨b,_,rfl⟩:=List.mem_map.1 ht;rfl) (by rw[bytes_flat,hln];simp)
    (fun i y hi=>by
     rw[List.getElem?_map] at hi
     obtain⟨b,hb,rfl⟩:=Option.map_eq_some_iff.1 hi
     have hlt:i<s.size:=by have:=(List.getElem?_eq_some_iff.1 hb).1;simpa using this
     refine⟨?_,fun hx=>?_,rfl⟩
     ·have hc:=Lib.bytesWorld_cell w e s i hlt
      have ha:(Addr.mk w.heap.size 0 none).add i=⟨w.heap.size,i,none⟩:=by unfold Addr.add;split <;> simp_all
      rw[ha,hc,List.getD_eq_getElem?_getD,hb];rfl
     ·rcases hx with hx | hx
      ·have:=hR.lt hx
       exact Nat.lt_irrefl _ this
      ·have h1:=hR.xcl _ hx
       have h2:=hR.frame.size
       have:w.heap.size<w0.heap.size:=h1
       omega)
    (fun i t y h1 h2=>by
     rw[bytes_flat,hbl,List.getElem?_map] at h1
     rw[List.getElem?_map] at h2
     obtain⟨b,hb,rfl⟩:=Option.map_eq_some_iff.1 h1
     obtain⟨b',hb',rfl⟩:=Option.map_eq_some_iff.1 h2
     rw[hb] at hb';cases hb'
     exact .v _)
   rw[hln] at key
   exact key
 ·obtain⟨y,d,h1,h2,h3⟩:=convertK_ok hR h hk
  exact⟨y,w,d,h1,.refl _ _,h2,h3⟩
end
@[irreducible] def minI(a b:Nat):Int:=(min a b:Nat)
@[irreducible] def lenN{α:Type}(l:List α):Nat:=l.length
@[irreducible] def cpN{α:Type}(es:List α)(lo len:Nat)(src:List α):List α:=es.take lo++src.take (min src.length len)++es.drop (lo+min src.length len)
section
variable {R:Type} (P:Program)
def copyK(st:St)(t:TypeId)(s x:D)(k:St→D→Option R):Option R:=
 match P.underlying t with
 | some (.slice e)=>match szO P e with
  | some n=>asC s fun cs=>asC x fun cx=>elemsK st n cx fun src=>match cs with
   | .row key=>match st.objs[key]? with
    | some (.row false e' n' es)=>if n'=n then k { st with objs:=st.objs.set key (.row false e' n (cpN es 0 (lenN es) src)) } (dI .i64 (minI (lenN src) (lenN es))) else none
    | _=>none
   | .cut key m lo len _=>match st.objs[key]? with
    | some (.row false e' n' es)=>if n'=n∧m=n then k { st with objs:=st.objs.set key (.row false e' n (cpN es lo len src)) } (dI .i64 (minI (lenN src) len)) else none
    | _=>none
   | _=>none
  | none=>none
 | _=>none
end
section
variable {R:Type} {P:Program} {w0 w w':World} {F Xc:Nat→Prop} {ρ0:Base} {ρ:Rho} {st:St} {a:Act} {r:R}
theorem Rel.splice(h:Rel w0 F Xc ρ0 ρ st a w){key:Nat}{e:TypeId}{n:Nat}{es es':List T}{hv:Value}{g off cap p:Nat}{cur:Array Value}{ts:List T}{vs:List Value}
 (hob:st.objs[key]?=some (.row false e n es)) (e1:ρ key=some hv) (z1:hv=.slice (some ⟨g,off,none⟩) es.length cap) (z2:0<cap) (z3:w.heap[g]?=some (.cells cur e (0,0))) (z4:es.length≤cap) (z5:cap≤maxLen) (z6:off+cap*n≤cur.size)
 (hl:es'.length=es.length) (u1:Uni n es') (u2:flat es'=(flat es).take p++ts++(flat es).drop (p+ts.length)) (ht:RdT w (XB st.objs ρ Xc) ts vs) (hp:p+ts.length≤es.length*n):
 Rel w0 F Xc ρ0 ρ { st with objs:=st.objs.set key (.row false e n es') } a (w.setRow g (cur.toList.take (off+p)++vs++cur.toList.drop (off+p+vs.length)).toArray):=by
 obtain⟨hv',f1,f2⟩:=h.objs key _ hob
 rw[e1] at f1
 cases f1
 obtain⟨h0,hu,⟨xs,hown,hr⟩,hf⟩:=f2
 have hcapm:es.length*n≤cap*n:=Nat.mul_le_mul_right _ z4
 have hflt:(flat es).length=es.length*n:=hu.length
 have hcl:off+cap*n≤cur.toList.length:=by rw[Array.length_toList];exact z6
 have hdl:(cur.toList.drop off).length=cur.toList.length-off:=List.length_drop
 have hxl:xs.length=es.length*n:=hown.1
 have hvl:vs.length=ts.length:=ht.1
 have z7:(cur.toList.drop off).take (es.length*n)=xs:=by
  rcases hown.2 with⟨hn | ⟨a,hn⟩,hz⟩ | ⟨g',off',cap',cur',q1,q2,q3,q4,q5,q6,q7⟩
  ·rw[z1] at hn;cases hn
  ·rw[hz,Nat.zero_mul] at hxl
   rw[hz,Nat.zero_mul,List.take_zero,List.eq_nil_of_length_eq_zero hxl]
  ·rw[z1] at q1
   cases q1
   rw[z3] at q3
   cases q3
   exact q7
 have hlt:key<st.objs.length:=(List.getElem?_eq_some_iff.1 hob).1
 have hblk:blk hv=some g:=by rw[z1];simp[blk];omega
 have hHas:Has st.objs ρ key g:=⟨_,hv,hob,rfl,e1,.inl hblk⟩
 refine h.change _ ρ (·=key) (setRow_stp w g _) (fun jj hj=>⟨by rw[List.getElem?_set_ne (fun e=>hj e.symm)],rfl⟩) (.refl _) (fun b hb=>⟨key,rfl,hb▸hHas⟩)
  (fun jj b hj hb=>?_) (fun jj j' b hj hj' _ _=>hj.trans hj'.symm) (fun hX jj o' hj ho'=>?_) (fun _ _=>rfl)
 ·subst hj
  obtain⟨o',v,_,_,q3,q4⟩:=hb
  rw[e1] at q3
  cases q3
  have q5:=q4.one (by rw[z1];rfl)
  rw[hblk] at q5
  cases q5
  exact .inl ⟨_,rfl,hHas⟩
 ·subst hj
  rw[List.getElem?_set_self hlt] at ho'
  cases ho'
  refine⟨hv,e1,h0,u1,⟨xs.take p++vs++xs.drop (p+vs.length),⟨?_,.inr ⟨g,off,cap,_,by rw[hl];exact z1,z2,setRow_heap w g cur _ e (0,0) z3,by rw[hl];exact z4,z5,?_,?_⟩⟩,?_⟩,fun hc=>by cases hc⟩
  ·rw[list_setRange _ _ _ _ (by omega) rfl,hl];exact hown.1
  ·rw[List.size_toArray,list_setRange _ _ _ _ (by omega) rfl,Array.length_toList];exact z6
  ·have:=take_splice (cur.toList.drop off) vs p (es.length*n) (by omega) (by omega)
   rw[hl,drop_splice _ _ _ _ _ (by omega),this,z7]
  ·rw[u2]
   have hr':=hr.step (X':=XB (st.objs.set jj (O.row false e n es')) ρ Xc) (setRow_stp w g (cur.toList.take (off+p)++vs++cur.toList.drop (off+p+vs.length)).toArray) (fun b hb=>.inl ⟨_,hb▸hHas⟩) hX
   have ht':=ht.step (X':=XB (st.objs.set jj (O.row false e n es')) ρ Xc) (setRow_stp w g (cur.toList.take (off+p)++vs++cur.toList.drop (off+p+vs.length)).toArray) (fun b hb=>.inl ⟨_,hb▸hHas⟩) hX
   rw[hvl] at hr' ht' ⊢
   exact hr'.splice ht' (p:=p) (by omega)
theorem CutOf.whole{h:Value}{fz:Bool}{e:TypeId}{n:Nat}{es:List T}{X:Nat→Prop}(ho:okO w X ρ h (.row fz e n es)):CutOf h n 0 es.length false h:=by
 rcases row_slice ho with⟨rfl,rfl⟩ | ⟨a,cap,rfl,h1,_⟩
 ·exact⟨none,0,0,0,none,rfl,rfl,Nat.le_refl _,Nat.le_refl _,Nat.le_refl _,fun h=>by omega,fun h=>by cases h⟩
 ·exact⟨some a,_,cap,cap,some a,rfl,rfl,by omega,h1,by omega,fun _=>by simp[Addr.add],fun h=>by cases h⟩
theorem copy_core{t u ty e0:TypeId}{n key lo len:Nat}{tg:Bool}{e:TypeId}{es src:List T}{hv y vx:Value}{ys:List Value}(h:Rel w0 F Xc ρ0 ρ st a w)(ht:P.underlying t=some (.slice e0))(hn:szO P e0=some n)
 (hob:st.objs[key]?=some (.row false e n es)) (e1:ρ key=some hv) (hc:CutOf hv n lo len tg y) (hus:Uni n src) (hys:RdT w (XB st.objs ρ Xc) (flat src) ys)
 (hy:(∃q,vx=.slice none 0 q∧src=[])∨∃ad q,vx=.slice (some ad) src.length q∧src.length≤q∧∀(j:Nat) u,ys[j]?=some u→w.cell? (ad.add j)=some u):
 ∃w',(Builtin.copy_ #[t,u] ty #[y,vx]).run P w=.ok (.int .i64 (minI src.length len)) w'∧Rel w0 F Xc ρ0 ρ { st with objs:=st.objs.set key (.row false e n (cpN es lo len src)) } a w':=by
 obtain⟨hv',f1,f2⟩:=h.objs key _ hob
 rw[e1] at f1
 cases f1
 have f2':=f2
 obtain⟨hpos,hu,⟨xs,hown,hr⟩,hf⟩:=f2
 have hklt:key<st.objs.length:=(List.getElem?_eq_some_iff.1 hob).1
 obtain⟨ao,L,c,cc,ao',rfl,rfl,g1,g2,g3,g4,_⟩:=hc
 unfold minI cpN
 have hnm:Nat.min src.length len=min src.length len:=rfl
 have hlenOf:(Builtin.lenOf vx).run P w=.ok src.length w:=by
  rcases hy with⟨q,rfl,rfl⟩ | ⟨ad,q,rfl,_⟩ <;> rfl
 have hL:L=es.length:=by
  rcases row_slice f2' with⟨h1,rfl⟩ | ⟨a,cap,h1,_⟩
  ·cases h1;rfl
  ·cases h1;rfl
 subst hL
 have hone:∀v∈ys,v.oneCell'=true:=fun v hv=>by
  obtain⟨i,hi,rfl⟩:=List.getElem_of_mem hv
  have hlt:i<(flat src).length:=by rw[←hys.1];exact hi
  exact(hys.2 i _ _ (List.getElem?_eq_getElem hlt) (List.getElem?_eq_getElem hi)).2
 have hyl:ys.length=src.length*n:=by rw[hys.1,hus.length]
 have hm1:min src.length len*n≤src.length*n:=Nat.mul_le_mul_right _ (Nat.min_le_left _ _)
 have hfirst:(Builtin.firstCells n (min src.length len) vx).run P w=.ok (ys.take (min src.length len*n)).toArray w:=by
  rcases hy with⟨q,rfl,rfl⟩ | ⟨ad,q,rfl,_,hcell⟩
  ·have:ys=[]:=List.eq_nil_of_length_eq_zero (by simpa using hyl)
   subst this
   simpa using run_firstCells_none w n (min 0 len) 0 q
  ·refine run_firstCells_some w n (min src.length len) ad src.length q _ (by rw[List.length_take];omega) (fun j v hj=>?_)
   rw[List.getElem?_take] at hj
   split at hj
   ·exact hcell j v hj
   ·cases hj
 have hrun:∀(w':World),(match ao' with | some a=>storeCells a (ys.take (min src.length len*n)) 0 | none=>pure ()).run P w=.ok () w' →
  (Builtin.copy_ #[t,u] ty #[.slice ao' len cc,vx]).run P w=.ok (.int .i64 ((min src.length len:Nat):Int)) w':=fun w' hs=>by
  unfold Builtin.copy_
  simp only[List.getElem?_toArray,List.getElem?_cons_zero,List.getElem?_cons_succ,Sem.run_bind,run_underlying ht,Result.andThen_ok,hlenOf,run_sizeOf hn,hnm,hfirst]
  cases ao' with
  | none=>simp only[Sem.run_pure] at hs ⊢;cases hs;rfl
  | some a'=>
   dsimp only at hs ⊢
   simp only[Sem.run_bind]
   rw[hs]
   rfl
 by_cases hz:min src.length len=0
 ·refine⟨w,hrun w ?_,?_⟩
  ·rw[hz,Nat.zero_mul,List.take_zero]
   cases ao' <;> rfl
  ·rw[hz,List.take_zero,List.append_nil,Nat.add_zero,List.take_append_drop]
   have:st.objs.set key (.row false e n es)=st.objs:=by
    apply List.ext_getElem?
    intro i
    rw[List.getElem?_set]
    split
    ·rename_i hi;subst hi;exact hob.symm
    ·rfl
   rw[this]
   exact h
 ·rcases hown.2 with⟨hnn,h0⟩ | ⟨g,off,cap,cur,q1,q2,q3,q4,q5,q6,q7⟩
  ·exfalso;omega
  ·cases q1
   have h5:=g4 (by omega)
   have hadd:(⟨g,off,none⟩:Addr).add (lo*n)=⟨g,off+lo*n,none⟩:=by unfold Addr.add;split <;> simp_all
   simp only[Option.map_some,hadd] at h5
   subst h5
   have hmul:(lo+min src.length len)*n≤es.length*n:=Nat.mul_le_mul_right _ (by omega)
   have hmul2:es.length*n≤c*n:=Nat.mul_le_mul_right _ q4
   rw[Nat.add_mul] at hmul
   have hst:=run_storeCells_at P g (off+lo*n) e (ys.take (min src.length len*n)) 0 cur w q3 (by rw[List.length_take];omega) (fun v hv=>hone v (List.mem_of_mem_take hv))
   refine⟨_,hrun _ hst,?_⟩
   simp only[Nat.add_zero]
   have hftl:(flat (src.take (min src.length len))).length=min src.length len*n:=by rw[hus.flat_take,List.length_take,hus.length];omega
   refine h.splice (p:=lo*n) (ts:=flat (src.take (min src.length len))) hob e1 rfl q2 q3 q4 q5 q6 ?_ ?_ ?_ ?_ ?_
   ·simp;omega
   ·intro t ht
    rcases List.mem_append.1 ht with ht | ht
    ·rcases List.mem_append.1 ht with ht | ht
     ·exact hu t (List.mem_of_mem_take ht)
     ·exact hus t (List.mem_of_mem_take ht)
    ·exact hu t (List.mem_of_mem_drop ht)
   ·rw[flat_append,flat_append,hu.flat_take,hu.flat_drop,hftl,Nat.add_mul]
   ·rw[hus.flat_take]
    refine⟨by simp[hys.1],fun i t z h1 h2=>?_⟩
    rw[List.getElem?_take] at h1 h2
    split at h1
    ·rename_i hlt
     rw[if_pos hlt] at h2
     exact hys.2 i t z h1 h2
    ·cases h1
   ·rw[hftl];exact hmul
theorem copyK_ok{t u ty:TypeId}{s x:D}{vs vx:Value}{k:St→D→Option R}(h:Rel w0 F Xc ρ0 ρ st a w)(hs:RdD w (XB st.objs ρ Xc) ρ s vs)(hx:RdD w (XB st.objs ρ Xc) ρ x vx)
 (hk:copyK P st t s x k=some r):
 ∃y w' st' d,(Builtin.copy_ #[t,u] ty #[vs,vx]).run P w=.ok y w'∧Rel w0 F Xc ρ0 ρ st' a w'∧RdD w' (XB st'.objs ρ Xc) ρ d y∧k st' d=some r:=by
 unfold copyK at hk
 split at hk
 case h_2=>cases hk
 rename_i e0 ht
 split at hk
 case h_2=>cases hk
 rename_i n hn
 obtain⟨cs,rfl,hcs,hk1⟩:=asC_ok hs hk
 obtain⟨cx,rfl,hcx,hk2⟩:=asC_ok hx hk1
 clear hk hk1
 obtain⟨src,hk3,hus,ys,hys,hy⟩:=elemsK_ok h hcx hk2
 clear hk2
 split at hk3
 ·rename_i key
  split at hk3
  case h_2=>cases hk3
  rename_i e n' es hob
  split at hk3
  case isFalse=>cases hk3
  rename_i hnn
  subst hnn
  rcases hcs with hcs | ⟨hcs,_⟩
  ·cases hcs
  have e1:ρ key=some vs:=hcs
  obtain⟨hv,f1,f2⟩:=h.objs key _ hob
  rw[e1] at f1
  cases f1
  obtain⟨w',r1,r2⟩:=copy_core (u:=u) (ty:=ty) h ht hn hob e1 (CutOf.whole f2) hus hys hy
  unfold lenN at hk3
  exact⟨_,w',_,_,r1,r2,.int .i64 _,hk3⟩
 ·rename_i key m lo len tg
  split at hk3
  case h_2=>cases hk3
  rename_i e n' es hob
  split at hk3
  case isFalse=>cases hk3
  rename_i hnn
  obtain⟨rfl,rfl⟩:=hnn
  rcases hcs with hcs | ⟨⟨v,q1,q2⟩,_⟩
  ·cases hcs
  obtain⟨w',r1,r2⟩:=copy_core (u:=u) (ty:=ty) h ht hn hob q1 q2 hus hys hy
  unfold lenN at hk3
  exact⟨_,w',_,_,r1,r2,.int .i64 _,hk3⟩
 ·cases hk3
end
@[irreducible] def nilL{α:Type}(l:List α):Bool:=l.isEmpty
def ambD:D:=.s (.c .amb)
section
variable {R:Type} (P:Program)
def isNilD:D→Bool
 | .s (.c (.t (.v (.slice none 0 0))))=>true
 | _=>false
def nilQ(st:St)(eq:Bool)(c:C)(k:D→Option R):Option R:=match c with
 | .t (.v (.slice none 0 0))=>k (dB eq)
 | .t (.sl n l)=>if n<1000000000 then (bif nilL l then k ambD else k (dB (!eq))) else none
 | .row key=>match st.objs[key]? with
  | some (.row _ _ _ es)=>bif nilL es then k ambD else k (dB (!eq))
  | _=>none
 | _=>none
def binN(st:St)(op:BinOp)(ty yty:TypeId)(x y:D)(k:D→Option R):Option R:=match P.underlying ty with
 | some (.slice _)=>if isNilD y=true then asC x fun c=>if op=.eql then nilQ st true c k else if op=.neq then nilQ st false c k else none else none
 | _=>binQ P op ty yty x y k
end
section
variable {R:Type} {P:Program} {w0 w:World} {F Xc:Nat→Prop} {ρ0:Base} {ρ:Rho} {st:St} {a:Act} {r:R}
theorem eq_nil_run(t e:TypeId)(a:Option Addr)(l c:Nat)(h:P.underlying t=some (.slice e)):(Op.equal t (.slice a l c) (.slice none 0 0)).run P w=.ok a.isNone w:=by
 have key:∀d:Nat,(Op.equalIn (d+1) t (.slice a l c) (.slice none 0 0)).run P w=.ok a.isNone w:=fun d=>by
  cases a <;> simp[Op.equalIn,run_underlying h]
 exact key 9999
theorem isNilD_ok{X:Nat→Prop}{d:D}{v:Value}(h:RdD w X ρ d v)(hd:isNilD d=true):v=.slice none 0 0:=by
 unfold isNilD at hd
 split at hd
 ·rcases h with h | ⟨h,_⟩
  ·cases h
  ·exact Rd.inv_v h
 ·cases hd
theorem nilQ_ok{eq:Bool}{c:C}{v:Value}{k:D→Option R}(hR:Rel w0 F Xc ρ0 ρ st a w)(hc:RdC1 w (XB st.objs ρ Xc) ρ c v)(hk:nilQ st eq c k=some r):
 ∃ad l q d,v=.slice ad l q∧k d=some r∧RdD w (XB st.objs ρ Xc) ρ d (.bool (ad.isNone==eq)):=by
 have amb:∀b:Bool,RdD w (XB st.objs ρ Xc) ρ ambD (.bool b):=fun b=>.one (c:=.amb) ⟨b,rfl⟩ rfl
 have nn:∀(x:Addr),RdD w (XB st.objs ρ Xc) ρ (dB (!eq)) (.bool ((some x).isNone==eq)):=fun x=>by
  cases eq <;> exact .bool _
 unfold nilQ at hk
 split at hk
 ·rcases hc with hc | ⟨hc,_⟩
  ·cases hc
  ·have:=Rd.inv_v hc
   subst this
   exact⟨none,0,0,_,rfl,hk,by cases eq <;> exact .bool _⟩
 ·rename_i n l
  split at hk
  case isFalse=>cases hk
  rename_i hnm
  rcases hc with hc | ⟨hc,_⟩
  ·cases hc
  ·unfold nilL at hk
   have hc':Rd w (XB st.objs ρ Xc) (.sl n l) v:=hc
   cases hc' with
   | mp _ _ _ _ _ hbig=>omega
   | nil=>exact⟨none,0,0,_,rfl,hk,amb _⟩
   | sl _ _ ad c ys=>
    cases hl:l.isEmpty with
    | true=>rw[hl] at hk;exact⟨some ad,_,c,_,rfl,hk,amb _⟩
    | false=>rw[hl] at hk;exact⟨some ad,_,c,_,rfl,hk,nn ad⟩
 ·rename_i key
  split at hk
  ·rename_i fz e n es hob
   rcases hc with hc | ⟨hc,_⟩
   ·cases hc
   ·obtain⟨hv,e1,e2⟩:=hR.objs key _ hob
    have hcc:ρ key=some v:=hc
    rw[hcc] at e1
    cases e1
    unfold nilL at hk
    rcases row_slice e2 with⟨rfl,rfl⟩ | ⟨a0,cap,rfl,_⟩
    ·exact⟨none,0,0,_,rfl,hk,amb _⟩
    ·cases hl:es.isEmpty with
     | true=>rw[hl] at hk;exact⟨some a0,_,cap,_,rfl,hk,amb _⟩
     | false=>rw[hl] at hk;exact⟨some a0,_,cap,_,rfl,hk,nn a0⟩
  ·cases hk
 ·cases hk
theorem binN_ok{op:BinOp}{ty yty:TypeId}{x y:D}{xo yo:Operand}{vx vy:Value}{k:D→Option R}(hR:Rel w0 F Xc ρ0 ρ st a w)(hx:RdD w (XB st.objs ρ Xc) ρ x vx)(hy:RdD w (XB st.objs ρ Xc) ρ y vy)(hk:binN P st op ty yty x y k=some r):
 ∃d v,(do eqGuard op ty xo yo vx vy;binOp op ty vx vy:Sem Value).run P w=.ok v w∧RdD w (XB st.objs ρ Xc) ρ d v∧k d=some r:=by
 unfold binN at hk
 split at hk
 ·rename_i e hu
  split at hk
  case isFalse=>cases hk
  rename_i hn
  have:=isNilD_ok hy hn
  subst this
  obtain⟨c,rfl,hc,hk1⟩:=asC_ok hx hk
  split at hk1
  ·rename_i ho
   subst ho
   obtain⟨ad,l,q,d,rfl,hk2,hd⟩:=nilQ_ok hR hc hk1
   refine⟨d,_,?_,hd,hk2⟩
   simp only[Sem.run_bind,eqGuard_run (a:=.slice ad l q) (by simp) (by simp),Result.andThen_ok]
   simp[binOp,eq_nil_run ty e ad l q hu]
  ·split at hk1
   ·rename_i ho
    subst ho
    obtain⟨ad,l,q,d,rfl,hk2,hd⟩:=nilQ_ok hR hc hk1
    refine⟨d,_,?_,hd,hk2⟩
    simp only[Sem.run_bind,eqGuard_run (a:=.slice ad l q) (by simp) (by simp),Result.andThen_ok]
    simp[binOp,eq_nil_run ty e ad l q hu]
   ·cases hk1
 ·exact binQ_ok hx hy hk
end
def keyKd(P:Program)(kt:TypeId):Option Nat:=match P.underlying kt with
 | some (.int .i64)=>some 0
 | some .string=>some 1
 | some (.array n e)=>match P.underlying e,szO P e,aggO P e with
  | some (.int .i64),some 1,some false=>some (n+2)
  | _,_,_=>none
 | _=>none
def scalB:Value→Value→Bool
 | .int .i64 a,.int .i64 b=>a==b
 | .string a,.string b=>a==b
 | _,_=>false
def keysB:List T→List T→Bool
 | [],[]=>true
 | .v a::l,.v b::m=>scalB a b&&keysB l m
 | _,_=>false
def keyB:T→T→Bool
 | .v a,.v b=>scalB a b
 | .agg l,.agg m=>keysB l m
 | _,_=>false
def entKey:T→T
 | .agg (k::_)=>k
 | t=>t
def entVal:T→T
 | .agg [_,v]=>v
 | t=>t
def mapFind(k:T)(l:List T):Option Nat:=l.findIdx? fun t=>keyB k (entKey t)
theorem intsV_some:∀{l:List T} {vs:List Value},intsV l=some vs→∃xs:List Int,l=xs.map (fun a=>T.v (.int .i64 a))∧vs=xs.map (Value.int .i64):=by
 intro l
 induction l with
 | nil=>intro vs h;simp only[intsV,Option.some.injEq] at h;subst h;exact⟨[],rfl,rfl⟩
 | cons t l ih=>
  intro vs h
  unfold intsV at h
  split at h
  ·rename_i hh;cases hh
  ·rename_i a l' hh
   cases hh
   cases hs:intsV l with
   | none=>simp[hs] at h
   | some q=>
    simp only[hs,Option.map_some,Option.some.injEq] at h
    subst h
    obtain⟨xs,rfl,rfl⟩:=ih hs
    exact⟨a::xs,rfl,rfl⟩
  ·cases h
theorem keyV_cases{c:Nat}{k:T}{v:Value}(h:keyV c k=some v):(c=0∧∃a,k=.v (.int .i64 a)∧v=.int .i64 a)∨(c=1∧∃s,k=.v (.string s)∧v=.string s) ∨
 ∃m,∃xs:List Int,c=m+2∧xs.length=m∧k=.agg (xs.map fun a=>T.v (.int .i64 a))∧v=.agg (xs.map (Value.int .i64)).toArray:=by
 unfold keyV at h
 split at h
 ·cases h;exact .inl ⟨rfl,_,rfl,rfl⟩
 ·cases h;exact .inr (.inl ⟨rfl,_,rfl,rfl⟩)
 ·rename_i m l
  split at h
  ·rename_i hl
   cases hs:intsV l with
   | none=>simp[hs] at h
   | some q=>
    simp only[hs,Option.map_some,Option.some.injEq] at h
    subst h
    obtain⟨xs,rfl,rfl⟩:=intsV_some hs
    exact .inr (.inr ⟨m,xs,rfl,by simpa using hl,rfl,rfl⟩)
  ·cases h
 ·cases h
theorem keysB_ints:∀xs ys:List Int,keysB (xs.map fun a=>T.v (.int .i64 a)) (ys.map fun a=>T.v (.int .i64 a))=decide (xs=ys)
 | [],[]=>rfl
 | [],_::_=>rfl
 | _::_,[]=>rfl
 | x::xs,y::ys=>by
  simp only[List.map_cons,keysB,scalB,keysB_ints xs ys]
  by_cases h:x=y
  ·subst h;simp
  ·simp[h]
theorem keyB_iff{c:Nat}{k k':T}{v v':Value}(h:keyV c k=some v)(h':keyV c k'=some v'):keyB k k'=true↔v=v':=by
 rcases keyV_cases h with⟨rfl,a,rfl,rfl⟩ | ⟨rfl,s,rfl,rfl⟩ | ⟨m,xs,rfl,hl,rfl,rfl⟩
 ·rcases keyV_cases h' with⟨_,b,rfl,rfl⟩ | ⟨hc,_⟩ | ⟨m,ys,hc,_⟩
  ·simp[keyB,scalB]
  ·omega
  ·omega
 ·rcases keyV_cases h' with⟨hc,_⟩ | ⟨_,b,rfl,rfl⟩ | ⟨m,ys,hc,_⟩
  ·omega
  ·simp[keyB,scalB,MapKept.bytes_beq]
  ·omega
 ·rcases keyV_cases h' with⟨hc,_⟩ | ⟨hc,_⟩ | ⟨m',ys,hc,hl',rfl,rfl⟩
  ·omega
  ·omega
  ·simp only[keyB,keysB_ints,decide_eq_true_eq]
   constructor
   ·intro e;rw[e]
   ·intro e
    have e1:xs.map (Value.int .i64)=ys.map (Value.int .i64):=by
     have:=congrArg (fun v=>match v with | Value.agg cs=>cs.toList | _=>[]) e
     simpa using this
    have inj:∀xs ys:List Int,xs.map (Value.int .i64)=ys.map (Value.int .i64)→xs=ys:=by
     intro xs
     induction xs with
     | nil=>intro ys h;cases ys with
      | nil=>rfl
      | cons y ys=>cases h
     | cons x xs ih=>intro ys h;cases ys with
      | nil=>cases h
      | cons y ys=>
       simp only[List.map_cons,List.cons.injEq,Value.int.injEq,true_and] at h
       rw[h.1,ih ys h.2]
    exact inj xs ys e1
section
variable {P:Program} {w:World} {X:Nat→Prop} {ρ:Rho}
theorem run_part1{e:TypeId}{cs:Array Value}{i:Nat}{v:Value}(hag:aggO P e=some false)(hv:cs[i]?=some v)(w:World):(part e cs i).run P w=.ok v w:=by
 unfold part
 simp only[Sem.run_bind,run_isAgg hag,Result.andThen_ok,Bool.false_eq_true,if_false,hv]
 rfl
theorem ints_get{xs:List Int}{i:Nat}(h:i<xs.length):((xs.map (Value.int .i64)).toArray)[i]?=some (.int .i64 xs[i]):=by simp[h]
theorem run_check_ints{kt e:TypeId}{n:Nat}(hu:P.underlying kt=some (.array n e))(he:P.underlying e=some (.int .i64))(hsz:szO P e=some 1)(hag:aggO P e=some false){xs:List Int}(hl:xs.length=n)(em:Bool)(d:Nat)(w:World):
 (Instr.checkKey em (d+2) kt (.agg (xs.map (Value.int .i64)).toArray)).run P w=.ok () w:=by
 rw[Instr.checkKey]
 simp only[Sem.run_bind,run_underlying hu,Result.andThen_ok]
 simp only[Std.Legacy.Range.forIn_eq_forIn_range',Std.Legacy.Range.size,Nat.sub_zero,Nat.add_one_sub_one,Nat.div_one]
 have each:∀j∈List.range' 0 n,j<xs.length:=fun j hj=>by
  rw[List.mem_range'] at hj
  obtain⟨i,hi,rfl⟩:=hj
  omega
 generalize List.range' 0 n=is at each
 induction is with
 | nil=>simp
 | cons j is ih=>
  have hj:=each j (by simp)
  have p1:=run_part1 hag (ints_get hj) w
  have p2:(Instr.checkKey em (d+1) e (.int .i64 xs[j])).run P w=.ok () w:=MapKept.run_checkKey he (k:=.int .i64 xs[j]) rfl em d
  simp only[List.forIn_cons,Sem.run_bind,run_sizeOf hsz,Result.andThen_ok,Nat.mul_one,p1,p2,Sem.run_pure]
  exact ih fun y hy=>each y (by simp[hy])
theorem key_check{kt:TypeId}{c:Nat}{k:T}{v:Value}(hk:keyKd P kt=some c)(hv:keyV c k=some v)(em:Bool)(w:World):(Instr.checkKey em 10000 kt v).run P w=.ok () w:=by
 unfold keyKd at hk
 split at hk
 ·rename_i hu
  cases hk
  rcases keyV_cases hv with⟨_,a,rfl,rfl⟩ | ⟨hc,_⟩ | ⟨m,xs,hc,_⟩
  ·exact MapKept.run_checkKey hu (k:=.int .i64 a) rfl em 9999
  ·cases hc
  ·cases hc
 ·rename_i hu
  cases hk
  rcases keyV_cases hv with⟨hc,_⟩ | ⟨_,s,rfl,rfl⟩ | ⟨m,xs,hc,_⟩
  ·cases hc
  ·exact MapKept.run_checkKey hu (k:=.string s) trivial em 9999
  ·omega
 ·rename_i n e hu
  split at hk
  ·rename_i he hsz hag
   cases hk
   rcases keyV_cases hv with⟨hc,_⟩ | ⟨hc,_⟩ | ⟨m,xs,hc,hl,rfl,rfl⟩
   ·omega
   ·omega
   ·exact run_check_ints hu he hsz hag (by omega) em 9998 w
  ·cases hk
 ·cases hk
theorem eqItems_ints{e:TypeId}(he:P.underlying e=some (.int .i64))(hag:aggO P e=some false){xs ys:List Int}(hl:xs.length=ys.length)(d:Nat)(w:World):∀(is:List Nat),(∀j∈is,j<xs.length) →
 ∃r,(Op.eqItems (d+1) e 1 (xs.map (Value.int .i64)).toArray (ys.map (Value.int .i64)).toArray is).run P w=.ok r w∧(r=true↔∀j∈is,xs[j]?=ys[j]?)
 | [],_=>⟨true,by simp[Op.eqItems],by simp⟩
 | i::is,hi=>by
  have h1:=hi i (by simp)
  have p1:=run_part1 hag (ints_get h1) w
  have p2:=run_part1 hag (ints_get (xs:=ys) (i:=i) (by omega)) w
  obtain⟨r,hr,hiff⟩:=eqItems_ints he hag hl d w is (fun j hj=>hi j (by simp[hj]))
  have p3:=run_equalIn_int w d e .i64 .i64 xs[i] (ys[i]'(by omega)) he
  simp only[Op.eqItems,Sem.run_bind,Nat.mul_one,p1,p2,Result.andThen_ok,p3]
  have hx:xs[i]?=some xs[i]:=List.getElem?_eq_getElem h1
  have hy:ys[i]?=some (ys[i]'(by omega)):=List.getElem?_eq_getElem (by omega)
  by_cases hb:xs[i]=ys[i]'(by omega)
  ·refine⟨r,by simpa[hb] using hr,?_⟩
   rw[hiff]
   constructor
   ·intro h j hj
    rcases List.mem_cons.1 hj with rfl | hj
    ·rw[hx,hy,hb]
    ·exact h j hj
   ·intro h j hj;exact h j (by simp[hj])
  ·refine⟨false,by simp[hb],?_⟩
   constructor
   ·intro h;cases h
   ·intro h
    have:=h i (by simp)
    rw[hx,hy] at this
    exact(hb (Option.some.inj this)).elim
theorem key_equal{kt e:TypeId}{n:Nat}(hu:P.underlying kt=some (.array n e))(he:P.underlying e=some (.int .i64))(hsz:szO P e=some 1)(hag:aggO P e=some false){k k':T}{v v':Value}(h:keyV (n+2) k=some v)(h':keyV (n+2) k'=some v')(w:World):
 (Op.equal kt v v').run P w=.ok (keyB k k') w:=by
 have hb:=keyB_iff h h'
 rcases keyV_cases h with⟨hc,_⟩ | ⟨hc,_⟩ | ⟨m,xs,hc,hl,rfl,rfl⟩
 ·omega
 ·omega
 rcases keyV_cases h' with⟨hc',_⟩ | ⟨hc',_⟩ | ⟨m',ys,hc',hl',rfl,rfl⟩
 ·omega
 ·omega
 obtain⟨i,hi,hsi⟩:∃i,P.info? e=some i∧i.size=1:=by
  unfold szO at hsz
  cases hi:P.info? e with
  | none=>simp[hi] at hsz
  | some i=>exact⟨i,rfl,by simpa[hi] using hsz⟩
 have hcell:P.cellsOf e=1:=by simp[Program.cellsOf,hi,hsi]
 obtain⟨r,hr,hiff⟩:=eqItems_ints he hag (xs:=xs) (ys:=ys) (by omega) 9998 w (List.range n) (fun j hj=>by rw[List.mem_range] at hj;omega)
 have hrun:(Op.equal kt (.agg (xs.map (Value.int .i64)).toArray) (.agg (ys.map (Value.int .i64)).toArray)).run P w=.ok r w:=by
  show (Op.equalIn 10000 kt _ _).run P w=_
  rw[run_equalIn_array w 9999 _ _ hu hi,hcell]
  exact hr
 rw[hrun]
 congr 1
 have:r=true↔xs=ys:=by
  rw[hiff]
  constructor
  ·intro h
   apply List.ext_getElem?
   intro j
   rcases Nat.lt_or_ge j n with hj | hj
   ·exact h j (List.mem_range.2 hj)
   ·rw[List.getElem?_eq_none (by omega),List.getElem?_eq_none (by omega)]
  ·intro e j _;rw[e]
 have h2:keyB (.agg (xs.map fun a=>T.v (.int .i64 a))) (.agg (ys.map fun a=>T.v (.int .i64 a)))=decide (xs=ys):=by simp only[keyB,keysB_ints]
 rw[h2]
 cases r with
 | true=>exact(decide_eq_true (this.1 rfl)).symm
 | false=>exact(decide_eq_false fun hh=>by have:=this.2 hh;cases this).symm
def EntR(c:Nat):List T→List MapEntry→Prop
 | [],[]=>True
 | t::l,e::es=>(∃k v,t=.agg [k,v]∧keyV c k=some e.key)∧EntR c l es
 | _,_=>False
theorem EntR.of:∀{c:Nat} {l:List T} {es:List MapEntry},es.length=l.length→(∀(i:Nat) t e,l[i]?=some t→es[i]?=some e→∃k v,t=.agg [k,v]∧keyV c k=some e.key∧OneV v e.val)→EntR c l es
 | _,[],[],_,_=>trivial
 | _,[],_::_,h,_=>by simp at h
 | _,_::_,[],h,_=>by simp at h
 | c,t::l,e::es,h,hs=>by
  obtain⟨k,v,h1,h2,_⟩:=hs 0 t e rfl rfl
  exact⟨⟨k,v,h1,h2⟩,EntR.of (by simpa using h) fun i t e a b=>hs (i+1) t e (by simpa using a) (by simpa using b)⟩
theorem findNow_ok{d:TypeDesc}{c:Nat}{k:T}{v:Value}(hd:∀{k' v'},keyV c k'=some v'→Instr.sameNow d v v'=some (keyB k k')):∀(l:List T) (es:List MapEntry) (i:Nat),EntR c l es →
 Instr.findNow d v es i=some ((mapFind k l).bind fun j=>(es[j]?).map fun e=>(i+j,e.val))
 | [],[],_,_=>rfl
 | [],_::_,_,h=>h.elim
 | _::_,[],_,h=>h.elim
 | t::l,e::es,i,⟨⟨k',u,h1,h2⟩,h3⟩=>by
  subst h1
  simp only[Instr.findNow,hd h2]
  unfold mapFind
  rw[List.findIdx?_cons]
  have hek:∀u,entKey (T.agg [k',u])=k':=fun _=>rfl
  rw[hek]
  cases hb:keyB k k' with
  | true=>simp
  | false=>
   simp only[Bool.false_eq_true,if_false]
   rw[findNow_ok hd l es (i+1) h3]
   unfold mapFind
   cases l.findIdx? (fun t=>keyB k (entKey t)) with
   | none=>rfl
   | some j=>
    simp only[Option.map_some,Option.bind_some,List.getElem?_cons_succ]
    have:i+1+j=i+(j+1):=by omega
    rw[this]
theorem findAsking_ok{kt:TypeId}{c:Nat}{k:T}{v:Value}(w:World)(hd:∀{k' v'},keyV c k'=some v'→(Op.equal kt v v').run P w=.ok (keyB k k') w):∀(l:List T) (es:List MapEntry) (i:Nat),EntR c l es →
 (Instr.findAsking kt v es i).run P w=.ok ((mapFind k l).bind fun j=>(es[j]?).map fun e=>(i+j,e.val)) w
 | [],[],_,_=>rfl
 | [],_::_,_,h=>h.elim
 | _::_,[],_,h=>h.elim
 | t::l,e::es,i,⟨⟨k',u,h1,h2⟩,h3⟩=>by
  subst h1
  simp only[Instr.findAsking,Sem.run_bind,hd h2,Result.andThen_ok]
  unfold mapFind
  rw[List.findIdx?_cons]
  have hek:∀u,entKey (T.agg [k',u])=k':=fun _=>rfl
  rw[hek]
  cases hb:keyB k k' with
  | true=>simp
  | false=>
   simp only[Bool.false_eq_true,if_false]
   rw[findAsking_ok w hd l es (i+1) h3]
   unfold mapFind
   cases l.findIdx? (fun t=>keyB k (entKey t)) with
   | none=>rfl
   | some j=>
    simp only[Option.map_some,Option.bind_some,List.getElem?_cons_succ]
    have:i+1+j=i+(j+1):=by omega
    rw[this]
theorem key_find{kt:TypeId}{c:Nat}{k:T}{v:Value}(hk:keyKd P kt=some c)(hv:keyV c k=some v){l:List T}{es:List MapEntry}(h:EntR c l es)(w:World):
 (Instr.findKey kt v es).run P w=.ok ((mapFind k l).bind fun j=>(es[j]?).map fun e=>(j,e.val)) w:=by
 unfold keyKd at hk
 split at hk
 ·rename_i hu
  cases hk
  have hd:∀{k' v'},keyV 0 k'=some v'→Instr.sameNow (.int .i64) v v'=some (keyB k k'):=fun {k' v'} h'=>by
   rcases keyV_cases hv with⟨_,a,rfl,rfl⟩ | ⟨hc,_⟩ | ⟨m,xs,hc,_⟩
   ·rcases keyV_cases h' with⟨_,b,rfl,rfl⟩ | ⟨hc,_⟩ | ⟨m,xs,hc,_⟩
    ·simp[Instr.sameNow,keyB,scalB]
    ·cases hc
    ·cases hc
   ·cases hc
   ·cases hc
  have:=MapKept.run_findKey (w:=w) hu (findNow_ok hd l es 0 h)
  simpa only[Nat.zero_add] using this
 ·rename_i hu
  cases hk
  have hd:∀{k' v'},keyV 1 k'=some v'→Instr.sameNow .string v v'=some (keyB k k'):=fun {k' v'} h'=>by
   rcases keyV_cases hv with⟨hc,_⟩ | ⟨_,a,rfl,rfl⟩ | ⟨m,xs,hc,_⟩
   ·cases hc
   ·rcases keyV_cases h' with⟨hc,_⟩ | ⟨_,b,rfl,rfl⟩ | ⟨m,xs,hc,_⟩
    ·cases hc
    ·simp[Instr.sameNow,keyB,scalB]
    ·omega
   ·omega
  have:=MapKept.run_findKey (w:=w) hu (findNow_ok hd l es 0 h)
  simpa only[Nat.zero_add] using this
 ·rename_i n e hu
  split at hk
  ·rename_i he hsz hag
   cases hk
   have ha:=findAsking_ok (P:=P) (kt:=kt) (k:=k) (v:=v) w (fun {k' v'} h'=>key_equal hu he hsz hag hv h' w) l es 0 h
   simp only[Nat.zero_add] at ha
   have hn:∀es,es≠[]→Instr.findNow (.array n e) v es 0=none:=fun es hes=>by
    cases es with
    | nil=>exact(hes rfl).elim
    | cons x es=>rfl
   cases es with
   | nil=>
    cases l with
    | nil=>exact MapKept.run_findKey (w:=w) hu rfl
    | cons t l=>exact h.elim
   | cons x es=>
    unfold Instr.findKey
    simp only[Sem.run_bind,run_underlying hu,Result.andThen_ok,hn (x::es) (by simp)]
    exact ha
  ·cases hk
 ·cases hk
theorem sameBits_ints(d:Nat):∀xs:List Int,((xs.map (Value.int .i64)).zip (xs.map (Value.int .i64))).all (fun(x,y)=>Instr.sameBits (d+1) x y)=true
 | []=>rfl
 | x::xs=>by
  have h:=sameBits_ints d xs
  simp only[List.map_cons,List.zip_cons_cons,List.all_cons,Bool.and_eq_true]
  exact⟨by simp[Instr.sameBits],h⟩
theorem key_stays{c:Nat}{k:T}{v:Value}(hv:keyV c k=some v)(w:World):(Instr.keyThatStays v v).run P w=.ok v w:=by
 have hs:Instr.sameBits 10000 v v=true:=by
  rcases keyV_cases hv with⟨_,a,rfl,rfl⟩ | ⟨_,s,rfl,rfl⟩ | ⟨m,xs,_,_,rfl,rfl⟩
  ·simp[Instr.sameBits]
  ·simp[Instr.sameBits,MapKept.bytes_beq]
  ·simp only[Instr.sameBits,beq_self_eq_true,Bool.true_and]
   exact sameBits_ints 9998 xs
 unfold Instr.keyThatStays
 rw[if_pos hs]
 rfl
end
@[irreducible] def mapGetD(k:T)(l:List T)(z:T):T:=match mapFind k l with
 | some i=>entVal (l.getD i z)
 | none=>z
@[irreducible] def mapHas(k:T)(l:List T):Bool:=(mapFind k l).isSome
@[irreducible] def mapPut(k v:T)(l:List T):List T:=match mapFind k l with
 | some i=>l.set i (.agg [k,v])
 | none=>l++[.agg [k,v]]
@[irreducible] def mapEnt(k z:T)(l:List T):List T:=match mapFind k l with
 | some _=>l
 | none=>l++[.agg [k,z]]
@[irreducible] def mapIdx(k:T)(l:List T):Int:=((mapFind k l).getD l.length:Nat)
@[irreducible] def mapSetV(i:Int)(v:T)(l:List T):Option (List T):=if 0≤i then match l[i.toNat]? with
 | some t=>some (l.set i.toNat (.agg [entKey t,v]))
 | none=>none else none
def T.one?:T→Option T
 | .agg _=>none
 | t=>some t
def T.parts?(m:Nat):T→Option T
 | .agg l=>if l.length=m then some (.agg l) else none
 | _=>none
section
variable {R:Type} (P:Program)
def intsK:List C→(List T→Option R)→Option R
 | [],k=>k []
 | .t x::l,k=>ob (x.int? .i64) fun a=>intsK l fun ts=>k (.v (.int .i64 a)::ts)
 | _::_,_=>none
def keyD(c:Nat)(d:D)(k:T→Option R):Option R:=match c with
 | 0=>asI .i64 d fun a=>k (.v (.int .i64 a))
 | 1=>asS d fun s=>k (.v (.string s))
 | m+2=>match d with
  | .s (.agg cs)=>if cs.length=m then intsK cs fun ts=>k (.agg ts) else none
  | _=>none
def mapSrc(st:St)(n:Nat)(c:C)(k:List T→Option R):Option R:=match c with
 | .t (.sl n' l)=>if n'=n then k l else none
 | .row key=>match st.objs[key]? with
  | some (.mp _ _ n' l)=>if n'=n then k l else none
  | _=>none
 | _=>none
def valK(e:TypeId)(v:T)(k:S1→Option R):Option R:=match aggO P e with
 | some false=>ob v.one? fun x=>k (.c (.t x))
 | some true=>match szO P e with
  | some m=>ob (v.parts? m) fun x=>k (.agg ((List.range m).map fun i=>C.t (x.cell i)))
  | none=>none
 | none=>none
def zeroT:Value→T
 | .agg cs=>.agg (cs.toList.map .v)
 | v=>.v v
def zeroOk(z:Value):Bool:=z.cells.all fun v=>v.oneCell'
def lookupK(st:St)(t:TypeId)(x ix:D)(ok:Bool)(k:D→Option R):Option R:=match P.underlying t with
 | some (.map kt e)=>match keyKd P kt,P.info? e with
  | some c,some i=>match i.zero with
   | some z=>if zeroOk z=true then asC x fun cx=>mapSrc st (c+1000000000) cx fun l=>keyD c ix fun kk=>valK P e (mapGetD kk l (zeroT z)) fun s=>
    if ok=true then k (.tup [s,.c (.t (.v (.bool (mapHas kk l))))]) else k (.s s)
    else none
   | none=>none
  | _,_=>none
 | _=>none
def makeMapK(st:St)(dst:Option Nat)(t:TypeId)(k:St→D→Option R):Option R:=match P.underlying t with
 | some (.map kt _)=>match keyKd P kt with
  | some c=>newK st dst (.mp false t (c+1000000000) []) fun st key=>k st (.s (.c (.row key)))
  | none=>none
 | _=>none
def mkV(v:D)(ts:List T):Option T:=match v,ts with
 | .s (.agg _),ts=>some (.agg ts)
 | .s (.c _),[t]=>some t
 | _,_=>none
def mapUpdK(st:St)(t:TypeId)(m key v:D)(k:St→Option R):Option R:=match P.underlying t with
 | some (.map kt e)=>match keyKd P kt with
  | some c=>keyD c key fun kk=>match m,dcells v with
   | .s (.c (.row mk)),some cs=>match frzL st.objs cs with
    | some (objs',cs')=>match objs'[mk]? with
     | some (.mp false t' n l)=>if n=c+1000000000 then treesG P ((P.cellTypes P.depth e).getD []) cs' fun ts=>match mkV v ts with
      | some tv=>k { st with objs:=objs'.set mk (.mp false t' n (mapPut kk tv l)) }
      | none=>none
      else none
     | _=>none
    | none=>none
   | _,_=>none
  | none=>none
 | _=>none
def mapEntK(st:St)(t:TypeId)(m key:D)(k:St→D→Option R):Option R:=match P.underlying t with
 | some (.map kt e)=>match keyKd P kt,P.info? e with
  | some c,some i=>match i.zero with
   | some z=>if zeroOk z=true then keyD c key fun kk=>match m with
    | .s (.c (.row mk))=>match st.objs[mk]? with
     | some (.mp false t' n l)=>if n=c+1000000000 then valK P e (mapGetD kk l (zeroT z)) fun s=>
      k { st with objs:=st.objs.set mk (.mp false t' n (mapEnt kk (zeroT z) l)) } (.tup [s,.c (.t (.v (.int .i64 (mapIdx kk l))))])
      else none
     | _=>none
    | _=>none
    else none
   | none=>none
  | _,_=>none
 | _=>none
def entStoreK(st:St)(t:TypeId)(m stamp v:D)(k:St→Option R):Option R:=match P.underlying t with
 | some (.map _ e)=>asI .i64 stamp fun s=>match m,dcells v with
  | .s (.c (.row mk)),some cs=>match frzL st.objs cs with
   | some (objs',cs')=>match objs'[mk]? with
    | some (.mp false t' n l)=>treesG P ((P.cellTypes P.depth e).getD []) cs' fun ts=>match mkV v ts with
     | some tv=>ob (mapSetV s tv l) fun l'=>k { st with objs:=objs'.set mk (.mp false t' n l') }
     | none=>none
    | _=>none
   | none=>none
  | _,_=>none
 | _=>none
end
section
variable {R:Type} {P:Program} {w0 w w':World} {F Xc X:Nat→Prop} {ρ0:Base} {ρ:Rho} {st:St} {a:Act} {r:R}
theorem intsK_ok:∀{cs:List C} {ys:List Value} {k:List T→Option R},RdL w X ρ cs ys→intsK cs k=some r→∃ts,intsV ts=some ys∧ts.length=cs.length∧k ts=some r
 | [],ys,k,h,hk=>by
  have:ys=[]:=List.eq_nil_of_length_eq_zero h.1
  subst this
  exact⟨[],rfl,rfl,hk⟩
 | c::cs,ys,k,h,hk=>by
  cases ys with
  | nil=>have:=h.1;simp at this
  | cons y ys=>
   cases c with
   | t x=>
    simp only[intsK] at hk
    obtain⟨n,hn,hk1⟩:=ob_some hk
    have h0:=h.2 0 _ y rfl rfl
    have htail:RdL w X ρ cs ys:=⟨by simpa using h.1,fun i c y h1 h2=>h.2 (i+1) c y (by simpa using h1) (by simpa using h2)⟩
    obtain⟨ts,e1,e2,e3⟩:=intsK_ok htail hk1
    have hy:y=.int .i64 n:=by
     rcases h0 with h0 | ⟨h0,_⟩
     ·cases h0
     ·exact int_ok h0 hn
    subst hy
    exact⟨_,by simp[intsV,e1],by simp[e2],e3⟩
   | _=>simp[intsK] at hk
theorem keyD_ok{c:Nat}{d:D}{y:Value}{k:T→Option R}(h:RdD w X ρ d y)(hk:keyD c d k=some r):∃t,keyV c t=some y∧k t=some r:=by
 match c with
 | 0=>
  obtain⟨n,rfl,hk1⟩:=asI_ok h hk
  exact⟨_,rfl,hk1⟩
 | 1=>
  obtain⟨n,rfl,hk1⟩:=asS_ok h hk
  exact⟨_,rfl,hk1⟩
 | m+2=>
  simp only[keyD] at hk
  split at hk
  ·rename_i cs
   split at hk
   ·rename_i hl
    obtain⟨vs,rfl,hl'⟩:=h
    obtain⟨ts,e1,e2,e3⟩:=intsK_ok hl' hk
    exact⟨.agg ts,by simp[keyV,e1,e2,hl],e3⟩
   ·cases hk
  ·cases hk
theorem mapFind_some{k:T}{l:List T}{i:Nat}(h:mapFind k l=some i):∃t,l[i]?=some t∧keyB k (entKey t)=true:=by
 unfold mapFind at h
 rw[List.findIdx?_eq_some_iff_getElem] at h
 obtain⟨hi,h1,_⟩:=h
 exact⟨l[i],List.getElem?_eq_getElem hi,h1⟩
theorem ent_find{n c:Nat}{kt:TypeId}{l:List T}{es:Array MapEntry}{kk:T}{kv:Value}(hkd:keyKd P kt=some c)(hkv:keyV c kk=some kv)(hn:n=c+1000000000)(hl:es.size=l.length)
 (hs:∀(i:Nat) t e,l[i]?=some t→es[i]?=some e→∃k v,t=.agg [k,v]∧keyV (n-1000000000) k=some e.key∧OneV v e.val) (w:World):
 (mapFind kk l=none∧(Instr.findKey kt kv es.toList).run P w=.ok none w) ∨
 ∃i k v e,mapFind kk l=some i∧l[i]?=some (.agg [k,v])∧es[i]?=some e∧e.key=kv∧OneV v e.val∧(Instr.findKey kt kv es.toList).run P w=.ok (some (i,e.val)) w:=by
 have hc:n-1000000000=c:=by omega
 rw[hc] at hs
 have hr:EntR c l es.toList:=EntR.of (by simpa using hl) fun i t e h1 h2=>hs i t e h1 (by simpa using h2)
 have hf:=key_find hkd hkv hr w
 cases hm:mapFind kk l with
 | none=>rw[hm] at hf;exact .inl ⟨rfl,hf⟩
 | some i=>
  obtain⟨t,h1,h2⟩:=mapFind_some hm
  have hlt:i<es.size:=by rw[hl];exact(List.getElem?_eq_some_iff.1 h1).1
  have he:es[i]?=some es[i]:=Array.getElem?_eq_getElem hlt
  obtain⟨k,v,rfl,hk,ho⟩:=hs i t _ h1 he
  rw[hm] at hf
  have:es.toList[i]?=some es[i]:=by simp
  simp only[Option.bind_some,this,Option.map_some] at hf
  refine .inr ⟨i,k,v,es[i],rfl,h1,he,?_,ho,hf⟩
  exact((keyB_iff hkv hk).1 h2).symm
theorem zeroT_ok{z:Value}(hz:zeroOk z=true):Rd w X (zeroT z) z∧OneV (zeroT z) z:=by
 unfold zeroOk at hz
 unfold zeroT
 split
 ·rename_i cs
  have h1:∀v∈cs.toList,v.oneCell'=true:=fun v hv=>by
   have:=Array.all_eq_true_iff_forall_mem.1 hz v (by simpa[Value.cells] using hv)
   exact this
  refine⟨.agg _ cs (by simp) (fun i y hi=>h1 y (by rw[←Array.getElem?_toList] at hi;exact List.mem_of_getElem? hi)) fun i t y e1 e2=>?_,.inl ⟨_,rfl⟩⟩
  rw[List.getElem?_map,Array.getElem?_toList,e2] at e1
  cases e1
  exact .v y
 ·rename_i hn
  refine⟨.v _,.inr ?_⟩
  cases z with
  | agg cs=>exact(hn cs rfl).elim
  | _=>simpa[Value.cells] using hz
theorem valK_ok{e:TypeId}{v:T}{y:Value}{k:S1→Option R}(h:Rd w X v y)(h1:OneV v y)(hk:valK P e v k=some r):∃s,RdS w X ρ s y∧k s=some r:=by
 unfold valK at hk
 split at hk
 ·obtain⟨x,hx,hk1⟩:=ob_some hk
  refine⟨_,?_,hk1⟩
  unfold T.one? at hx
  split at hx
  ·cases hx
  ·rename_i hn
   cases hx
   rcases h1 with⟨l,hl⟩ | h1
   ·exact(hn l hl).elim
   ·exact .inr ⟨h,h1⟩
 ·split at hk
  ·rename_i m hm
   obtain⟨x,hx,hk1⟩:=ob_some hk
   refine⟨_,?_,hk1⟩
   unfold T.parts? at hx
   split at hx
   ·rename_i l
    split at hx
    ·rename_i hl
     cases hx
     cases h with
     | agg _ cs hlen hone hr=>
      refine⟨cs,rfl,by simp[hlen,hl],fun i c y e1 e2=>?_⟩
      rw[List.getElem?_map] at e1
      rw[Array.getElem?_toList] at e2
      have hlt:i<l.length:=by rw[←hlen];exact(Array.getElem?_eq_some_iff.1 e2).1
      rw[List.getElem?_range (by omega)] at e1
      simp only[Option.map_some,Option.some.injEq] at e1
      subst e1
      have hli:l[i]?=some l[i]:=List.getElem?_eq_getElem hlt
      refine .inr ⟨?_,hone i y e2⟩
      have:=hr i _ y hli e2
      simpa[RdC,T.cell,T.cells,List.getD_eq_getElem?_getD,hli] using this
    ·cases hx
   ·cases hx
  ·cases hk
 ·cases hk
theorem mapSrc_ok{n:Nat}(hn:1000000000≤n){c:C}{y:Value}{k:List T→Option R}(h:Rel w0 F Xc ρ0 ρ st a w)(hc:RdC1 w (XB st.objs ρ Xc) ρ c y)(hk:mapSrc st n c k=some r):
 ∃l g es clock,k l=some r∧y=.map (some g)∧w.heap[g]?=some (.map es clock)∧es.size=l.length ∧
  (∀(i:Nat) t e,l[i]?=some t→es[i]?=some e→∃k v,t=.agg [k,v]∧keyV (n-1000000000) k=some e.key∧OneV v e.val) ∧
  ∀(i:Nat) k v e,l[i]?=some (.agg [k,v])→es[i]?=some e→Rd w (XB st.objs ρ Xc) v e.val:=by
 unfold mapSrc at hk
 split at hk
 ·rename_i n' l
  split at hk
  ·rename_i hnn
   subst hnn
   rcases hc with hc | ⟨hc,_⟩
   ·cases hc
   ·have hc':Rd w (XB st.objs ρ Xc) (.sl n' l) y:=hc
    cases hc' with
    | mp _ _ g es clock _ hg hx hl hs _ hv=>exact⟨l,g,es,clock,hk,rfl,hg,hl,hs,hv⟩
    | nil=>omega
    | sl=>omega
  ·cases hk
 ·rename_i key
  split at hk
  ·rename_i fz e n' l hob
   split at hk
   ·rename_i hnn
    subst hnn
    rcases hc with hc | ⟨hc,_⟩
    ·cases hc
    ·obtain⟨hv,e1,e2⟩:=h.objs key _ hob
     have hcc:ρ key=some y:=hc
     rw[hcc] at e1
     cases e1
     obtain⟨_,g,es,clock,rfl,hg,⟨q1,q2,q3,_⟩,_⟩:=e2
     exact⟨l,g,es,clock,hk,rfl,hg,q1,q2,q3⟩
   ·cases hk
  ·cases hk
 ·cases hk
theorem lookupK_ok{t:TypeId}{x ix:D}{vx vi:Value}{ok:Bool}{k:D→Option R}(h:Rel w0 F Xc ρ0 ρ st a w)(hx:RdD w (XB st.objs ρ Xc) ρ x vx)(hi:RdD w (XB st.objs ρ Xc) ρ ix vi)(hk:lookupK P st t x ix ok k=some r):
 ∃y d,(Instr.lookup t vx vi ok).run P w=.ok y w∧RdD w (XB st.objs ρ Xc) ρ d y∧k d=some r:=by
 unfold lookupK at hk
 split at hk
 case h_2=>cases hk
 rename_i kt e hu
 split at hk
 case h_2=>cases hk
 rename_i c i hc hi0
 split at hk
 case h_2=>cases hk
 rename_i z hz
 split at hk
 case isFalse=>cases hk
 rename_i hzok
 obtain⟨cx,rfl,hcx,hk1⟩:=asC_ok hx hk
 obtain⟨l,g,es,clock,hk2,rfl,hg,hl,hs,hv⟩:=mapSrc_ok (by omega) h hcx hk1
 obtain⟨kk,hkk,hk3⟩:=keyD_ok hi hk2
 have hzr:=run_zeroValue (P:=P) hi0 hz w
 have hch:=fun em=>key_check hc hkk em w
 have fin:∀(v:T) (y:Value) (b:Bool),Rd w (XB st.objs ρ Xc) v y→OneV v y→(Instr.lookup t (.map (some g)) vi ok).run P w=.ok (if ok=true then .tuple #[y,.bool b] else y) w →
  (valK P e v fun s=>if ok=true then k (.tup [s,.c (.t (.v (.bool b)))]) else k (.s s))=some r→∃y d,(Instr.lookup t (.map (some g)) vi ok).run P w=.ok y w∧RdD w (XB st.objs ρ Xc) ρ d y∧k d=some r:=by
  intro v y b hr h1 hrun hval
  obtain⟨s,hs1,hk4⟩:=valK_ok (ρ:=ρ) hr h1 hval
  cases ok with
  | true=>
   simp only[if_true] at hk4 hrun
   refine⟨_,.tup [s,.c (.t (.v (.bool b)))],hrun,⟨_,rfl,rfl,fun j s' y' e1 e2=>?_⟩,hk4⟩
   match j,e1,e2 with
   | 0,e1,e2=>simp at e1 e2;subst e1;subst e2;exact hs1
   | 1,e1,e2=>simp at e1 e2;subst e1;subst e2;exact .inr ⟨.v _,rfl⟩
   | j+2,e1,e2=>simp at e1
  | false=>
   simp only[Bool.false_eq_true,if_false] at hk4 hrun
   exact⟨_,.s s,hrun,hs1,hk4⟩
 rcases ent_find hc hkk rfl hl hs w with⟨h1,h2⟩ | ⟨j,kj,vj,ej,h1,h2,h3,h4,h5,h6⟩
 ·have e1:mapGetD kk l (zeroT z)=zeroT z:=by unfold mapGetD;rw[h1]
  have e2:mapHas kk l=false:=by unfold mapHas;rw[h1];rfl
  rw[e1,e2] at hk3
  obtain⟨z1,z2⟩:=zeroT_ok (w:=w) (X:=XB st.objs ρ Xc) hzok
  refine fin _ z false z1 z2 ?_ hk3
  unfold Instr.lookup
  simp only[Sem.run_bind,run_underlying hu,Result.andThen_ok,MapKept.run_getObj_map hg,Sem.run_pure,hch,h2,hzr]
 ·have e1:mapGetD kk l (zeroT z)=vj:=by unfold mapGetD;rw[h1];simp[List.getD_eq_getElem?_getD,h2,entVal]
  have e2:mapHas kk l=true:=by unfold mapHas;rw[h1];rfl
  rw[e1,e2] at hk3
  refine fin _ ej.val true (hv j kj vj ej h2 h3) h5 ?_ hk3
  unfold Instr.lookup
  simp only[Sem.run_bind,run_underlying hu,Result.andThen_ok,MapKept.run_getObj_map hg,Sem.run_pure,hch,h6]
theorem makeMapK_ok{dst:Option Nat}{t:TypeId}{k:St→D→Option R}(h:Rel w0 F Xc ρ0 ρ st a w)(hk:makeMapK P st dst t k=some r):
 ∃y w' ρ' st' d,(Instr.makeMap t none).run P w=.ok y w'∧Rel w0 F Xc ρ0 ρ' st' a w'∧RdD w' (XB st'.objs ρ' Xc) ρ' d y∧k st' d=some r:=by
 unfold makeMapK at hk
 split at hk
 case h_2=>cases hk
 rename_i kt e hu
 split at hk
 case h_2=>cases hk
 rename_i c hc
 obtain⟨d,_,hf,hk1⟩:=newK_ok hk
 refine⟨_,_,_,_,_,run_makeMap t w,h.new (hv:=.map (some w.heap.size)) (o:=.mp false t (c+1000000000) []) hf (Stp.alloc (fun _=>False) w (.map #[] 0)) (fun b hb=>by simp only[blk,Option.some.injEq] at hb;omega)
  (fun X' hX=>⟨by omega,w.heap.size,#[],0,rfl,heap_alloc_new w _,⟨rfl,fun i t e h1 _=>by simp at h1,fun i k v e h1 _=>by simp at h1,rfl,fun i e h1=>by simp at h1⟩,fun hz=>by cases hz⟩) (Nat.le_add_right _ _) (by simp),
  .one (c:=.row (st.np+d)) (by simp[RdC,upd]) rfl,hk1⟩
def setMap(w:World)(g:Nat)(es:Array MapEntry)(clock:Nat):World:={ w with heap:=w.heap.setIfInBounds g (.map es clock) }
theorem setMap_stp(w:World)(g:Nat)(es:Array MapEntry)(clock:Nat):Stp (fun b=>b=g) w (setMap w g es clock):=
 ⟨rfl,rfl,rfl,by simp[setMap],fun b _ hb=>by simp[setMap,Ne.symm hb]⟩
theorem Rel.setMap{key g n clock clock':Nat}{t:TypeId}{l l':List T}{es es':Array MapEntry}(h:Rel w0 F Xc ρ0 ρ st a w)(ho:st.objs[key]?=some (.mp false t n l))(hh:ρ key=some (.map (some g)))(hn:1000000000≤n)
 (hg:w.heap[g]?=some (.map es clock)) (hent:EntL w (XB st.objs ρ Xc) n l' es' clock'):Rel w0 F Xc ρ0 ρ { st with objs:=st.objs.set key (.mp false t n l') } a (setMap w g es' clock'):=by
 have hlt:key<st.objs.length:=(List.getElem?_eq_some_iff.1 ho).1
 have hHas:Has st.objs ρ key g:=⟨_,_,ho,rfl,hh,.inl rfl⟩
 refine h.change _ ρ (·=key) (setMap_stp w g es' clock') (fun jj hj=>⟨by rw[List.getElem?_set_ne (fun e=>hj e.symm)],rfl⟩) (.refl _) (fun b hb=>⟨key,rfl,hb▸hHas⟩)
  (fun jj b hj hb=>?_) (fun jj j' b hj hj' _ _=>hj.trans hj'.symm) (fun hX jj o' hj ho'=>?_) (fun _ _=>rfl)
 ·subst hj
  obtain⟨o',v,_,_,q3,q4⟩:=hb
  rw[hh] at q3
  cases q3
  have q5:=q4.one rfl
  cases q5
  exact .inl ⟨_,rfl,hHas⟩
 ·subst hj
  rw[List.getElem?_set_self hlt] at ho'
  cases ho'
  refine⟨_,hh,hn,g,es',clock',rfl,?_,hent.step (setMap_stp w g es' clock') (fun b hb=>.inl ⟨_,hb▸hHas⟩) hX,fun hz=>by cases hz⟩
  have hgl:g<w.heap.size:=(Array.getElem?_eq_some_iff.1 hg).1
  simp[Eng.setMap,hgl]
theorem mkV_ok{X0:Nat→Prop}{v:D}{y:Value}{cs cs':List C}{ts:List T}{tv:T}(hv:RdD w X0 ρ v y)(hcs:dcells v=some cs)(hlen:cs'.length=cs.length)(hr:RdT w X ts y.cells.toList)(hna:∀t∈ts,∀l,t≠.agg l)(hm:mkV v ts=some tv):Rd w X tv y∧OneV tv y:=by
 unfold mkV at hm
 split at hm
 ·rename_i cl
  cases hm
  obtain⟨vs,rfl,hl⟩:=hv
  refine⟨.agg _ vs (by have:=hr.1;simpa[Value.cells] using this) (fun i z hi=>?_) fun i t z e1 e2=>?_,.inl ⟨_,rfl⟩⟩
  ·have hlt:i<ts.length:=by have:=hr.1;simp only[Value.cells,Array.length_toList] at this;rw[←this];exact(Array.getElem?_eq_some_iff.1 hi).1
   exact(hr.2 i _ z (List.getElem?_eq_getElem hlt) (by simpa[Value.cells] using hi)).2
  ·exact(hr.2 i t z e1 (by simpa[Value.cells] using e2)).1
 ·rename_i c t
  cases hm
  rcases hv with hv | ⟨_,h1⟩
  ·subst hv;simp[dcells] at hcs
  ·rw[cells_one h1] at hr
   have:=hr.2 0 _ y rfl rfl
   exact⟨this.1,.inr h1⟩
 ·cases hm
theorem ent_put{n c clock:Nat}{l:List T}{es:Array MapEntry}{kk tv:T}{kv y:Value}(he:EntL w X n l es clock)(hn:n=c+1000000000)(hkk:keyV c kk=some kv)(hr:Rd w X tv y)(h1:OneV tv y):
 (mapFind kk l=none→EntL w X n (mapPut kk tv l) (es.push ⟨kv,y,clock⟩) (clock+1)) ∧
 ∀i,mapFind kk l=some i→EntL w X n (mapPut kk tv l) (es.modify i fun e=>{ e with key:=kv,val:=y }) clock:=by
 have hc:n-1000000000=c:=by omega
 obtain⟨q1,q2,q3,q4,q5⟩:=he
 refine⟨fun hm=>?_,fun i hm=>?_⟩
 ·have hp:mapPut kk tv l=l++[.agg [kk,tv]]:=by unfold mapPut;rw[hm]
  rw[hp]
  refine⟨by simp[q1],fun i t e e1 e2=>?_,fun i k v e e1 e2=>?_,by simp[q4],fun i e e2=>?_⟩
  ·rw[List.getElem?_append] at e1
   rw[Array.getElem?_push] at e2
   split at e1
   ·rename_i hlt
    rw[if_neg (by omega)] at e2
    exact q2 i t e e1 e2
   ·rename_i hge
    have hi:i=l.length:=by
     have:=(List.getElem?_eq_some_iff.1 e1).1
     simp at this;omega
    subst hi
    rw[if_pos q1.symm] at e2
    cases e2
    simp at e1
    subst e1
    exact⟨kk,tv,rfl,by rw[hc];exact hkk,h1⟩
  ·rw[List.getElem?_append] at e1
   rw[Array.getElem?_push] at e2
   split at e1
   ·rename_i hlt
    rw[if_neg (by omega)] at e2
    exact q3 i k v e e1 e2
   ·have hi:i=l.length:=by
     have:=(List.getElem?_eq_some_iff.1 e1).1
     simp at this;omega
    subst hi
    rw[if_pos q1.symm] at e2
    cases e2
    simp at e1
    obtain⟨rfl,rfl⟩:=e1
    exact hr
  ·rw[Array.getElem?_push] at e2
   split at e2
   ·rename_i hi
    cases e2
    show clock=i
    omega
   ·exact q5 i e e2
 ·obtain⟨t,g1,_⟩:=mapFind_some hm
  have hil:i<l.length:=(List.getElem?_eq_some_iff.1 g1).1
  have hp:mapPut kk tv l=l.set i (.agg [kk,tv]):=by unfold mapPut;rw[hm]
  rw[hp]
  refine⟨by simp[q1],fun j t e e1 e2=>?_,fun j k v e e1 e2=>?_,by simp[q4],fun j e e2=>?_⟩
  ·rw[List.getElem?_set] at e1
   rw[Array.getElem?_modify] at e2
   split at e1
   ·rename_i hij
    subst hij
    rw[if_pos rfl] at e2
    cases e1
    obtain⟨e0,g2,rfl⟩:=Option.map_eq_some_iff.1 e2
    exact⟨kk,tv,rfl,by rw[hc];exact hkk,h1⟩
   ·rename_i hij
    rw[if_neg hij] at e2
    exact q2 j t e e1 e2
  ·rw[List.getElem?_set] at e1
   rw[Array.getElem?_modify] at e2
   split at e1
   ·rename_i hij
    subst hij
    rw[if_pos rfl] at e2
    cases e1
    obtain⟨e0,g2,rfl⟩:=Option.map_eq_some_iff.1 e2
    exact hr
   ·rename_i hij
    rw[if_neg hij] at e2
    exact q3 j k v e e1 e2
  ·rw[Array.getElem?_modify] at e2
   split at e2
   ·rename_i hij
    subst hij
    obtain⟨e0,g2,rfl⟩:=Option.map_eq_some_iff.1 e2
    exact q5 _ e0 g2
   ·exact q5 j e e2
end
section
variable {R:Type} {P:Program} {w0 w w':World} {F Xc X:Nat→Prop} {ρ0:Base} {ρ:Rho} {st:St} {a:Act} {r:R}
theorem run_mapUpdate{t kt e:TypeId}{n c g clock:Nat}{l:List T}{es:Array MapEntry}{kk:T}{kv:Value}(hu:P.underlying t=some (.map kt e))(hc:keyKd P kt=some c)(hkk:keyV c kk=some kv)(hn:n=c+1000000000)
 (hg:w.heap[g]?=some (.map es clock)) (hl:es.size=l.length) (hs:∀(i:Nat) t e,l[i]?=some t→es[i]?=some e→∃k v,t=.agg [k,v]∧keyV (n-1000000000) k=some e.key∧OneV v e.val) (y:Value):
 (mapFind kk l=none∧(Instr.mapUpdate t (.map (some g)) kv y).run P w=.ok () (setMap w g (es.push ⟨kv,y,clock⟩) (clock+1))) ∨
 ∃i,mapFind kk l=some i∧(Instr.mapUpdate t (.map (some g)) kv y).run P w=.ok () (setMap w g (es.modify i fun e=>{ e with key:=kv,val:=y }) clock):=by
 have hch:=fun em=>key_check hc hkk em w
 rcases ent_find hc hkk hn hl hs w with⟨h1,h2⟩ | ⟨j,kj,vj,ej,h1,h2,h3,h4,h5,h6⟩
 ·refine .inl ⟨h1,?_⟩
  unfold Instr.mapUpdate
  simp only[Sem.run_bind,run_underlying hu,Result.andThen_ok,MapKept.run_getObj_map hg,hch,h2,MapKept.run_setObj_map _ hg]
  rfl
 ·refine .inr ⟨j,h1,?_⟩
  have hst:=key_stays (P:=P) hkk w
  unfold Instr.mapUpdate
  simp only[Sem.run_bind,run_underlying hu,Result.andThen_ok,MapKept.run_getObj_map hg,hch,h6,h3,Option.map_some,Option.getD_some,h4,hst,MapKept.run_setObj_map _ hg]
  rfl
theorem mapUpdK_ok{t:TypeId}{m key v:D}{vm vk vv:Value}{k:St→Option R}(h:Rel w0 F Xc ρ0 ρ st a w)(hm:RdD w (XB st.objs ρ Xc) ρ m vm)(hkey:RdD w (XB st.objs ρ Xc) ρ key vk)(hv:RdD w (XB st.objs ρ Xc) ρ v vv)
 (hk:mapUpdK P st t m key v k=some r):∃st' w',(Instr.mapUpdate t vm vk vv).run P w=.ok () w'∧Rel w0 F Xc ρ0 ρ st' a w'∧k st'=some r:=by
 unfold mapUpdK at hk
 split at hk
 case h_2=>cases hk
 rename_i kt e hu
 split at hk
 case h_2=>cases hk
 rename_i c hc
 obtain⟨kk,hkk,hk1⟩:=keyD_ok hkey hk
 clear hk
 split at hk1
 case h_2=>cases hk1
 rename_i mk cs hcs
 split at hk1
 case h_2=>cases hk1
 rename_i objs' cs' hfq
 obtain⟨hR,hl⟩:=frzL_ok h (dcells_ok hv hcs) hfq
 split at hk1
 case h_2=>cases hk1
 rename_i t' n l hob
 split at hk1
 case isFalse=>cases hk1
 rename_i hn
 obtain⟨ts,hk2,t1,t2,t3⟩:=treesG_ok hl hk1
 split at hk2
 case h_2=>cases hk2
 rename_i tv htv
 have hlen:cs'.length=cs.length:=by
  have q1:=hl.1
  have q2:=(dcells_ok hv hcs).1
  omega
 obtain⟨r1,r2⟩:=mkV_ok hv hcs hlen t2 t3 htv
 rcases hm with hm | ⟨hm,_⟩
 ·cases hm
 have hmm:ρ mk=some vm:=hm
 obtain⟨vm',e1,h0,g,es,clock,rfl,hg,he,_⟩:=hR.objs mk _ hob
 rw[hmm] at e1
 cases e1
 obtain⟨p1,p2⟩:=ent_put (kk:=kk) (tv:=tv) (kv:=vk) (y:=vv) he hn hkk r1 r2
 rcases run_mapUpdate hu hc hkk hn hg he.1 he.2.1 vv with⟨q1,q2⟩ | ⟨i,q1,q2⟩
 ·exact⟨_,_,q2,hR.setMap hob hmm h0 hg (p1 q1),hk2⟩
 ·exact⟨_,_,q2,hR.setMap hob hmm h0 hg (p2 i q1),hk2⟩
theorem ent_same{n clock:Nat}{l:List T}{es es':Array MapEntry}(he:EntL w X n l es clock)(h:∀i:Nat,es'[i]?=es[i]?)(hs:es'.size=es.size):EntL w X n l es' clock:=
 ⟨by rw[hs];exact he.1,fun i t e a b=>he.2.1 i t e a (by rw[←h];exact b),fun i k v e a b=>he.2.2.1 i k v e a (by rw[←h];exact b),by rw[hs];exact he.2.2.2.1,fun i e b=>he.2.2.2.2 i e (by rw[←h];exact b)⟩
theorem mapEntK_ok{t:TypeId}{m key:D}{vm vk:Value}{k:St→D→Option R}(h:Rel w0 F Xc ρ0 ρ st a w)(hm:RdD w (XB st.objs ρ Xc) ρ m vm)(hkey:RdD w (XB st.objs ρ Xc) ρ key vk)
 (hk:mapEntK P st t m key k=some r):∃y st' w' d,(Instr.mapEntry t vm vk).run P w=.ok y w'∧Rel w0 F Xc ρ0 ρ st' a w'∧RdD w' (XB st'.objs ρ Xc) ρ d y∧k st' d=some r:=by
 unfold mapEntK at hk
 split at hk
 case h_2=>cases hk
 rename_i kt e hu
 split at hk
 case h_2=>cases hk
 rename_i c i hc hi0
 split at hk
 case h_2=>cases hk
 rename_i z hz
 split at hk
 case isFalse=>cases hk
 rename_i hzok
 obtain⟨kk,hkk,hk1⟩:=keyD_ok hkey hk
 clear hk
 split at hk1
 case h_2=>cases hk1
 rename_i mk
 split at hk1
 case h_2=>cases hk1
 rename_i t' n l hob
 split at hk1
 case isFalse=>cases hk1
 rename_i hn
 rcases hm with hm | ⟨hm,_⟩
 ·cases hm
 have hmm:ρ mk=some vm:=hm
 obtain⟨vm',e1,h0,g,es,clock,rfl,hg,he,_⟩:=h.objs mk _ hob
 rw[hmm] at e1
 cases e1
 have hch:=fun em=>key_check hc hkk em w
 have hzr:=run_zeroValue (P:=P) hi0 hz w
 obtain⟨z1,z2⟩:=zeroT_ok (w:=w) (X:=XB st.objs ρ Xc) hzok
 have hout:∀(s:S1) (y:Value) (b:Int) (st':St) (w':World),RdS w' (XB st'.objs ρ Xc) ρ s y→RdD w' (XB st'.objs ρ Xc) ρ (.tup [s,.c (.t (.v (.int .i64 b)))]) (.tuple #[y,goInt b]):=fun s y b st' w' hs=>⟨_,rfl,rfl,fun j s' y' e1 e2=>by
  match j,e1,e2 with
  | 0,e1,e2=>simp at e1 e2;subst e1;subst e2;exact hs
  | 1,e1,e2=>simp at e1 e2;subst e1;subst e2;exact .inr ⟨.v _,rfl⟩
  | j+2,e1,e2=>simp at e1⟩
 rcases ent_find hc hkk hn he.1 he.2.1 w with⟨h1,h2⟩ | ⟨j,kj,vj,ej,h1,h2,h3,h4,h5,h6⟩
 ·have e1:mapGetD kk l (zeroT z)=zeroT z:=by unfold mapGetD;rw[h1]
  have e2:mapIdx kk l=(l.length:Int):=by unfold mapIdx;rw[h1];rfl
  have e3:mapEnt kk (zeroT z) l=mapPut kk (zeroT z) l:=by unfold mapEnt mapPut;rw[h1]
  rw[e1,e2,e3] at hk1
  obtain⟨p1,_⟩:=ent_put (kk:=kk) (tv:=zeroT z) (kv:=vk) (y:=z) he hn hkk z1 z2
  have hR:=h.setMap hob hmm h0 hg (p1 h1)
  obtain⟨z1',_⟩:=zeroT_ok (w:=setMap w g (es.push ⟨vk,z,clock⟩) (clock+1)) (X:=XB (st.objs.set mk (.mp false t' n (mapPut kk (zeroT z) l))) ρ Xc) hzok
  obtain⟨s,hs1,hk2⟩:=valK_ok (ρ:=ρ) z1' z2 hk1
  refine⟨_,_,_,_,?_,hR,hout s z l.length _ _ hs1,hk2⟩
  have hcl:clock=l.length:=by rw[he.2.2.2.1,he.1]
  unfold Instr.mapEntry
  simp only[Sem.run_bind,run_underlying hu,Result.andThen_ok,MapKept.run_getObj_map hg,hch,h2,hzr,MapKept.run_setObj_map _ hg]
  rw[hcl]
  rfl
 ·have e1:mapGetD kk l (zeroT z)=vj:=by unfold mapGetD;rw[h1];simp[List.getD_eq_getElem?_getD,h2,entVal]
  have e2:mapIdx kk l=(j:Int):=by unfold mapIdx;rw[h1];rfl
  have e3:mapEnt kk (zeroT z) l=l:=by unfold mapEnt;rw[h1]
  rw[e1,e2,e3] at hk1
  have hst:=key_stays (P:=P) hkk w
  have hjl:j<es.size:=(Array.getElem?_eq_some_iff.1 h3).1
  have hsame:∀i:Nat,(es.modify j fun e=>{ e with key:=vk })[i]?=es[i]?:=fun i=>by
   rw[Array.getElem?_modify]
   split
   ·rename_i hij
    subst hij
    rw[h3]
    simp only[Option.map_some]
    congr 1
    cases ej
    simp only at h4
    rw[h4]
   ·rfl
  have hE:=ent_same he hsame (by simp)
  have hR:=h.setMap hob hmm h0 hg hE
  have hval:=he.2.2.1 j kj vj ej h2 h3
  have hHas:Has st.objs ρ mk g:=⟨_,_,hob,rfl,hmm,.inl rfl⟩
  have hlt:mk<st.objs.length:=(List.getElem?_eq_some_iff.1 hob).1
  have hXX:∀b,XB (st.objs.set mk (.mp false t' n l)) ρ Xc b→XB st.objs ρ Xc b:=fun b hb=>by
   rcases hb with⟨q,o,v,g1,g2,g3,g4⟩ | hb
   ·by_cases hq:mk=q
    ·subst hq
     rw[List.getElem?_set_self hlt] at g1
     cases g1
     exact .inl ⟨_,_,v,hob,g2,g3,g4⟩
    ·rw[List.getElem?_set_ne hq] at g1
     exact .inl ⟨q,o,v,g1,g2,g3,g4⟩
   ·exact .inr hb
  have hval':Rd (setMap w g (es.modify j fun e=>{ e with key:=vk }) clock) (XB (st.objs.set mk (.mp false t' n l)) ρ Xc) vj ej.val:=
   hval.step (setMap_stp w g _ _) (fun b hb=>.inl ⟨_,hb▸hHas⟩) (fun b hb=>.inl (hXX b hb))
  obtain⟨s,hs1,hk2⟩:=valK_ok (ρ:=ρ) hval' h5 hk1
  refine⟨_,_,_,_,?_,hR,hout s ej.val j _ _ hs1,hk2⟩
  have hb:ej.born=j:=he.2.2.2.2 j ej h3
  unfold Instr.mapEntry
  simp only[Sem.run_bind,run_underlying hu,Result.andThen_ok,MapKept.run_getObj_map hg,hch,h6,h3,Option.map_some,Option.getD_some,h4,hst,hb,MapKept.run_setObj_map _ hg]
  rfl
theorem ent_setV{n clock i:Nat}{l:List T}{es:Array MapEntry}{t tv:T}{y:Value}(he:EntL w X n l es clock)(hi:l[i]?=some t)(hr:Rd w X tv y)(h1:OneV tv y):EntL w X n (l.set i (.agg [entKey t,tv])) (es.modify i fun e=>{ e with val:=y }) clock:=by
 obtain⟨q1,q2,q3,q4,q5⟩:=he
 have hil:i<l.length:=(List.getElem?_eq_some_iff.1 hi).1
 refine⟨by simp[q1],fun j u e e1 e2=>?_,fun j k v e e1 e2=>?_,by simp[q4],fun j e e2=>?_⟩
 ·rw[List.getElem?_set] at e1
  rw[Array.getElem?_modify] at e2
  split at e1
  ·rename_i hij
   subst hij
   rw[if_pos rfl] at e2
   cases e1
   obtain⟨e0,g2,rfl⟩:=Option.map_eq_some_iff.1 e2
   obtain⟨k,v,rfl,a2,_⟩:=q2 i t e0 hi g2
   exact⟨k,tv,rfl,a2,h1⟩
  ·rename_i hij
   rw[if_neg hij] at e2
   exact q2 j u e e1 e2
 ·rw[List.getElem?_set] at e1
  rw[Array.getElem?_modify] at e2
  split at e1
  ·rename_i hij
   subst hij
   rw[if_pos rfl] at e2
   cases e1
   obtain⟨e0,g2,rfl⟩:=Option.map_eq_some_iff.1 e2
   exact hr
  ·rename_i hij
   rw[if_neg hij] at e2
   exact q3 j k v e e1 e2
 ·rw[Array.getElem?_modify] at e2
  split at e2
  ·rename_i hij
   subst hij
   obtain⟨e0,g2,rfl⟩:=Option.map_eq_some_iff.1 e2
   exact q5 _ e0 g2
  ·exact q5 j e e2
theorem entStoreK_ok{t:TypeId}{m stamp v:D}{vm vs vv:Value}{k:St→Option R}(h:Rel w0 F Xc ρ0 ρ st a w)(hm:RdD w (XB st.objs ρ Xc) ρ m vm)(hst:RdD w (XB st.objs ρ Xc) ρ stamp vs)(hv:RdD w (XB st.objs ρ Xc) ρ v vv)
 (hk:entStoreK P st t m stamp v k=some r):∃st' w',(Instr.entryStore t vm vs vv).run P w=.ok () w'∧Rel w0 F Xc ρ0 ρ st' a w'∧k st'=some r:=by
 unfold entStoreK at hk
 split at hk
 case h_2=>cases hk
 rename_i kt e hu
 obtain⟨s,rfl,hk1⟩:=asI_ok hst hk
 clear hk
 split at hk1
 case h_2=>cases hk1
 rename_i mk cs hcs
 split at hk1
 case h_2=>cases hk1
 rename_i objs' cs' hfq
 obtain⟨hR,hl⟩:=frzL_ok h (dcells_ok hv hcs) hfq
 split at hk1
 case h_2=>cases hk1
 rename_i t' n l hob
 obtain⟨ts,hk2,t1,t2,t3⟩:=treesG_ok hl hk1
 split at hk2
 case h_2=>cases hk2
 rename_i tv htv
 obtain⟨l',hl',hk3⟩:=ob_some hk2
 have hlen:cs'.length=cs.length:=by
  have q1:=hl.1
  have q2:=(dcells_ok hv hcs).1
  omega
 obtain⟨r1,r2⟩:=mkV_ok hv hcs hlen t2 t3 htv
 rcases hm with hm | ⟨hm,_⟩
 ·cases hm
 have hmm:ρ mk=some vm:=hm
 obtain⟨vm',e1,h0,g,es,clock,rfl,hg,he,_⟩:=hR.objs mk _ hob
 rw[hmm] at e1
 cases e1
 unfold mapSetV at hl'
 split at hl'
 case isFalse=>cases hl'
 rename_i hs0
 split at hl'
 case h_2=>cases hl'
 rename_i tt htt
 cases hl'
 have hE:=ent_setV he htt r1 r2
 refine⟨_,_,?_,hR.setMap hob hmm h0 hg hE,hk3⟩
 have hil:s.toNat<es.size:=by rw[he.1];exact(List.getElem?_eq_some_iff.1 htt).1
 have hfind:es.findIdx? (fun e=>(e.born:Int)==s)=some s.toNat:=by
  rw[Array.findIdx?_eq_some_iff_getElem]
  have hb:∀(j:Nat) (hj:j<es.size),es[j].born=j:=fun j hj=>he.2.2.2.2 j _ (Array.getElem?_eq_getElem hj)
  refine⟨hil,?_,fun j hj=>?_⟩
  ·rw[hb _ hil];simp;omega
  ·rw[hb j (by omega)];simp;omega
 have hai:(asInt (.int .i64 s)).run P w=.ok s w:=rfl
 unfold Instr.entryStore
 simp only[Sem.run_bind,MapKept.run_getObj_map hg,Result.andThen_ok,hai,hfind,MapKept.run_setObj_map _ hg]
 rfl
end
@[irreducible] def findR(k:T)(l:List (List T)):Option Nat:=l.findIdx? fun m=>keyB k (m.headD (.agg []))
@[irreducible] def hasR(k:T)(l:List (List T)):Bool:=(findR k l).isSome
@[irreducible] def noneN{α:Type}(x:Option α):Option Unit:=match x with
 | none=>some ()
 | some _=>none
theorem noneN_some{α:Type}{x:Option α}{u:Unit}(h:noneN x=some u):x=none:=by
 unfold noneN at h
 split at h
 ·rfl
 ·cases h
section
variable {R:Type} (P:Program)
def lookR(st:St)(t:TypeId)(key:Nat)(ix:D)(ok:Bool)(k:D→Option R):Option R:=match P.underlying t with
 | some (.map kt e)=>match keyKd P kt,P.info? e with
  | some c,some i=>match i.zero with
   | some (.slice none 0 0)=>match rrAt st.objs 64 key with
    | some K=>match st.objs[K]? with
     | some (.rr none e1 _ _ l)=>if e1=c+1000000000∧ok=false then keyD c ix fun kk=>
      bif hasR kk l then ob (findR kk l) fun j=>k (.s (.c (.inn K j))) else k (.s (.c (.t (.v (.slice none 0 0)))))
      else none
     | _=>none
    | none=>none
   | _=>none
  | _,_=>none
 | _=>none
def lookupG(st:St)(t:TypeId)(x ix:D)(ok:Bool)(k:D→Option R):Option R:=match x with
 | .s (.c (.rk key))=>lookR P st t key ix ok k
 | _=>lookupK P st t x ix ok k
def mapUpdR(st:St)(t:TypeId)(mk:Nat)(key v:D)(k:St→Option R):Option R:=match P.underlying t with
 | some (.map kt _)=>match keyKd P kt with
  | some c=>match rrAt st.objs 64 mk with
   | some K=>match v with
    | .s (.c (.inn k3 i3))=>match st.objs[K]? with
     | some (.rr (some hi) e1 e2 n l)=>if e1=c+1000000000∧k3=K then keyD c key fun kk=>ob (findR kk l) fun j=>ob (eqN hi j) fun _=>ob (eqN hi i3) fun _=>k { st with objs:=st.objs.set K (.rr none e1 e2 n l) } else none
     | _=>none
    | .s (.c (.row q))=>match st.objs[K]? with
     | some (.rr none e1 e2 n l)=>match st.objs[q]? with
      | some (.row false e' n' es)=>match freshI st with
       | some F=>if e1=c+1000000000∧e'=e2∧n'=n then keyD c key fun kk=>ob (noneN (findR kk l)) fun _=>k { st with objs:=((st.objs.set F (.rr none e1 e2 n (l++[kk::es]))).set K (.fwd F)).set q .dead } else none
       | none=>none
      | _=>none
     | _=>none
    | _=>none
   | none=>none
  | none=>none
 | _=>none
def mapUpdG(st:St)(t:TypeId)(m key v:D)(k:St→Option R):Option R:=match m with
 | .s (.c (.rk mk))=>mapUpdR P st t mk key v k
 | _=>mapUpdK P st t m key v k
def makeMapR(st:St)(dst:Option Nat)(t:TypeId)(k:St→D→Option R):Option R:=match P.underlying t with
 | some (.map kt e)=>match keyKd P kt with
  | some c=>match P.underlying e with
   | some (.slice e2)=>match szO P e2 with
    | some n=>if 0<n∧n<1000000000 then newK st dst (.rr none (c+1000000000) e2 n []) fun st key=>k st (.s (.c (.rk key))) else none
    | none=>none
   | _=>none
  | none=>none
 | _=>none
end
section
variable {R:Type} {P:Program} {w0 w w':World} {F Xc X:Nat→Prop} {ρ0:Base} {ρ:Rho} {st:St} {a:Act} {r:R}
def zipE(l:List (List T))(es:List MapEntry):List T:=(l.zip es).map fun p=>.agg [p.1.headD (.agg []),.v p.2.val]
theorem findIdx_map{α β:Type}(f:α→β)(p:β→Bool):∀l:List α,(l.map f).findIdx? p=l.findIdx? fun x=>p (f x)
 | []=>rfl
 | x::l=>by simp only[List.map_cons,List.findIdx?_cons,findIdx_map f p l]
theorem zip_fst{α β:Type}:∀(l:List α) (m:List β),l.length≤m.length→(l.zip m).map (·.1)=l
 | [],_,_=>by simp
 | x::l,[],h=>by simp at h
 | x::l,y::m,h=>by simp only[List.zip_cons_cons,List.map_cons,zip_fst l m (by simpa using h)]
theorem find_zip(kk:T){l:List (List T)}{es:List MapEntry}(h:l.length≤es.length):mapFind kk (zipE l es)=findR kk l:=by
 unfold mapFind zipE findR
 rw[findIdx_map]
 have e:=findIdx_map (α:=List T×MapEntry) (fun p=>p.1) (fun m=>keyB kk (m.headD (.agg []))) (l.zip es)
 rw[zip_fst l es h] at e
 rw[e]
 rfl
theorem zip_get{c:Nat}{l:List (List T)}{es:Array MapEntry}(hl:es.size=l.length)(hs:∀(i:Nat) m en,l[i]?=some m→es[i]?=some en→∃k m',m=k::m'∧keyV c k=some en.key)(h1:∀(i:Nat) en,es[i]?=some en→en.val.oneCell'=true):
 ∀(i:Nat) t e,(zipE l es.toList)[i]?=some t→es[i]?=some e→∃k v,t=.agg [k,v]∧keyV c k=some e.key∧OneV v e.val:=by
 intro i t e e1 e2
 unfold zipE at e1
 rw[List.getElem?_map] at e1
 cases hz:(l.zip es.toList)[i]? with
 | none=>rw[hz] at e1;cases e1
 | some p=>
  rw[hz] at e1
  simp only[Option.map_some,Option.some.injEq] at e1
  subst e1
  obtain⟨z1,z2⟩:=List.getElem?_zip_eq_some.1 hz
  have z3:es[i]?=some p.2:=by simpa using z2
  rw[e2] at z3
  cases z3
  obtain⟨k,m',hm,hk⟩:=hs i p.1 _ z1 e2
  refine⟨k,_,by rw[hm];rfl,hk,.inr (h1 i _ e2)⟩
theorem zip_len{l:List (List T)}{es:Array MapEntry}(hl:es.size=l.length):es.size=(zipE l es.toList).length:=by unfold zipE;simp[hl]
theorem rk_map(h:Rel w0 F Xc ρ0 ρ st a w){key K:Nat}{v:Value}{hole:Option Nat}{e1 e2:TypeId}{n:Nat}{l:List (List T)}(hK:rrAt st.objs 64 key=some K)(hc:RdC w (XB st.objs ρ Xc) ρ (.rk key) v)(hob:st.objs[K]?=some (.rr hole e1 e2 n l)):
 ∃vs',ρ K=some (.tuple vs')∧vs'[0]?=some v∧okR w (XB st.objs ρ Xc) hole e1 e2 n l (.tuple vs'):=by
 obtain⟨vs,q1,q2⟩:=hc
 obtain⟨hole',e',e2',n',l',vs',f1,f2,f3,f4⟩:=rrAt_ok h hK q1
 rw[hob] at f1
 cases f1
 exact⟨vs',f2,f3.trans q2,f4⟩
theorem lookR_ok{t:TypeId}{key:Nat}{ix:D}{vx vi:Value}{ok:Bool}{k:D→Option R}(h:Rel w0 F Xc ρ0 ρ st a w)(hx:RdD w (XB st.objs ρ Xc) ρ (.s (.c (.rk key))) vx)(hi:RdD w (XB st.objs ρ Xc) ρ ix vi)(hk:lookR P st t key ix ok k=some r):
 ∃y d,(Instr.lookup t vx vi ok).run P w=.ok y w∧RdD w (XB st.objs ρ Xc) ρ d y∧k d=some r:=by
 unfold lookR at hk
 split at hk
 case h_2=>cases hk
 rename_i kt e hu
 split at hk
 case h_2=>cases hk
 rename_i c i hc hi0
 split at hk
 case h_2=>cases hk
 rename_i hz
 split at hk
 case h_2=>cases hk
 rename_i K hK
 split at hk
 case h_2=>cases hk
 rename_i e1 e2 n l hob
 split at hk
 case isFalse=>cases hk
 rename_i hcond
 obtain⟨he1,rfl⟩:=hcond
 obtain⟨kk,hkk,hk3⟩:=keyD_ok hi hk
 rcases hx with hx | ⟨hx,_⟩
 ·cases hx
 obtain⟨vs',q1,q2,h0,ho,hs,xs,hvs,g2,g3,g4,g5,g6⟩:=rk_map h hK hx hob
 cases hvs
 have:ho=vx:=by simpa using q2
 subst this
 rcases g2 with⟨g2,_⟩ | ⟨_,g,es,clock,rfl,hg,hl,rfl,hkeys,_⟩
 ·exact(Nat.not_lt.2 (he1▸Nat.le_add_left _ _) g2).elim
 have hcc:e1-1000000000=c:=by rw[he1];exact Nat.add_sub_cancel _ _
 rw[hcc] at hkeys
 have hone:∀(i:Nat) en,es[i]?=some en→en.val.oneCell'=true:=fun i en hen=>by
  have hlt:i<es.size:=(Array.getElem?_eq_some_iff.1 hen).1
  have hsi:hs[i]?=some hs[i]:=List.getElem?_eq_getElem (by omega)
  exact(g4 i en.val _ (by rw[List.getElem?_map];simp[hen]) hsi).1
 have hzr:=run_zeroValue (P:=P) hi0 hz w
 have hch:=fun em=>key_check hc hkk em w
 have hle:l.length≤es.toList.length:=by simp[hl]
 have hfz:=find_zip kk hle
 rcases ent_find (n:=c+1000000000) hc hkk rfl (zip_len hl) (by rw[Nat.add_sub_cancel];exact zip_get hl hkeys hone) w with⟨h1,h2⟩ | ⟨j,kj,vj,ej,h1,h2,h3,h4,h5,h6⟩
 ·rw[hfz] at h1
  have hb:hasR kk l=false:=by unfold hasR;rw[h1];rfl
  rw[hb] at hk3
  refine⟨.slice none 0 0,_,?_,.val rfl,hk3⟩
  unfold Instr.lookup
  simp only[Sem.run_bind,run_underlying hu,Result.andThen_ok,MapKept.run_getObj_map hg,Sem.run_pure,hch,h2,hzr]
  rfl
 ·rw[hfz] at h1
  have hb:hasR kk l=true:=by unfold hasR;rw[h1];rfl
  rw[hb] at hk3
  simp only[cond_true] at hk3
  obtain⟨j',hj',hk4⟩:=ob_some hk3
  rw[h1] at hj'
  cases hj'
  have hlt:j<es.size:=(Array.getElem?_eq_some_iff.1 h3).1
  have hsj:hs[j]?=some hs[j]:=List.getElem?_eq_getElem (by omega)
  have hxj:(es.toList.map (·.val))[j]?=some ej.val:=by rw[List.getElem?_map];simp[h3]
  obtain⟨o1,o2⟩:=g4 j _ _ hxj hsj
  refine⟨ej.val,.s (.c (.inn K j)),?_,.one (c:=.inn K j) ⟨_,q1,?_⟩ o1,hk4⟩
  ·unfold Instr.lookup
   simp only[Sem.run_bind,run_underlying hu,Result.andThen_ok,MapKept.run_getObj_map hg,Sem.run_pure,hch,h6]
   rfl
  ·simp only[List.getElem?_toArray,List.getElem?_cons_succ]
   rw[hsj,o2 (by simp)]
theorem lookupG_ok{t:TypeId}{x ix:D}{vx vi:Value}{ok:Bool}{k:D→Option R}(h:Rel w0 F Xc ρ0 ρ st a w)(hx:RdD w (XB st.objs ρ Xc) ρ x vx)(hi:RdD w (XB st.objs ρ Xc) ρ ix vi)(hk:lookupG P st t x ix ok k=some r):
 ∃y d,(Instr.lookup t vx vi ok).run P w=.ok y w∧RdD w (XB st.objs ρ Xc) ρ d y∧k d=some r:=by
 unfold lookupG at hk
 split at hk
 ·exact lookR_ok h hx hi hk
 ·exact lookupK_ok h hx hi hk
theorem makeMapR_ok{dst:Option Nat}{t:TypeId}{k:St→D→Option R}(h:Rel w0 F Xc ρ0 ρ st a w)(hk:makeMapR P st dst t k=some r):
 ∃y w' ρ' st' d,(Instr.makeMap t none).run P w=.ok y w'∧Rel w0 F Xc ρ0 ρ' st' a w'∧RdD w' (XB st'.objs ρ' Xc) ρ' d y∧k st' d=some r:=by
 unfold makeMapR at hk
 split at hk
 case h_2=>cases hk
 rename_i kt e hu
 split at hk
 case h_2=>cases hk
 rename_i c hc
 split at hk
 case h_2=>cases hk
 rename_i e2 he2
 split at hk
 case h_2=>cases hk
 rename_i n hn
 split at hk
 case isFalse=>cases hk
 rename_i hpos
 obtain⟨d,_,hf,hk1⟩:=newK_ok hk
 have hbig:(1000000000:Nat)≤c+1000000000:=Nat.le_add_left _ _
 refine⟨_,_,_,_,_,run_makeMap t w,h.newG (hv:=.tuple #[.map (some w.heap.size)]) (o:=.rr none (c+1000000000) e2 n []) hf (Stp.alloc (fun _=>False) w (.map #[] 0)) (fun b hb=>?_)
  (fun X' hX=>⟨hpos,.map (some w.heap.size),[],[],rfl,.inr ⟨hbig,w.heap.size,#[],0,rfl,heap_alloc_new w _,rfl,rfl,fun i m en h1 _=>by simp at h1,rfl,fun i en h1=>by simp at h1⟩,rfl,fun i y z h1 _=>by simp at h1,fun i m y h1 _=>by simp at h1,fun i j y z b q1 q2 _ _=>?_⟩) (Nat.le_add_right _ _) (by simp),
  .one (c:=.rk (st.np+d)) ⟨#[.map (some w.heap.size)],by simp[upd],rfl⟩ rfl,hk1⟩
 ·rcases hb with hb | ⟨vs,hvs,y,hy,hyb⟩
  ·cases hb
  ·cases hvs
   simp only[List.mem_singleton] at hy
   subst hy
   cases hyb
   exact Nat.le_refl _
 ·have e1:i=0:=by have:=(List.getElem?_eq_some_iff.1 q1).1;simpa using this
  have e2:j=0:=by have:=(List.getElem?_eq_some_iff.1 q2).1;simpa using this
  rw[e1,e2]
theorem okR.map{X:Nat→Prop}{hole:Option Nat}{c:Nat}{e1 e2:TypeId}{n:Nat}{l:List (List T)}{vs:Array Value}{v:Value}(h:okR w X hole e1 e2 n l (.tuple vs))(hv:vs[0]?=some v)(he:e1=c+1000000000):
 ∃(hs:List Value) (g:Nat) (es:Array MapEntry) (clock:Nat),vs=(v::hs).toArray∧v=.map (some g)∧w.heap[g]?=some (.map es clock)∧es.size=l.length∧hs.length=l.length ∧
  (∀(i:Nat) m en,l[i]?=some m→es[i]?=some en→∃k m',m=k::m'∧keyV c k=some en.key)∧(∀(i:Nat) en,es[i]?=some en→en.val.oneCell'=true)∧clock=es.size∧(∀(i:Nat) en,es[i]?=some en→en.born=i) ∧
  (∀(i:Nat) en z,es[i]?=some en→hs[i]?=some z→hole≠some i→en.val=z) ∧
  (∀(i:Nat) m y,l[i]?=some m→hs[i]?=some y→Uni n (rwR e1 m)∧∃ys,rowAt w e2 n y (rwR e1 m).length ys∧RdT w X (flat (rwR e1 m)) ys) ∧
  ∀(i j:Nat) y z b,(v::hs)[i]?=some y→(v::hs)[j]?=some z→blk y=some b→blk z=some b→i=j:=by
 obtain⟨h0,ho,hs,xs,hvs,g2,g3,g4,g5,g6⟩:=h
 cases hvs
 have:ho=v:=by simpa using hv
 subst this
 rcases g2 with⟨g2,_⟩ | ⟨_,g,es,clock,rfl,hg,hl,rfl,hkeys,hcl,hborn⟩
 ·exact(Nat.not_lt.2 (he▸Nat.le_add_left _ _) g2).elim
 have hcc:e1-1000000000=c:=by rw[he];exact Nat.add_sub_cancel _ _
 rw[hcc] at hkeys
 have hx:∀(i:Nat) en,es[i]?=some en→(es.toList.map (·.val))[i]?=some en.val:=fun i en hen=>by rw[List.getElem?_map];simp[hen]
 refine⟨hs,g,es,clock,rfl,rfl,hg,hl,g3,hkeys,fun i en hen=>?_,hcl,hborn,fun i en z hen hz hne=>(g4 i en.val z (hx i en hen) hz).2 hne,g5,g6⟩
 have hlt:i<es.size:=(Array.getElem?_eq_some_iff.1 hen).1
 exact(g4 i en.val _ (hx i en hen) (List.getElem?_eq_getElem (show i<hs.length by omega))).1
theorem mapUpdR_ok{t:TypeId}{mk:Nat}{key v:D}{vm vk vv:Value}{k:St→Option R}(h:Rel w0 F Xc ρ0 ρ st a w)(hm:RdD w (XB st.objs ρ Xc) ρ (.s (.c (.rk mk))) vm)(hkey:RdD w (XB st.objs ρ Xc) ρ key vk)(hv:RdD w (XB st.objs ρ Xc) ρ v vv)
 (hk:mapUpdR P st t mk key v k=some r):∃ρ' st' w',(Instr.mapUpdate t vm vk vv).run P w=.ok () w'∧Rel w0 F Xc ρ0 ρ' st' a w'∧k st'=some r:=by
 unfold mapUpdR at hk
 split at hk
 case h_2=>cases hk
 rename_i kt e hu
 split at hk
 case h_2=>cases hk
 rename_i c hc
 split at hk
 case h_2=>cases hk
 rename_i K hK
 rcases hm with hm | ⟨hm,_⟩
 ·cases hm
 split at hk
 case h_3=>cases hk
 case h_1=>
  rename_i k3 i3
  split at hk
  case h_2=>cases hk
  rename_i hi e1 e2 n l hob
  split at hk
  case isFalse=>cases hk
  rename_i hcond
  obtain⟨he1,rfl⟩:=hcond
  obtain⟨kk,hkk,hk1⟩:=keyD_ok hkey hk
  obtain⟨j,hj,hk2⟩:=ob_some hk1
  obtain⟨_,q1,hk3⟩:=ob_some hk2
  obtain⟨_,q2,hk4⟩:=ob_some hk3
  clear hk hk1 hk2 hk3
  have q1:=eqN_some q1
  have q2:=eqN_some q2
  subst q1;subst q2
  obtain⟨vs',p1,p2,hR⟩:=rk_map h hK hm hob
  obtain⟨hs,g,es,clock,rfl,rfl,hg,hl,hhs,hkeys,hone,hcl,hborn,hval,hrow,hsep⟩:=hR.map p2 he1
  have h0:=hR.1
  rcases hv with hv | ⟨⟨us,u1,u2⟩,hv1⟩
  ·cases hv
  rw[p1] at u1
  cases u1
  have hsi:hs[hi]?=some vv:=by simpa using u2
  have hle:l.length≤es.toList.length:=by simp[hl]
  have hfz:=find_zip kk hle
  rcases run_mapUpdate (c:=c) hu hc hkk rfl hg (zip_len hl) (by rw[Nat.add_sub_cancel];exact zip_get hl hkeys hone) vv with⟨z1,_⟩ | ⟨i,z1,z2⟩
  ·rw[hfz,hj] at z1;cases z1
  rw[hfz,hj] at z1
  cases z1
  refine⟨ρ,_,_,z2,?_,hk4⟩
  have hlt:k3<st.objs.length:=(List.getElem?_eq_some_iff.1 hob).1
  have hHas:Has st.objs ρ k3 g:=⟨_,_,hob,rfl,p1,.inr ⟨_,rfl,.map (some g),by simp,rfl⟩⟩
  have hil:hi<es.size:=by have:=(List.getElem?_eq_some_iff.1 hsi).1;omega
  have hkey':∀en,es[hi]?=some en→en.key=vk:=fun en hen=>by
   have hll:hi<l.length:=by omega
   obtain⟨k',m',hm',hk'⟩:=hkeys hi _ en (List.getElem?_eq_getElem hll) hen
   have hfi:findR kk l=some hi:=hj
   unfold findR at hfi
   rw[List.findIdx?_eq_some_iff_getElem] at hfi
   obtain⟨_,hb,_⟩:=hfi
   rw[hm'] at hb
   exact((keyB_iff hkk hk').1 hb).symm
  have hstp:=setMap_stp w g (es.modify hi fun e=>{ e with key:=vk,val:=vv }) clock
  refine h.change _ ρ (·=k3) hstp (fun jj hj=>⟨by rw[List.getElem?_set_ne (fun e=>hj e.symm)],rfl⟩) (.refl _) (fun b hb=>⟨k3,rfl,hb▸hHas⟩)
   (fun jj b hj hb=>?_) (fun jj j' b hj hj' _ _=>hj.trans hj'.symm) (fun hX jj o' hj ho2=>?_) (fun _ _=>rfl)
  ·subst hj
   obtain⟨o',v',_,_,q3,q4⟩:=hb
   exact .inl ⟨_,rfl,_,v',hob,rfl,q3,q4⟩
  ·subst hj
   rw[List.getElem?_set_self hlt] at ho2
   cases ho2
   have hgl:g<w.heap.size:=(Array.getElem?_eq_some_iff.1 hg).1
   have hoff:∀(j:Nat) y,(Value.map (some g)::hs)[j+1]?=some y→blk y≠some g:=fun j y hj hb=>by
    have:=hsep 0 (j+1) (.map (some g)) y g rfl hj rfl hb
    omega
   refine⟨_,p1,h0,.map (some g),hs,(es.modify hi fun e=>{ e with key:=vk,val:=vv }).toList.map (·.val),rfl,.inr ⟨he1▸Nat.le_add_left _ _,g,_,clock,rfl,by simp[Eng.setMap,hgl],by simpa using hl,rfl,fun i m en a1 a2=>?_,by simpa using hcl,fun i en a2=>?_⟩,hhs,fun i y z a1 a2=>?_,fun i m y a1 a2=>?_,hsep⟩
   ·have hcc:e1-1000000000=c:=by rw[he1];exact Nat.add_sub_cancel _ _
    rw[hcc]
    rw[Array.getElem?_modify] at a2
    split at a2
    ·rename_i hij
     subst hij
     obtain⟨e0,b1,rfl⟩:=Option.map_eq_some_iff.1 a2
     have:=hkeys hi m e0 a1 b1
     rw[hkey' e0 b1] at this
     exact this
    ·exact hkeys i m en a1 a2
   ·rw[Array.getElem?_modify] at a2
    split at a2
    ·rename_i hij
     subst hij
     obtain⟨e0,b1,rfl⟩:=Option.map_eq_some_iff.1 a2
     exact hborn hi e0 b1
    ·exact hborn i en a2
   ·rw[List.getElem?_map] at a1
    simp only[Array.getElem?_toList,Array.getElem?_modify] at a1
    by_cases hij:hi=i
    ·subst hij
     rw[if_pos rfl] at a1
     have he:es[hi]?=some es[hi]:=Array.getElem?_eq_getElem hil
     rw[he] at a1
     simp only[Option.map_some,Option.some.injEq] at a1
     rw[hsi] at a2
     cases a2
     subst a1
     exact⟨hv1,fun _=>rfl⟩
    ·rw[if_neg hij] at a1
     obtain⟨en,b1,rfl⟩:=Option.map_eq_some_iff.1 a1
     exact⟨hone i en b1,fun _=>hval i en z b1 a2 (fun e=>hij (by cases e;rfl))⟩
   ·obtain⟨f1,ys,f2,f3⟩:=hrow i m y a1 a2
    exact⟨f1,ys,f2.step hstp (fun b hb hy=>hoff i y (by simpa using a2) (by rw[hb,hy])),f3.step hstp (fun b hb=>.inl ⟨_,hb▸hHas⟩) hX⟩
 case h_2=>
  rename_i q
  split at hk
  case h_2=>cases hk
  rename_i e1 e2 n l hob
  split at hk
  case h_2=>cases hk
  rename_i e' n' es0 hoq
  split at hk
  case h_2=>cases hk
  rename_i FF hF
  split at hk
  case isFalse=>cases hk
  rename_i hcond
  obtain⟨he1,rfl,rfl⟩:=hcond
  obtain⟨kk,hkk,hk1⟩:=keyD_ok hkey hk
  obtain⟨_,hj,hk2⟩:=ob_some hk1
  clear hk hk1
  have hj:=noneN_some hj
  obtain⟨vs',p1,p2,hR⟩:=rk_map h hK hm hob
  obtain⟨hs,g,es,clock,rfl,rfl,hg,hl,hhs,hkeys,hone,hcl,hborn,hval,hrow,hsep⟩:=hR.map p2 he1
  have h0:=hR.1
  rcases hv with hv | ⟨hv,hv1⟩
  ·cases hv
  have hvq:ρ q=some vv:=hv
  obtain⟨vq,u1,hq0,hqu,⟨xq,hqr,hqt⟩,_⟩:=h.objs q _ hoq
  rw[hvq] at u1
  cases u1
  have hle:l.length≤es.toList.length:=by simp[hl]
  have hfz:=find_zip kk hle
  rcases run_mapUpdate (c:=c) hu hc hkk rfl hg (zip_len hl) (by rw[Nat.add_sub_cancel];exact zip_get hl hkeys hone) vv with⟨_,z2⟩ | ⟨i,z1,_⟩
  case inr=>rw[hfz,hj] at z1;cases z1
  obtain⟨hFn,hFf⟩:=freshI_some hF
  have hFlt:FF<st.objs.length:=(List.getElem?_eq_some_iff.1 hFf).1
  have hKlt:K<st.objs.length:=(List.getElem?_eq_some_iff.1 hob).1
  have hqlt:q<st.objs.length:=(List.getElem?_eq_some_iff.1 hoq).1
  have hFK:FF≠K:=fun e=>by rw[e,hob] at hFf;cases hFf
  have hFq:FF≠q:=fun e=>by rw[e,hoq] at hFf;cases hFf
  have hKq:K≠q:=fun e=>by rw[e,hoq] at hob;cases hob
  have hnone:ρ FF=none:=h.objs _ _ hFf
  have hHas:∀y b,y∈(Value.map (some g)::hs)→blk y=some b→Has st.objs ρ K b:=fun y b hy hb=>⟨_,_,hob,rfl,p1,.inr ⟨_,rfl,y,by simpa using hy,hb⟩⟩
  have hHasq:∀b,blk vv=some b→Has st.objs ρ q b:=fun b hb=>⟨_,_,hoq,rfl,hvq,.inl hb⟩
  have hHg:Has st.objs ρ K g:=hHas (.map (some g)) g (by simp) rfl
  have hstp:=setMap_stp w g (es.push ⟨vk,vv,clock⟩) (clock+1)
  have o1:(((st.objs.set FF (.rr none e1 e' n' (l++[kk::es0]))).set K (.fwd FF)).set q .dead)[FF]?=some (.rr none e1 e' n' (l++[kk::es0])):=by
   rw[List.getElem?_set_ne (fun e=>hFq e.symm),List.getElem?_set_ne (fun e=>hFK e.symm),List.getElem?_set_self hFlt]
  have o2:(((st.objs.set FF (.rr none e1 e' n' (l++[kk::es0]))).set K (.fwd FF)).set q .dead)[K]?=some (.fwd FF):=by
   rw[List.getElem?_set_ne (fun e=>hKq e.symm),List.getElem?_set_self (by simpa using hKlt)]
  have o3:(((st.objs.set FF (.rr none e1 e' n' (l++[kk::es0]))).set K (.fwd FF)).set q .dead)[q]?=some .dead:=by
   rw[List.getElem?_set_self (by simpa using hqlt)]
  refine⟨upd ρ FF (.tuple (Value.map (some g)::(hs++[vv])).toArray),_,_,z2,?_,hk2⟩
  have hρ:Rle ρ (upd ρ FF (.tuple (Value.map (some g)::(hs++[vv])).toArray)):=fun j u hj=>by
   unfold upd
   split
   ·rename_i e;subst e;rw[hnone] at hj;cases hj
   ·exact hj
  have hin:∀y,y∈(Value.map (some g)::(hs++[vv]))→y∈(Value.map (some g)::hs)∨y=vv:=fun y hy=>by
   simp only[List.mem_cons,List.mem_append,List.not_mem_nil,or_false] at hy ⊢
   rcases hy with hy | hy | hy
   ·exact .inl (.inl hy)
   ·exact .inl (.inr hy)
   ·exact .inr hy
  have hnew:∀j b,(j=FF∨j=K∨j=q)→Has (((st.objs.set FF (.rr none e1 e' n' (l++[kk::es0]))).set K (.fwd FF)).set q .dead) (upd ρ FF (.tuple (Value.map (some g)::(hs++[vv])).toArray)) j b→j=FF∧(Has st.objs ρ K b∨Has st.objs ρ q b):=by
   intro j b hj hh
   obtain⟨o',u',s1,s2,s3,s4⟩:=hh
   rcases hj with rfl | rfl | rfl
   ·refine⟨rfl,?_⟩
    simp only[upd,if_true,Option.some.injEq] at s3
    subst s3
    rcases s4 with s4 | ⟨ws,hws,y,hy1,hy2⟩
    ·cases s4
    ·cases hws
     rcases hin y hy1 with hy | rfl
     ·exact .inl (hHas y b hy hy2)
     ·exact .inr (hHasq b hy2)
   ·rw[o2] at s1;cases s1;cases s2
   ·rw[o3] at s1;cases s1;cases s2
  refine h.change _ _ (fun j=>j=FF∨j=K∨j=q) hstp (fun j hj=>⟨?_,by unfold upd;rw[if_neg (fun e=>hj (.inl e))]⟩) hρ (fun b hb=>⟨K,.inr (.inl rfl),hb▸hHg⟩)
   (fun j b hj hh=>?_) (fun j j' b hj hj' hh hh'=>(hnew j b hj hh).1.trans (hnew j' b hj' hh').1.symm) (fun hX j o' hj ho'=>?_) (fun j hj=>by unfold upd;rw[if_neg (by have:=hFn;omega)])
  ·rw[List.getElem?_set_ne (fun e=>hj (.inr (.inr e.symm))),List.getElem?_set_ne (fun e=>hj (.inr (.inl e.symm))),List.getElem?_set_ne (fun e=>hj (.inl e.symm))]
  ·rcases(hnew j b hj hh).2 with hb | hb
   ·exact .inl ⟨K,.inr (.inl rfl),hb⟩
   ·exact .inl ⟨q,.inr (.inr rfl),hb⟩
  ·have hYX:∀b,b=g→XB st.objs ρ Xc b:=fun b hb=>.inl ⟨K,hb▸hHg⟩
   rcases hj with rfl | rfl | rfl
   ·rw[o1] at ho'
    cases ho'
    have hgl:g<w.heap.size:=(Array.getElem?_eq_some_iff.1 hg).1
    have hcc:e1-1000000000=c:=by rw[he1];exact Nat.add_sub_cancel _ _
    have hbig:1000000000≤e1:=he1▸Nat.le_add_left _ _
    have hoff:∀y,y∈hs→blk y≠some g:=fun y hy hb=>by
     obtain⟨i,hi,rfl⟩:=List.getElem_of_mem hy
     have:=hsep 0 (i+1) (.map (some g)) _ g rfl (by simp[List.getElem?_eq_getElem hi]) rfl hb
     omega
    have hoffq:blk vv≠some g:=fun hb=>hKq (h.sep K q g hHg (hHasq g hb))
    refine⟨_,by simp only[upd,if_true],h0,.map (some g),hs++[vv],(es.push ⟨vk,vv,clock⟩).toList.map (·.val),rfl,.inr ⟨hbig,g,_,clock+1,rfl,by simp[Eng.setMap,hgl],by simp[hl],rfl,fun i m en a1 a2=>?_,by simp[hcl],fun i en a2=>?_⟩,by simp[hhs],fun i y z a1 a2=>?_,fun i m y a1 a2=>?_,fun i j y z b a1 a2 a3 a4=>?_⟩
    ·rw[hcc]
     rw[Array.getElem?_push] at a2
     rw[List.getElem?_append] at a1
     split at a1
     ·rename_i hlt
      rw[if_neg (by omega)] at a2
      exact hkeys i m en a1 a2
     ·have hi:i=l.length:=by
       have:=(List.getElem?_eq_some_iff.1 a1).1
       simp at this;omega
      subst hi
      rw[if_pos hl.symm] at a2
      cases a2
      simp at a1
      exact⟨kk,es0,a1.symm,hkk⟩
    ·rw[Array.getElem?_push] at a2
     split at a2
     ·rename_i hi
      cases a2
      show clock=i
      omega
     ·exact hborn i en a2
    ·simp only[Array.toList_push,List.map_append,List.map_cons,List.map_nil] at a1
     rw[List.getElem?_append] at a1 a2
     simp only[List.length_map,Array.length_toList] at a1
     by_cases hlt:i<es.size
     ·rw[if_pos hlt] at a1
      rw[if_pos (by omega)] at a2
      rw[List.getElem?_map] at a1
      obtain⟨en,b1,rfl⟩:=Option.map_eq_some_iff.1 a1
      have b1':es[i]?=some en:=by simpa using b1
      exact⟨hone i en b1',fun _=>hval i en z b1' a2 (by simp)⟩
     ·rw[if_neg hlt] at a1
      rw[if_neg (by omega)] at a2
      have hi:i-es.size=0:=by
       have:=(List.getElem?_eq_some_iff.1 a1).1
       simp at this;omega
      have hi2:i-hs.length=0:=by omega
      rw[hi] at a1
      rw[hi2] at a2
      simp at a1 a2
      subst a1;subst a2
      exact⟨hv1,fun _=>rfl⟩
    ·rw[List.getElem?_append] at a1 a2
     by_cases hlt:i<l.length
     ·rw[if_pos hlt] at a1
      rw[if_pos (by omega)] at a2
      obtain⟨f1,ys,f2,f3⟩:=hrow i m y a1 a2
      exact⟨f1,ys,f2.step hstp (fun b hb hy=>hoff y (List.mem_of_getElem? a2) (by rw[hb,hy])),f3.step hstp hYX hX⟩
     ·rw[if_neg hlt] at a1
      rw[if_neg (by omega)] at a2
      have hi:i-l.length=0:=by
       have:=(List.getElem?_eq_some_iff.1 a1).1
       simp at this;omega
      have hi2:i-hs.length=0:=by omega
      rw[hi] at a1
      rw[hi2] at a2
      simp at a1 a2
      subst a1;subst a2
      rw[rwR_map hbig]
      exact⟨hqu,xq,hqr.step hstp (fun b hb hy=>hoffq (by rw[hb,hy])),hqt.step hstp hYX hX⟩
    ·-- blocks are apart
     have hmix:∀(i:Nat) y,(Value.map (some g)::(hs++[vv]))[i]?=some y→(i<hs.length+1∧(Value.map (some g)::hs)[i]?=some y)∨(i=hs.length+1∧y=vv):=fun i y hy=>by
      cases i with
      | zero=>exact .inl ⟨by omega,hy⟩
      | succ i=>
       simp only[List.getElem?_cons_succ,List.getElem?_append] at hy ⊢
       split at hy
       ·rename_i hlt
        exact .inl ⟨by omega,hy⟩
       ·have hi2:i-hs.length=0:=by
         have:=(List.getElem?_eq_some_iff.1 hy).1
         simp at this;omega
        rw[hi2] at hy
        simp at hy
        exact .inr ⟨by omega,hy.symm⟩
     rcases hmix i y a1 with⟨b1,b2⟩ | ⟨b1,b2⟩ <;> rcases hmix j z a2 with⟨c1,c2⟩ | ⟨c1,c2⟩
     ·exact hsep i j y z b b2 c2 a3 a4
     ·subst c2
      exact(hKq (h.sep K q b (hHas y b (List.mem_of_getElem? b2) a3) (hHasq b a4))).elim
     ·subst b2
      exact(hKq (h.sep K q b (hHas z b (List.mem_of_getElem? c2) a4) (hHasq b a3))).elim
     ·omega
   ·rw[o2] at ho'
    cases ho'
    refine⟨.tuple (Value.map (some g)::hs).toArray,hρ _ _ p1,(Value.map (some g)::hs).toArray,(Value.map (some g)::(hs++[vv])).toArray,rfl,by simp[upd],by simp⟩
   ·rw[o3] at ho'
    cases ho'
    trivial
theorem mapUpdG_ok{t:TypeId}{m key v:D}{vm vk vv:Value}{k:St→Option R}(h:Rel w0 F Xc ρ0 ρ st a w)(hm:RdD w (XB st.objs ρ Xc) ρ m vm)(hkey:RdD w (XB st.objs ρ Xc) ρ key vk)(hv:RdD w (XB st.objs ρ Xc) ρ v vv)
 (hk:mapUpdG P st t m key v k=some r):∃ρ' st' w',(Instr.mapUpdate t vm vk vv).run P w=.ok () w'∧Rel w0 F Xc ρ0 ρ' st' a w'∧k st'=some r:=by
 unfold mapUpdG at hk
 split at hk
 ·exact mapUpdR_ok h hm hkey hv hk
 ·obtain⟨st',w',q⟩:=mapUpdK_ok h hm hkey hv hk
  exact⟨ρ,st',w',q⟩
end
section
variable {R:Type} {P:Program} {w0 w w':World} {F Xc X:Nat→Prop} {ρ0:Base} {ρ:Rho} {st:St} {a:Act} {r:R}
theorem sliceArrK_ok{t:TypeId}{x:D}{vx:Value}{k:St→D→Option R}(h:Rel w0 F Xc ρ0 ρ st a w)(hx:RdD w (XB st.objs ρ Xc) ρ x vx)(hk:sliceArrK P st t x k=some r):
 ∃y st' d,(Instr.sliceAt t vx none none none).run P w=.ok y w∧Rel w0 F Xc ρ0 ρ st' a w∧RdD w (XB st'.objs ρ Xc) ρ d y∧k st' d=some r:=by
 unfold sliceArrK at hk
 split at hk
 case h_2=>cases hk
 rename_i n e hu
 split at hk
 case h_2=>cases hk
 rename_i m tys key hm hty
 split at hk
 case h_2=>cases hk
 rename_i l hob
 split at hk
 case isFalse=>cases hk
 rename_i hcond
 obtain⟨hlen,hpos,hmax⟩:=hcond
 obtain⟨hv,f1,g,ys,ty,f2,f3,f0,f4⟩:=h.objs key _ hob
 have hk9:=treesG_ok f4 hk
 obtain⟨ts,hk1,t1,t2,t3⟩:=hk9
 rcases hx with hx | ⟨⟨hv',q1,ba,q2,q3⟩,_⟩
 ·cases hx
 rw[f1] at q1
 cases q1
 rw[f2] at q2
 simp only[baseA,Option.some.injEq] at q2
 subst q2
 have hadd:(⟨g,0,none⟩:Addr).add 0=⟨g,0,none⟩:=by unfold Addr.add;simp
 rw[hadd] at q3
 subst q3
 have hlt:key<st.objs.length:=(List.getElem?_eq_some_iff.1 hob).1
 have hblk:blk hv=some g:=by rw[f2];rfl
 have hHas:Has st.objs ρ key g:=⟨_,hv,hob,rfl,f1,.inl hblk⟩
 have hnl:∀b,¬Has (st.objs.set key (.fbox (ts.map .t))) ρ key b:=fun b ⟨o,v,g1,g2,_,_⟩=>by
  rw[List.getElem?_set_self hlt] at g1
  cases g1
  cases g2
 have hXX:∀b,XB (st.objs.set key (.fbox (ts.map .t))) ρ Xc b→XB st.objs ρ Xc b:=fun b hb=>by
  rcases hb with⟨q,hq⟩ | hb
  ·by_cases hqk:q=key
   ·subst hqk;exact(hnl b hq).elim
   ·obtain⟨o,v,g1,g2,g3,g4⟩:=hq
    rw[List.getElem?_set_ne (Ne.symm hqk)] at g1
    exact .inl ⟨q,o,v,g1,g2,g3,g4⟩
  ·exact .inr hb
 have hng:¬XB (st.objs.set key (.fbox (ts.map .t))) ρ Xc g:=fun hb=>by
  rcases hb with⟨q,hq⟩ | hb
  ·by_cases hqk:q=key
   ·subst hqk;exact hnl g hq
   ·obtain⟨o,v,g1,g2,g3,g4⟩:=hq
    rw[List.getElem?_set_ne (Ne.symm hqk)] at g1
    exact hqk (h.sep q key g ⟨o,v,g1,g2,g3,g4⟩ hHas)
  ·exact h.xc g hHas.mut hb
 have hts:RdT w (XB (st.objs.set key (.fbox (ts.map .t))) ρ Xc) ts ys.toList:=⟨t2.1,fun i t y e1 e2=>⟨(t2.2 i t y e1 e2).1.weak hXX,(t2.2 i t y e1 e2).2⟩⟩
 have hR:Rel w0 F Xc ρ0 ρ { st with objs:=st.objs.set key (.fbox (ts.map .t)) } a w:=by
  refine h.change (Y:=fun _=>False) _ ρ (·=key) (.refl _ w) (fun j hj=>⟨by rw[List.getElem?_set_ne (fun e=>hj e.symm)],rfl⟩) (.refl _) (fun b hb=>hb.elim)
   (fun j b hj hb=>by subst hj;exact(hnl b hb).elim) (fun j j' b hj hj' _ _=>hj.trans hj'.symm) (fun hX j o hj ho=>?_) (fun _ _=>rfl)
  subst hj
  rw[List.getElem?_set_self hlt] at ho
  cases ho
  refine⟨hv,f1,g,ys,ty,f2,f3,⟨by simpa using hts.1,fun i c y e1 e2=>?_⟩,hng⟩
  rw[List.getElem?_map] at e1
  cases ht:ts[i]? with
  | none=>simp[ht] at e1
  | some tt=>
   simp only[ht,Option.map_some,Option.some.injEq] at e1
   subst e1
   exact .inr (hts.2 i tt y ht e2)
 have hcl:=chunks_len n m ts
 have htl:ts.length=n*m:=by rw[t1,hlen]
 obtain⟨u1,u2⟩:=chunks_ok n m ts htl hpos.1 t3
 have hnm:n≤n*m:=Nat.le_mul_of_pos_right _ hpos.1
 refine⟨.slice (some ⟨g,0,none⟩) n n,_,_,?_,hR,?_,hk1⟩
 ·unfold Instr.sliceAt
  simp only[Sem.run_bind,run_underlying hu,Result.andThen_ok,Instr.sureAddr,Sem.run_pure,Instr.sliceBounds,run_sizeOf hm]
  by_cases hn0:n=0
  ·subst hn0;rfl
  ·rw[if_neg hn0]
   simp only[Nat.zero_mul,hadd,Nat.sub_zero]
 ·have key:Rd w (XB (st.objs.set key (.fbox (ts.map .t))) ρ Xc) (.sl m (chunks n m ts)) (.slice (some ⟨g,0,none⟩) (chunks n m ts).length n):=by
   refine .sl m _ _ n ys.toList hpos.2 (by rw[hcl];exact Nat.le_refl _) (by simp only[maxLen];omega) u1 (by rw[u2];exact hts.1) (fun i y hi=>?_) fun i t y e1 e2=>?_
   ·have hi':ys[i]?=some y:=by simpa using hi
    have had:(⟨g,0,none⟩:Addr).add i=⟨g,i,none⟩:=by unfold Addr.add;split <;> simp_all
    have hil:i<ts.length:=by
     have h1:=hts.1
     rw[←h1];exact(List.getElem?_eq_some_iff.1 hi).1
    refine⟨by rw[had,cell_of_row w g i ys ty (0,0) f3];exact hi',hng,(hts.2 i _ y (List.getElem?_eq_getElem hil) hi).2⟩
   ·rw[u2] at e1
    exact(hts.2 i t y e1 e2).1
  rw[hcl] at key
  exact .inr ⟨key,rfl⟩
theorem sliceG_ok{t:TypeId}{x:D}{v:Value}{lo hi mx:Option D}{vlo vhi vmx:Option Value}{k:St→D→Option R}(hR:Rel w0 F Xc ρ0 ρ st a w)(h:RdD w (XB st.objs ρ Xc) ρ x v)(hlo:OptRd w (XB st.objs ρ Xc) ρ lo vlo)(hhi:OptRd w (XB st.objs ρ Xc) ρ hi vhi)
 (hmx:OptRd w (XB st.objs ρ Xc) ρ mx vmx) (hk:sliceG P st t x lo hi mx k=some r):∃y st' d,(Instr.sliceAt t v vlo vhi vmx).run P w=.ok y w∧Rel w0 F Xc ρ0 ρ st' a w∧RdD w (XB st'.objs ρ Xc) ρ d y∧k st' d=some r:=by
 unfold sliceG at hk
 split at hk
 ·split at hk
  case isFalse=>cases hk
  rename_i hn
  obtain⟨h1,h2,h3⟩:=hn
  have e1:vlo=none:=by
   cases lo with
   | none=>cases vlo with | none=>rfl | some v=>exact hlo.elim
   | some d=>cases h1
  have e2:vhi=none:=by
   cases hi with
   | none=>cases vhi with | none=>rfl | some v=>exact hhi.elim
   | some d=>cases h2
  have e3:vmx=none:=by
   cases mx with
   | none=>cases vmx with | none=>rfl | some v=>exact hmx.elim
   | some d=>cases h3
  subst e1;subst e2;subst e3
  exact sliceArrK_ok hR h hk
 ·obtain⟨y,d,q1,q2,q3⟩:=sliceK_ok (P:=P) (w:=w) hR h hlo hhi hmx hk
  exact⟨y,st,d,q1,hR,q2,q3⟩
end
@[irreducible] def mmI(mx:Bool)(a b:Int):Int:=if mx then max a b else min a b
@[irreducible] def mmS(mx:Bool)(a b:ByteArray):ByteArray:=if mx then (if !ltS a b then a else b) else (if ltS a b||eqS a b then a else b)
section
variable {R:Type} (P:Program) (Γ:FuncId→Option Callee)
def minK(mx:Bool)(t:TypeId)(x y:D)(k:D→Option R):Option R:=match P.underlying t with
 | some (.int kd)=>asI kd x fun a=>asI kd y fun b=>k (dI kd (mmI mx a b))
 | some .string=>asS x fun a=>asS y fun b=>k (dS (mmS mx a b))
 | _=>none
def builtinK(st:St)(dst:Option Nat)(ty:TypeId)(b:Builtin)(args:List D)(ts:List TypeId)(k:St→D→Option R):Option R:=match b,args,ts with
 | .len,[x],[t]=>lenK P st t x fun d=>k st d
 | .append,[s,x],[t,u]=>appendG P st dst t u s x k
 | .copy,[s,x],[t,_]=>copyK P st t s x k
 | .min,[x,y],[t,_]=>minK P false t x y fun d=>k st d
 | .max,[x,y],[t,_]=>minK P true t x y fun d=>k st d
 | _,_,_=>none
def capsD(caps:List (Nat×Nat)):List D:=caps.map fun p=>.s (.c (.box p.1 p.2))
def plainFn:Value→Option FuncId
 | .func (.func g) first captured=>if first.isEmpty&&captured.isEmpty then some g else none
 | _=>none
def valueK(st:St)(dst:Option Nat)(f:D)(args:List D)(k:St→D→Option R):Option R:=asC f fun c=>match c with
 | .t (.v v)=>match plainFn v with
  | some g=>match Γ g with
   | some A=>match A.ext with
    | some I=>I.go args fun d=>k st d
    | none=>callK A st dst args k
   | none=>none
  | none=>none
 | .fn g caps=>match Γ g with
  | some A=>match A.ext with
   | some _=>none
   | none=>callK A st dst (args++capsD caps) k
  | none=>none
 | _=>none
def qOf:List Nat:=match Γ 2000000 with
 | some A=>A.quiet
 | none=>[]
def quietPtr(B:List Nat):D→Bool
 | .s (.c (.box k _))=>B.contains k
 | .s (.c (.pe _ _ _))=>true
 | _=>false
def isBoxO:Option O→Bool
 | some (.box _)=>true
 | _=>false
def okQ(B:List Nat)(o o':List O):Bool:=B.all fun k=>isBoxO o[k]?||!isBoxO o'[k]?
def dKeys:D→List Nat
 | .s s=>s.list.flatMap C.ks
 | .tup l=>l.flatMap fun s=>s.list.flatMap C.ks
def quietD(B:List Nat)(ds:List D):Bool:=ds.all fun d=>(dKeys d).all fun k=>!B.contains k
def looseOf:List Nat:=match Γ 2000000 with
 | some A=>A.loose
 | none=>[]
def isLoose(l:List Nat):Option Nat→Bool
 | some s=>l.contains s
 | none=>false
def idxFree:D→Bool
 | .s (.c (.box _ _))=>true
 | .s (.c (.pe _ _ _))=>true
 | .s (.c (.t _))=>true
 | _=>false
def boxedD(st:St):D→Bool
 | .s (.c (.box k _))=>isBoxO st.objs[k]?
 | _=>true
def loadG(P:Program)(st:St)(dst:Option Nat)(t:TypeId)(d:D)(k:D→Option R):Option R:=match qOf Γ with
 | []=>loadK P st t d k
 | B=>if ((quietPtr B d&&boxedD st d)||isLoose (looseOf Γ) dst)=true then loadK P st t d k else none
def indexG(P:Program)(st:St)(dst:Option Nat)(t:TypeId)(x ix:D)(k:D→Option R):Option R:=match qOf Γ with
 | []=>indexAddrK P st t x ix k
 | _=>if (idxFree x||isLoose (looseOf Γ) dst)=true then indexAddrK P st t x ix k else none
def ownG(st:St)(dst:Option Nat):Bool:=(looseOf Γ).contains 8999999||match dst with
 | some d=>match st.objs[st.np+d]? with
  | some .fresh=>true
  | _=>false
 | none=>false
def gtypes:List Nat:=match Γ 2000002 with
 | some A=>A.quiet
 | none=>[]
def gslots:List Nat:=match Γ 2000002 with
 | some A=>A.loose
 | none=>[]
def iOf:List Nat:=(gslots Γ).filterMap fun g=>if 1500000≤g∧g<1600000 then some (g-1500000) else none
def gateA(st:St)(dst:Option Nat):Bool:=match dst with
 | some s=>!(gslots Γ).contains (1600000+s)||((iOf Γ).contains (st.np+s)&&(looseOf Γ).contains s)
 | none=>true
def allocG(P:Program)(st:St)(dst:Option Nat)(t:TypeId)(k:St→D→Option R):Option R:=match qOf Γ with
 | []=>allocK P st dst t k
 | B=>if (ownG Γ st dst&&gateA Γ st dst)=true then allocK P st dst t fun s d=>if (okQ B st.objs s.objs||isLoose (looseOf Γ) dst)=true then k s d else none else none
def aOf:List Nat:=(gslots Γ).filterMap fun g=>if 5000000≤g then some (g-5000000) else none
def dCells:D→List C
 | .s s=>s.list
 | .tup l=>l.flatMap S1.list
def boxRs(o:Option O):List Nat:=match o with
 | some (.box l)=>l.flatMap C.rs
 | _=>[]
def offKey(objs:List O)(k:Nat)(ds:List D):Bool:=ds.all fun d=>(dCells d).all fun c=>!c.rs.contains k&&c.ks.all fun k'=>k' != k&&!(boxRs objs[k']?).contains k
def oldO:Option O→Bool
 | some .fresh=>false
 | some _=>true
 | none=>false
def offA(objs:List O)(ds:List D):Bool:=(aOf Γ).all fun k=>oldO objs[k]?&&offKey objs k ds
def gateC(objs:List O)(dst:Option Nat)(ds:List D):Bool:=match dst with
 | some s=>!(gslots Γ).contains (2000000+s)||((looseOf Γ).contains (10000000+s)&&offA Γ objs ds)
 | none=>true
def isRowA:D→Bool
 | .s (.c (.t _))=>true
 | .s (.c (.row k))=>(gslots Γ).contains (5000000+k)
 | _=>false
def gateN(dst:Option Nat)(x:D):Bool:=match dst with
 | some s=>!(gslots Γ).contains (3000000+s)||isRowA Γ x
 | none=>true
def gateI(st:St)(dst:Option Nat)(ds:List D):Bool:=match dst with
 | some s=>!(gslots Γ).contains (2500000+s)||((looseOf Γ).contains (10000000+s)&&(((looseOf Γ).contains s&&!(gslots Γ).contains (2000000+s))&&(iOf Γ).all fun k=>offKey st.objs k ds&&(decide (k<st.np+st.env.length)&&(k != st.np+s&&decide (k<st.objs.length)))))
 | none=>true
def callG0(st:St)(dst:Option Nat)(f:D)(args:List D)(k:St→Option R):Option R:=match qOf Γ with
 | []=>valueK Γ st dst f args fun st d=>k (st.put dst d)
 | B=>if isLoose (looseOf Γ) dst=true then valueK Γ st dst f args fun st d=>k (st.put dst d) else if quietD B (f::args)=true then valueK Γ st dst f args fun st' d=>(fun s:St=>if okQ B st.objs s.objs=true then k s else none) (st'.put dst d) else none
def callG(st:St)(dst:Option Nat)(f:D)(args:List D)(k:St→Option R):Option R:=if (gateC Γ st.objs dst (f::args)&&gateI Γ st dst (f::args))=true then callG0 Γ st dst f args k else none
def nilK(x:D)(k:D→Option R):Option R:=asC x fun c=>match c with
 | .box _ _=>k x
 | .elt _ _ _ _=>k x
 | .pe _ _ _=>k x
 | _=>none
def treeD:D→Bool
 | .s (.c (.t _))=>true
 | _=>false
def gateQ(dst:Option Nat)(x:D):Bool:=match qOf Γ with
 | []=>true
 | _=>treeD x||isLoose (looseOf Γ) dst
def isX(dst:Option Nat):Bool:=match dst with
 | some s=>(gslots Γ).contains (4000000+s)
 | none=>false
def gateX(dst:Option Nat)(x:D):Bool:=!isX Γ dst||isRowA Γ x
def offRow:D→Bool
 | .s (.c (.t _))=>true
 | .s (.c (.row k))=>!(gslots Γ).contains (5000000+k)
 | _=>false
def gateF(objs:List O)(dst:Option Nat):Bool:=!isX Γ dst||(aOf Γ).all fun k=>oldO objs[k]?
def gateP(objs:List O)(dst:Option Nat)(s:D):Bool:=gateF Γ objs dst&&(!isX Γ dst||offRow Γ s)
def rowsA:List D→Bool
 | [.s (.c (.t _)),.s (.c (.t _))]=>true
 | [.s (.c (.row _)),.s (.c (.t _))]=>true
 | [.s (.c (.t _)),.s (.c (.row _))]=>true
 | [.s (.c (.row _)),.s (.c (.row _))]=>true
 | _=>false
def gateJ(st:St)(dst:Option Nat)(args:List D):Bool:=match dst with
 | some s=>!(gslots Γ).contains (2500000+s)||(gateI Γ st dst args&&(rowsA args&&!isX Γ dst))
 | none=>true
def gateB(st:St)(dst:Option Nat)(bi:Builtin)(args:List D):Bool:=match bi with
 | .len=>args.all fun x=>gateQ Γ dst x&&gateN Γ dst x
 | .append=>match args with
  | s::_=>gateP Γ st.objs dst s&&gateJ Γ st dst args
  | []=>true
 | _=>true
def gateS(t:TypeId)(x:D):Bool:=match qOf Γ with
 | []=>true
 | B=>(looseOf Γ).contains 8999999||(looseOf Γ).contains (60000000+t)||match x with
  | .s (.c (.box k _))=>!B.contains k
  | .s (.c (.elt _ _ _ _))=>true
  | _=>false
def isEltD:D→Bool
 | .s (.c (.elt _ _ _ _))=>true
 | _=>false
def isBoxD:D→Bool
 | .s (.c (.box _ _))=>true
 | _=>false
def isInA:D→Bool
 | .s (.c (.box k _))=>(gslots Γ).contains (5000000+k)
 | _=>false
def isOffA:D→Bool
 | .s (.c (.box k _))=>!(gslots Γ).contains (5000000+k)
 | _=>false
def gateE(t:TypeId)(x:D):Bool:=((!(gtypes Γ).contains t||isEltD x)&&(!(gtypes Γ).contains (1000000+t)||isBoxD x))&&(!(gtypes Γ).contains (2000000+t)||isOffA Γ x)
def gateL(dst:Option Nat)(x:D):Bool:=match dst with
 | some s=>(!(gslots Γ).contains s||isBoxD x)&&(!(gslots Γ).contains (1000000+s)||isInA Γ x)
 | none=>true
def rrOf:List Nat:=match Γ 2000001 with
 | some A=>A.loose
 | none=>[]
def isRR(dst:Option Nat):Bool:=match dst with
 | some s=>(rrOf Γ).contains s
 | none=>false
def makeSliceR(P:Program)(st:St)(dst:Option Nat)(t:TypeId)(l c:D)(k:St→D→Option R):Option R:=if isRR Γ dst=true then makeRRK P st dst t l c k else makeSliceK P st dst t l c k
def makeMapG(P:Program)(st:St)(dst:Option Nat)(t:TypeId)(k:St→D→Option R):Option R:=if isRR Γ dst=true then makeMapR P st dst t k else makeMapK P st dst t k
def makeSliceG(P:Program)(st:St)(dst:Option Nat)(t:TypeId)(l c:D)(k:St→D→Option R):Option R:=match qOf Γ with
 | []=>makeSliceR Γ P st dst t l c k
 | _=>if ownG Γ st dst=true then makeSliceR Γ P st dst t l c k else none
def isLitS(dst:Option Nat):Bool:=match dst with
 | some s=>(gslots Γ).contains (500000+s)
 | none=>false
def bsG(P:Program)(st:St)(dst:Option Nat)(t:TypeId)(len:Nat)(parts:List (Nat×D))(k:St→D→Option R):Option R:=
 if isLitS Γ dst=true then litK P t len parts fun d=>k st d else if gateF Γ st.objs dst=true then buildSliceK P st dst t len parts k else none
def aOp(o:Oper)(st:St)(k:St→Option R):Option R:=match o.op with
 | .move x=>k (st.put o.dst (ev st x))
 | .assign x=>k (st.put o.dst (ev st x))
 | .pick c x y=>asB (ev st c) fun q=>bif q then k (st.put o.dst (ev st x)) else k (st.put o.dst (ev st y))
 | .alloc e=>allocG Γ P st o.dst e fun st d=>k (st.put o.dst d)
 | .box _ x=>boxK st o.dst (ev st x) fun st d=>k (st.put o.dst d)
 | .build t parts=>buildK P t (parts.toList.map fun p=>(p.1,ev st p.2)) fun d=>k (st.put o.dst d)
 | .buildSlice t len parts=>bsG Γ P st o.dst t len (parts.toList.map fun p=>(p.1,ev st p.2)) fun st d=>k (st.put o.dst d)
 | .load t x=>if gateL Γ o.dst (ev st x)=true then loadG Γ P st o.dst t (ev st x) fun d=>k (st.put o.dst d) else none
 | .store t x v=>if (gateS Γ t (ev st x)&&gateE Γ t (ev st x))=true then storeK P st t (ev st x) (ev st v) fun st=>k (st.put o.dst D.top) else none
 | .nilCheck x=>nilK (ev st x) fun d=>k (st.put o.dst d)
 | .binOp op t x y yt=>binN P st op t yt (ev st x) (ev st y) fun d=>k (st.put o.dst d)
 | .unOp op t x=>unK (P:=P) op t (ev st x) fun d=>k (st.put o.dst d)
 | .convert s t x=>convQ P st s t (ev st x) fun d=>k (st.put o.dst d)
 | .makeFunc fn f c=>makeFuncK fn (f.toList.map (ev st)) (c.toList.map (ev st)) fun d=>k (st.put o.dst d)
 | .makeSlice t l c=>makeSliceG Γ P st o.dst t (ev st l) (ev st c) fun st d=>k (st.put o.dst d)
 | .slice t x lo hi mx=>if (gateQ Γ o.dst (ev st x)&&gateX Γ o.dst (ev st x))=true then sliceG P st t (ev st x) (lo.map (ev st)) (hi.map (ev st)) (mx.map (ev st)) fun st d=>k (st.put o.dst d) else none
 | .fieldAddr t x f=>fieldAddrK P t (ev st x) f fun d=>k (st.put o.dst d)
 | .field t x f=>fieldK P t (ev st x) f fun d=>k (st.put o.dst d)
 | .indexAddr t x ix=>indexG Γ P st o.dst t (ev st x) (ev st ix) fun d=>k (st.put o.dst d)
 | .index t x ix=>indexK P t (ev st x) (ev st ix) fun d=>k (st.put o.dst d)
 | .extract x i=>extractK (ev st x) i fun d=>k (st.put o.dst d)
 | .call { callee:=.builtin b,args,argTypes }=>if gateB Γ st o.dst b (args.toList.map (ev st))=true then builtinK P st o.dst o.type b (args.toList.map (ev st)) argTypes.toList fun st d=>k (st.put o.dst d) else none
 | .call { callee:=.value f,args,.. }=>callG Γ st o.dst (ev st f) (args.toList.map (ev st)) k
 | .makeMap t none=>makeMapG Γ P st o.dst t fun st d=>k (st.put o.dst d)
 | .lookup t x ix ok=>lookupG P st t (ev st x) (ev st ix) ok fun d=>k (st.put o.dst d)
 | .mapUpdate t m q v=>mapUpdG P st t (ev st m) (ev st q) (ev st v) fun st=>k (st.put o.dst D.top)
 | .insert t m q v=>mapUpdG P st t (ev st m) (ev st q) (ev st v) fun st=>k (st.put o.dst D.top)
 | .mapEntry t m q=>mapEntK P st t (ev st m) (ev st q) fun st d=>k (st.put o.dst d)
 | .entryStore t m q v=>entStoreK P st t (ev st m) (ev st q) (ev st v) fun st=>k (st.put o.dst D.top)
 | _=>none
def offD:D:=.tup []
def offK(d:D)(x y:Option R):Option R:=match d with
 | .tup []=>x
 | _=>y
def aOps(ops:Array Oper):List Nat→St→(St→Option R)→Option R
 | [],st,k=>k st
 | i::rest,st,k=>match ops[i]? with
  | none=>aOps ops rest st k
  | some o=>match o.guard with
   | none=>aOp P Γ o st fun st=>aOps ops rest st k
   | some (j,want)=>match (ops[j]?).bind (·.dst) with
    | none=>none
    | some t=>offK (st.env.getD t D.top) (aOps ops rest (st.put o.dst offD) k) <| asB (st.env.getD t D.top) fun b=>
     bif b then
      (if want then aOp P Γ o (st.put (some t) (dB true)) fun st=>aOps ops rest st k else aOps ops rest ((st.put (some t) (dB true)).put o.dst offD) k)
     else
      (if want then aOps ops rest ((st.put (some t) (dB false)).put o.dst offD) k else aOp P Γ o (st.put (some t) (dB false)) fun st=>aOps ops rest st k)
end
section
variable {R:Type} {P:Program} {Γ:FuncId→Option Callee} {w0 w:World} {F Xc:Nat→Prop} {ρ0:Base} {ρ:Rho} {st:St} {a:Act} {r:R} {Q:Exit→Act→World→Prop}
theorem wp_val{o:Oper}{next:Act→World→Prop}{y:Value}{w':World}(h:(execOp a.eval o).run P w=.ok (.value y) w')(hn:next (a.put o.dst y) w'):o.wp P a w next Q:=by
 unfold Oper.wp
 rw[h]
 exact hn
theorem wp_put{o:Oper}{next:Act→World→Prop}{y:Value}{w':World}{ρ':Rho}{st':St}{d:D}{k:St→Option R}(hrun:(execOp a.eval o).run P w=.ok (.value y) w')(hR:Rel w0 F Xc ρ0 ρ' st' a w')
 (hd:RdD w' (XB st'.objs ρ' Xc) ρ' d y) (hk:k (st'.put o.dst d)=some r) (hn:∀ρ' st' a' w',Rel w0 F Xc ρ0 ρ' st' a' w'→k st'=some r→next a' w'):o.wp P a w next Q:=
 wp_val hrun (hn ρ' _ _ _ (hR.put o.dst hd) hk)
theorem ev_list(h:Rel w0 F Xc ρ0 ρ st a w)(l:List Operand):∀(i:Nat) d v,(l.map (ev st))[i]?=some d→(l.map a.eval)[i]?=some v→RdD w (XB st.objs ρ Xc) ρ d v:=fun i d v h1 h2=>by
 rw[List.getElem?_map] at h1 h2
 cases hx:l[i]? with
 | none=>simp[hx] at h1
 | some x=>simp only[hx,Option.map_some,Option.some.injEq] at h1 h2;subst h1;subst h2;exact h.ev x
theorem ev_opt(h:Rel w0 F Xc ρ0 ρ st a w)(o:Option Operand):OptRd w (XB st.objs ρ Xc) ρ (o.map (ev st)) (o.map a.eval):=by
 cases o with
 | none=>trivial
 | some x=>exact h.ev x
theorem ev_parts(h:Rel w0 F Xc ρ0 ρ st a w)(parts:Array (Nat×Operand)):
 (parts.toList.map fun p=>(p.1,ev st p.2)).length=(parts.map fun(i,x)=>(i,a.eval x)).toList.length ∧
 ∀(i:Nat) p q,(parts.toList.map fun p=>(p.1,ev st p.2))[i]?=some p→(parts.map fun(i,x)=>(i,a.eval x)).toList[i]?=some q→p.1=q.1∧RdD w (XB st.objs ρ Xc) ρ p.2 q.2:=by
 refine⟨by simp,fun i p q h1 h2=>?_⟩
 rw[Array.toList_map] at h2
 rw[List.getElem?_map] at h1 h2
 cases hx:parts.toList[i]? with
 | none=>simp[hx] at h1
 | some x=>simp only[hx,Option.map_some,Option.some.injEq] at h1 h2;subst h1;subst h2;exact⟨rfl,h.ev x.2⟩
theorem callFunc_run{f:FuncId}{args:Array Value}(h:Callable P f):(callFunc f args).run P w=.ok (.enter f args) w:=by
 obtain⟨fn,h1,h2,h3⟩:=h
 unfold callFunc
 simp only[Sem.run_bind,run_program,Result.andThen_ok,h1]
 rw[if_neg (by rw[h3];simp),if_neg (by cases hb:fn.body <;> simp[hb] at h2 ⊢)]
 rfl
theorem wp_call{o:Oper}{next:Act→World→Prop}{f:FuncId}{vals:List Value}{k:St→D→Option R}{k':St→Option R}(hrun:(execOp a.eval o).run P w=.ok (.enter f vals.toArray) w)
 (hc:Calls P f vals.toArray w fun e w'=>∃v ρ' st' d,e=.returned v∧Rel w0 F Xc ρ0 ρ' st' a w'∧RdD w' (XB st'.objs ρ' Xc) ρ' d v∧k st' d=some r)
 (hkk:∀st d,k st d=k' (st.put o.dst d)) (hn:∀ρ' st' a' w',Rel w0 F Xc ρ0 ρ' st' a' w'→k' st'=some r→next a' w'):o.wp P a w next Q:=by
 unfold Oper.wp
 rw[hrun]
 refine hc.mono fun e w' ⟨v,ρ',st',d,he,hR,hd,hk⟩=>?_
 subst he
 exact hn ρ' _ _ _ (hR.put o.dst hd) ((hkk st' d)▸hk)
theorem valueK_ok{o:Oper}{c:Call}{f:Operand}{next:Act→World→Prop}{k:St→Option R}(hΓ:GOK P Γ)(hG:Good P w0 F)(ho:o.op=.call c)(hc:c.callee=.value f)(h:Rel w0 F Xc ρ0 ρ st a w)
 (hk:valueK Γ st o.dst (ev st f) (c.args.toList.map (ev st)) (fun st d=>k (st.put o.dst d))=some r) (hn:∀ρ' st' a' w',Rel w0 F Xc ρ0 ρ' st' a' w'→k st'=some r→next a' w'):o.wp P a w next Q:=by
 unfold valueK at hk
 obtain⟨cc,hfe,hcc,hk1⟩:=asC_ok (h.ev f) hk
 have hexec:execOp a.eval o=(do let d ←resolve a.eval c o.type;invoke d.target d.args):=by
  unfold execOp;rw[ho]
 split at hk1
 ·rename_i v
  split at hk1
  case h_2=>cases hk1
  rename_i g hg
  split at hk1
  case h_2=>cases hk1
  rename_i A hA
  obtain⟨hcall,hOK⟩:=hΓ g A hA
  have hv:a.eval f=.func (.func g) #[] #[]:=by
   rcases hcc with hcc | ⟨hcc,_⟩
   ·cases hcc
   ·rw[Rd.inv_v hcc]
    unfold plainFn at hg
    split at hg
    ·split at hg
     ·rename_i hemp
      simp only[Bool.and_eq_true,Array.isEmpty_iff] at hemp
      cases hg
      rw[hemp.1,hemp.2]
     ·cases hg
    ·cases hg
  have hinv:(execOp a.eval o).run P w=(callFunc g (c.args.toList.map a.eval).toArray).run P w:=by
   rw[hexec]
   unfold resolve
   simp only[hc,hv,Deferred.ofValue,Sem.run_bind,Sem.run_pure,Result.andThen_ok,invoke]
   congr 2
   apply Array.ext'
   simp
  split at hk1
  ·rename_i I hI
   obtain⟨y,d,h1,h2,h3⟩:=hOK.2.2 I hI _ _ _ (by simp) (ev_list h _) hk1
   exact wp_put (by rw[hinv,h1]) h h2 h3 hn
  rename_i hext
  have hrun:(execOp a.eval o).run P w=.ok (.enter g (c.args.toList.map a.eval).toArray) w:=by rw[hinv,callFunc_run (hcall hext)]
  exact wp_call hrun (callK_ok hG hOK h (by simp) (ev_list h _) hk1) (fun st d=>rfl) hn
 ·rename_i g caps
  split at hk1
  case h_2=>cases hk1
  rename_i A hA
  obtain⟨hcall,hOK⟩:=hΓ g A hA
  split at hk1
  ·cases hk1
  rename_i hext
  replace hcall:=hcall hext
  rcases hcc with hcc | ⟨⟨hs,e1,e2,e3⟩,_⟩
  ·cases hcc
  ·have hrun:(execOp a.eval o).run P w=.ok (.enter g (c.args.toList.map a.eval++hs).toArray) w:=by
    rw[hexec]
    unfold resolve
    simp only[hc,e1,Deferred.ofValue,Sem.run_bind,Sem.run_pure,Result.andThen_ok,invoke]
    rw[callFunc_run hcall]
    congr 2
    apply Array.ext'
    simp
   refine wp_call hrun (callK_ok hG hOK h (by simp[capsD,e2]) (fun i d v h1 h2=>?_) hk1) (fun st d=>rfl) hn
   rw[List.getElem?_append] at h1 h2
   simp only[List.length_map] at h1 h2
   split at h1
   ·rename_i hi
    rw[if_pos hi] at h2
    exact ev_list h _ i d v h1 h2
   ·rename_i hi
    rw[if_neg hi] at h2
    simp only[capsD,List.getElem?_map] at h1
    cases hp:caps[i-c.args.toList.length]? with
    | none=>rw[hp] at h1;cases h1
    | some p=>
     simp only[hp,Option.map_some,Option.some.injEq] at h1
     subst h1
     obtain⟨hh,f1,f2⟩:=e3 _ p v hp h2
     obtain⟨ba,g1,g2⟩:=f2
     exact .one (c:=.box p.1 p.2) ⟨hh,f1,ba,g1,g2⟩ (by rw[g2];rfl)
 ·cases hk1
theorem minK_ok{mx:Bool}{t:TypeId}{x y:D}{vx vy:Value}{X:Nat→Prop}{k:D→Option R}(hx:RdD w X ρ x vx)(hy:RdD w X ρ y vy)(hk:minK P mx t x y k=some r)(ts:Array TypeId)(ty:TypeId):
 ∃v d,(if mx then Builtin.max_ ts ty #[vx,vy] else Builtin.min_ ts ty #[vx,vy]).run P w=.ok v w∧RdD w X ρ d v∧k d=some r:=by
 unfold minK at hk
 split at hk
 ·obtain⟨a,rfl,hk1⟩:=asI_ok hx hk
  obtain⟨b,rfl,hk2⟩:=asI_ok hy hk1
  refine⟨_,_,?_,.int _ _,hk2⟩
  unfold mmI
  cases mx with
  | true=>exact Lib.run_max_ints w ts ty _ _ a b
  | false=>exact Lib.run_min_ints w ts ty _ _ a b
 ·obtain⟨a,rfl,hk1⟩:=asS_ok hx hk
  obtain⟨b,rfl,hk2⟩:=asS_ok hy hk1
  refine⟨_,_,?_,.str _,hk2⟩
  unfold mmS
  cases mx with
  | true=>
   have hb:∀q:Bool,(asBool (.bool q)).run P w=.ok q w:=fun _=>rfl
   simp[Builtin.max_,Builtin.max2,Op.stringOp,ltS,hb]
  | false=>
   have hb:∀q:Bool,(asBool (.bool q)).run P w=.ok q w:=fun _=>rfl
   simp[Builtin.min_,Builtin.min2,Op.stringOp,ltS,eqS,hb]
 ·cases hk
theorem aOp_ok{o:Oper}{k:St→Option R}{next:Act→World→Prop}(hΓ:GOK P Γ)(hG:Good P w0 F)(h:Rel w0 F Xc ρ0 ρ st a w)(hk:aOp P Γ o st k=some r)
 (hn:∀ρ' st' a' w',Rel w0 F Xc ρ0 ρ' st' a' w'→k st'=some r→next a' w'):o.wp P a w next Q:=by
 unfold aOp at hk
 split at hk
 ·rename_i x ho
  exact wp_put (y:=a.eval x) (by unfold execOp;rw[ho];rfl) h (h.ev x) hk hn
 ·rename_i x ho
  exact wp_put (y:=a.eval x) (by unfold execOp;rw[ho];rfl) h (h.ev x) hk hn
 ·rename_i c x y ho
  obtain⟨b,hb,hk1⟩:=asB_ok (h.ev c) hk
  cases b with
  | true=>exact wp_put (y:=a.eval x) (by unfold execOp;rw[ho];dsimp only;rw[hb];rfl) h (h.ev x) hk1 hn
  | false=>exact wp_put (y:=a.eval y) (by unfold execOp;rw[ho];dsimp only;rw[hb];rfl) h (h.ev y) hk1 hn
 ·rename_i e ho
  unfold allocG at hk
  have hk':∃k',allocK P st o.dst e k'=some r∧∀s d,k' s d=some r→k (s.put o.dst d)=some r:=by
   split at hk
   ·exact⟨_,hk,fun _ _ h=>h⟩
   ·split at hk
    case isFalse=>cases hk
    exact⟨_,hk,fun s d h=>by
     split at h
     ·exact h
     ·cases h⟩
  obtain⟨k',hk,hkk⟩:=hk'
  obtain⟨y,w',ρ',st',d,h1,h2,h3,h4⟩:=allocK_ok h hk
  have h4:=hkk _ _ h4
  exact wp_put (by unfold execOp;rw[ho];simp only[Sem.run_bind,h1,Result.andThen_ok];rfl) h2 h3 h4 hn
 ·rename_i e x ho
  obtain⟨y,w',ρ',st',d,h1,h2,h3,h4⟩:=boxK_ok (P:=P) (e:=e) h (h.ev x) hk
  exact wp_put (by unfold execOp;rw[ho];simp only[Sem.run_bind,h1,Result.andThen_ok];rfl) h2 h3 h4 hn
 ·rename_i t parts ho
  obtain⟨p1,p2⟩:=ev_parts h parts
  obtain⟨y,d,h1,h3,h4⟩:=buildK_ok p1 p2 hk
  exact wp_put (by unfold execOp;rw[ho];simp only[Sem.run_bind,h1,Result.andThen_ok];rfl) h h3 h4 hn
 ·rename_i t len parts ho
  obtain⟨p1,p2⟩:=ev_parts h parts
  unfold bsG at hk
  split at hk
  ·obtain⟨y,w',d,h1,h2,h3,h4⟩:=litK_ok h p1 p2 hk
   exact wp_put (by unfold execOp;rw[ho];simp only[Sem.run_bind,h1,Result.andThen_ok];rfl) (h.world h2) h3 h4 hn
  split at hk
  case isFalse=>cases hk
  obtain⟨y,w',ρ',st',d,h1,h2,h3,h4⟩:=buildSliceK_ok h p1 p2 hk
  exact wp_put (by unfold execOp;rw[ho];simp only[Sem.run_bind,h1,Result.andThen_ok];rfl) h2 h3 h4 hn
 ·rename_i t x ho
  split at hk
  case isFalse=>cases hk
  unfold loadG at hk
  have hk:loadK P st t (ev st x) (fun d=>k (st.put o.dst d))=some r:=by
   split at hk
   ·exact hk
   ·split at hk
    ·exact hk
    ·cases hk
  obtain⟨d,y,h1,h3,h4⟩:=loadK_ok h (h.ev x) hk
  exact wp_put (by unfold execOp;rw[ho];simp only[Sem.run_bind,h1,Result.andThen_ok];rfl) h h3 h4 hn
 ·rename_i t x v ho
  split at hk
  case isFalse=>cases hk
  obtain⟨st',w',h1,h2,h3⟩:=storeK_ok h (h.ev x) (h.ev v) hk
  unfold Oper.wp
  have hrun:(execOp a.eval o).run P w=.ok .skip w':=by unfold execOp;rw[ho];simp only[Sem.run_bind,h1,Result.andThen_ok];rfl
  rw[hrun]
  exact hn ρ _ _ _ (h2.put o.dst (.top_ _)) h3
 ·rename_i x ho
  unfold nilK at hk
  obtain⟨c,hx,hc,hk1⟩:=asC_ok (h.ev x) hk
  have hr:=h.ev x
  have key:∀(aa:Addr),a.eval x=.pointer (some aa)→(execOp a.eval o).run P w=.ok (.value (a.eval x)) w:=fun aa e=>by
   unfold execOp;rw[ho];dsimp only;rw[e];rfl
  split at hk1
  ·rcases hc with hc | ⟨⟨v,_,ba,_,e⟩,_⟩
   ·cases hc
   ·exact wp_put (key _ e) h hr hk1 hn
  ·rcases hc with hc | ⟨⟨v,_,ba,_,e⟩,_⟩
   ·cases hc
   ·exact wp_put (key _ e) h hr hk1 hn
  ·rcases hc with hc | ⟨⟨ba,e,_⟩,_⟩
   ·cases hc
   ·exact wp_put (key _ e) h hr hk1 hn
  ·cases hk1
 ·rename_i op t x y yt ho
  obtain⟨d,v,h1,h3,h4⟩:=binN_ok (xo:=x) (yo:=y) h (h.ev x) (h.ev y) hk
  exact wp_put (by unfold execOp;rw[ho];simp only[Sem.run_bind] at h1 ⊢;simp only[h1,Result.andThen_ok];rfl) h h3 h4 hn
 ·rename_i op t x ho
  obtain⟨d,v,h1,h3,h4⟩:=unK_ok (P:=P) (w:=w) (h.ev x) hk
  exact wp_put (by unfold execOp;rw[ho];simp only[Sem.run_bind,h1,Result.andThen_ok];rfl) h h3 h4 hn
 ·rename_i s t x ho
  obtain⟨y,w',d,h1,h2,h3,h4⟩:=convQ_ok h (h.ev x) hk
  exact wp_put (by unfold execOp;rw[ho];simp only[Sem.run_bind,h1,Result.andThen_ok];rfl) (h.world h2) h3 h4 hn
 ·rename_i fn f c ho
  obtain⟨y,d,h1,h3,h4⟩:=makeFuncK_ok (P:=P) (w:=w) (X:=XB st.objs ρ Xc) (ρ:=ρ) (vf:=f.map a.eval) (vc:=c.map a.eval) (by simp) (by simp) (fun i d v e1 e2=>by
   rw[Array.toList_map] at e2
   exact ev_list h _ i d v e1 e2) hk
  exact wp_put (by unfold execOp;rw[ho];simp only[Sem.run_bind,h1,Result.andThen_ok];rfl) h h3 h4 hn
 ·rename_i t l c ho
  have hk9:∃y w' ρ' st' d,(Instr.makeSlice t (a.eval l) (a.eval c)).run P w=.ok y w'∧Rel w0 F Xc ρ0 ρ' st' a w'∧RdD w' (XB st'.objs ρ' Xc) ρ' d y∧(fun st d=>k (st.put o.dst d)) st' d=some r:=by
   have hk8:makeSliceR Γ P st o.dst t (ev st l) (ev st c) (fun st d=>k (st.put o.dst d))=some r:=by
    unfold makeSliceG at hk
    split at hk
    ·exact hk
    ·split at hk
     ·exact hk
     ·cases hk
   unfold makeSliceR at hk8
   split at hk8
   ·exact makeRRK_ok h (h.ev l) (h.ev c) hk8
   ·exact makeSliceK_ok h (h.ev l) (h.ev c) hk8
  obtain⟨y,w',ρ',st',d,h1,h2,h3,h4⟩:=hk9
  exact wp_put (by unfold execOp;rw[ho];simp only[Sem.run_bind,h1,Result.andThen_ok];rfl) h2 h3 h4 hn
 ·rename_i t x lo hi mx ho
  split at hk
  case isFalse=>cases hk
  obtain⟨y,st',d,h1,h2,h3,h4⟩:=sliceG_ok (P:=P) (w:=w) h (h.ev x) (ev_opt h lo) (ev_opt h hi) (ev_opt h mx) hk
  exact wp_put (by unfold execOp;rw[ho];simp only[Sem.run_bind,h1,Result.andThen_ok];rfl) h2 h3 h4 hn
 ·rename_i t x f ho
  obtain⟨y,d,h1,h3,h4⟩:=fieldAddrK_ok (P:=P) (h.ev x) hk
  exact wp_put (by unfold execOp;rw[ho];simp only[Sem.run_bind,h1,Result.andThen_ok];rfl) h h3 h4 hn
 ·rename_i t x f ho
  obtain⟨y,d,h1,h3,h4⟩:=fieldK_ok (P:=P) (h.ev x) hk
  exact wp_put (by unfold execOp;rw[ho];simp only[Sem.run_bind,h1,Result.andThen_ok];rfl) h h3 h4 hn
 ·rename_i t x ix ho
  unfold indexG at hk
  have hk:indexAddrK P st t (ev st x) (ev st ix) (fun d=>k (st.put o.dst d))=some r:=by
   split at hk
   ·exact hk
   ·split at hk
    ·exact hk
    ·cases hk
  obtain⟨y,d,h1,h3,h4⟩:=indexAddrK_ok h (h.ev x) (h.ev ix) hk
  exact wp_put (by unfold execOp;rw[ho];simp only[Sem.run_bind,h1,Result.andThen_ok];rfl) h h3 h4 hn
 ·rename_i t x ix ho
  obtain⟨y,d,h1,h3,h4⟩:=indexK_ok (P:=P) (h.ev x) (h.ev ix) hk
  exact wp_put (by unfold execOp;rw[ho];simp only[Sem.run_bind,h1,Result.andThen_ok];rfl) h h3 h4 hn
 ·rename_i x i ho
  obtain⟨y,d,h1,h3,h4⟩:=extractK_ok (P:=P) (h.ev x) hk
  exact wp_put (by unfold execOp;rw[ho];simp only[Sem.run_bind,h1,Result.andThen_ok];rfl) h h3 h4 hn
 ·rename_i b args ts ho
  split at hk
  case isFalse=>cases hk
  rename_i hgq
  clear hgq
  unfold builtinK at hk
  have hexec:execOp a.eval o=builtin b ts o.type (args.map fun | .const _=>true | _=>false) (args.map a.eval):=by
   unfold execOp;rw[ho];rfl
  split at hk
  ·rename_i x t hargs hts
   have e1:∃xo,args=#[xo]∧ev st xo=x:=by
    obtain⟨l⟩:=args
    match l,hargs with
    | [xo],hargs=>simp at hargs;exact⟨xo,rfl,hargs⟩
   obtain⟨xo,rfl,rfl⟩:=e1
   have e2:ts=#[t]:=by obtain⟨l⟩:=ts;simp at hts;rw[hts]
   subst e2
   obtain⟨y,d,h1,h3,h4⟩:=lenK_ok (ty:=o.type) h (h.ev xo) hk
   refine wp_put (y:=y) ?_ h h3 h4 hn
   rw[hexec]
   simp only[builtin,List.map_toArray,List.map_cons,List.map_nil,Sem.run_bind,h1,Result.andThen_ok]
   rfl
  ·rename_i s x t u hargs hts
   have e1:∃so xo,args=#[so,xo]∧ev st so=s∧ev st xo=x:=by
    obtain⟨l⟩:=args
    match l,hargs with
    | [so,xo],hargs=>simp at hargs;exact⟨so,xo,rfl,hargs⟩
   obtain⟨so,xo,rfl,rfl,rfl⟩:=e1
   have e2:ts=#[t,u]:=by obtain⟨l⟩:=ts;simp at hts;rw[hts]
   subst e2
   obtain⟨y,w',ρ',st',d,h1,h2,h3,h4⟩:=appendG_ok (ty:=o.type) h (h.ev so) (h.ev xo) hk
   refine wp_put (y:=y) ?_ h2 h3 h4 hn
   rw[hexec]
   simp only[builtin,List.map_toArray,List.map_cons,List.map_nil,Sem.run_bind,h1,Result.andThen_ok]
   rfl
  ·rename_i s x t u hargs hts
   have e1:∃so xo,args=#[so,xo]∧ev st so=s∧ev st xo=x:=by
    obtain⟨l⟩:=args
    match l,hargs with
    | [so,xo],hargs=>simp at hargs;exact⟨so,xo,rfl,hargs⟩
   obtain⟨so,xo,rfl,rfl,rfl⟩:=e1
   have e2:ts=#[t,u]:=by obtain⟨l⟩:=ts;simp at hts;rw[hts]
   subst e2
   obtain⟨y,w',st',d,h1,h2,h3,h4⟩:=copyK_ok (u:=u) (ty:=o.type) h (h.ev so) (h.ev xo) hk
   refine wp_put (y:=y) ?_ h2 h3 h4 hn
   rw[hexec]
   simp only[builtin,List.map_toArray,List.map_cons,List.map_nil,Sem.run_bind,h1,Result.andThen_ok]
   rfl
  ·rename_i x y t u hargs hts
   have e1:∃so xo,args=#[so,xo]∧ev st so=x∧ev st xo=y:=by
    obtain⟨l⟩:=args
    match l,hargs with
    | [so,xo],hargs=>simp at hargs;exact⟨so,xo,rfl,hargs⟩
   obtain⟨so,xo,rfl,rfl,rfl⟩:=e1
   obtain⟨v,d,h1,h3,h4⟩:=minK_ok (h.ev so) (h.ev xo) hk ts o.type
   refine wp_put (y:=v) ?_ h h3 h4 hn
   rw[hexec]
   simp only[Bool.false_eq_true,if_false] at h1
   simp only[builtin,List.map_toArray,List.map_cons,List.map_nil,Sem.run_bind,h1,Result.andThen_ok]
   rfl
  ·rename_i x y t u hargs hts
   have e1:∃so xo,args=#[so,xo]∧ev st so=x∧ev st xo=y:=by
    obtain⟨l⟩:=args
    match l,hargs with
    | [so,xo],hargs=>simp at hargs;exact⟨so,xo,rfl,hargs⟩
   obtain⟨so,xo,rfl,rfl,rfl⟩:=e1
   obtain⟨v,d,h1,h3,h4⟩:=minK_ok (h.ev so) (h.ev xo) hk ts o.type
   refine wp_put (y:=v) ?_ h h3 h4 hn
   rw[hexec]
   simp only[if_true] at h1
   simp only[builtin,List.map_toArray,List.map_cons,List.map_nil,Sem.run_bind,h1,Result.andThen_ok]
   rfl
  ·cases hk
 ·rename_i f args ts ho
  unfold callG at hk
  split at hk
  case isFalse=>cases hk
  unfold callG0 at hk
  split at hk
  ·exact valueK_ok (f:=f) hΓ hG ho rfl h hk hn
  ·rename_i B _
   split at hk
   ·exact valueK_ok (f:=f) hΓ hG ho rfl h hk hn
   split at hk
   ·exact valueK_ok (f:=f) (k:=fun s:St=>if okQ (qOf Γ) st.objs s.objs=true then k s else none) hΓ hG ho rfl h hk fun ρ' st' a' w' hR hk'=>hn ρ' st' a' w' hR (by
     split at hk'
     ·exact hk'
     ·cases hk')
   ·cases hk
 ·rename_i t ho
  have hmk:∃y w' ρ' st' d,(Instr.makeMap t none).run P w=.ok y w'∧Rel w0 F Xc ρ0 ρ' st' a w'∧RdD w' (XB st'.objs ρ' Xc) ρ' d y∧k (st'.put o.dst d)=some r:=by
   unfold makeMapG at hk
   split at hk
   ·exact makeMapR_ok h hk
   ·exact makeMapK_ok h hk
  obtain⟨y,w',ρ',st',d,h1,h2,h3,h4⟩:=hmk
  exact wp_put (by unfold execOp;rw[ho];simp only[Option.map_none,Sem.run_bind,h1,Result.andThen_ok];rfl) h2 h3 h4 hn
 ·rename_i t x ix ok ho
  obtain⟨y,d,h1,h3,h4⟩:=lookupG_ok h (h.ev x) (h.ev ix) hk
  exact wp_put (by unfold execOp;rw[ho];simp only[Sem.run_bind,h1,Result.andThen_ok];rfl) h h3 h4 hn
 ·rename_i t m q v ho
  obtain⟨ρ',st',w',h1,h2,h3⟩:=mapUpdG_ok h (h.ev m) (h.ev q) (h.ev v) hk
  unfold Oper.wp
  have hrun:(execOp a.eval o).run P w=.ok .skip w':=by unfold execOp;rw[ho];simp only[Sem.run_bind,h1,Result.andThen_ok];rfl
  rw[hrun]
  exact hn ρ' _ _ _ (h2.put o.dst (.top_ _)) h3
 ·rename_i t m q v ho
  obtain⟨ρ',st',w',h1,h2,h3⟩:=mapUpdG_ok h (h.ev m) (h.ev q) (h.ev v) hk
  unfold Oper.wp
  have hrun:(execOp a.eval o).run P w=.ok .skip w':=by unfold execOp;rw[ho];simp only[Sem.run_bind,h1,Result.andThen_ok];rfl
  rw[hrun]
  exact hn ρ' _ _ _ (h2.put o.dst (.top_ _)) h3
 ·rename_i t m q ho
  obtain⟨y,st',w',d,h1,h2,h3,h4⟩:=mapEntK_ok h (h.ev m) (h.ev q) hk
  exact wp_put (by unfold execOp;rw[ho];simp only[Sem.run_bind,h1,Result.andThen_ok];rfl) h2 h3 h4 hn
 ·rename_i t m q v ho
  obtain⟨st',w',h1,h2,h3⟩:=entStoreK_ok h (h.ev m) (h.ev q) (h.ev v) hk
  unfold Oper.wp
  have hrun:(execOp a.eval o).run P w=.ok .skip w':=by unfold execOp;rw[ho];simp only[Sem.run_bind,h1,Result.andThen_ok];rfl
  rw[hrun]
  exact hn ρ _ _ _ (h2.put o.dst (.top_ _)) h3
 ·cases hk
end
section
variable {R:Type} {P:Program} {Γ:FuncId→Option Callee} {w0 w:World} {F Xc:Nat→Prop} {ρ0:Base} {ρ:Rho} {st:St} {a:Act} {r:R} {Q:Exit→Act→World→Prop}
theorem Rel.slot(h:Rel w0 F Xc ρ0 ρ st a w){t:Nat}{d:D}(hd:∀y,a.tmps[t]?=some y→RdD w (XB st.objs ρ Xc) ρ d y):Rel w0 F Xc ρ0 ρ (st.put (some t) d) a w:=by
 refine⟨by simpa[St.put] using h.len,fun i d' y h1 h2=>?_,h.objs,h.sep,h.own,h.par,h.defers,h.frame,h.xcl,h.xc,h.ext⟩
 simp only[St.put,List.getElem?_set] at h1
 by_cases hit:t=i
 ·subst hit
  rw[if_pos rfl] at h1
  split at h1
  ·cases h1;exact hd y h2
  ·cases h1
 ·rw[if_neg hit] at h1
  exact h.env i d' y h1 h2
theorem off_ok{X:Nat→Prop}:RdD w X ρ offD undef:=⟨#[],rfl,rfl,fun i s y h=>by cases h⟩
theorem aOps_tail{ops:Array Oper}{tail:List Nat}(hΓ:GOK P Γ)(hG:Good P w0 F):∀(l:List Nat) {ρ:Rho} {st:St} {a:Act} {w:World} {k:St→Option R},Rel w0 F Xc ρ0 ρ st a w→aOps P Γ ops l st k=some r →
 (∀ρ' st' a' w',Rel w0 F Xc ρ0 ρ' st' a' w'→k st'=some r→wpOps P ops Q tail a' w')→wpOps P ops Q (l++tail) a w
 | [],ρ,st,a,w,k,h,hk,hn=>hn ρ st a w h hk
 | i::rest,ρ,st,a,w,k,h,hk,hn=>by
  simp only[aOps] at hk
  simp only[List.cons_append,wpOps]
  split at hk
  ·rename_i ho
   simp only[ho]
   exact aOps_tail hΓ hG rest h hk hn
  ·rename_i o ho
   simp only[ho]
   split at hk
   ·rename_i hg
    have hw:Region.wanted o (yielded ops a.tmps)=true:=by simp[Region.wanted,hg]
    rw[if_pos hw]
    exact .inl (aOp_ok hΓ hG h hk fun ρ' st' a' w' hR hk'=>aOps_tail hΓ hG rest hR hk' hn)
   ·rename_i j want hg
    split at hk
    case h_1=>cases hk
    rename_i t hdst
    have hr:=h.ev (.tmp t)
    have hev:ev st (.tmp t)=st.env.getD t D.top:=rfl
    rw[hev] at hr
    unfold offK at hk
    split at hk
    case h_1=>
     rename_i hoff
     rw[hoff] at hr
     obtain⟨vs,hvs,hl,_⟩:=hr
     have hu:a.eval (.tmp t)=.tuple #[]:=by
      rw[hvs]
      have:vs=#[]:=by simpa using hl
      rw[this]
     have hw:Region.wanted o (yielded ops a.tmps)=false:=by
      have hy:yielded ops a.tmps j=none:=by
       simp only[yielded,hdst,Option.bind_some]
       cases hc:a.tmps[t]? with
       | none=>rfl
       | some y=>
        have:a.eval (.tmp t)=y:=by simp[Act.eval,Array.getD_eq_getD_getElem?,hc]
        rw[this] at hu
        subst hu;rfl
      simp[Region.wanted,hg,hy]
     rw[if_neg (by rw[hw];decide)]
     exact aOps_tail hΓ hG rest (h.put o.dst off_ok) hk hn
    obtain⟨b,hb,hk1⟩:=asB_ok hr hk
    have hlt:t<a.tmps.size:=by
     apply Classical.byContradiction
     intro hge
     have:a.eval (.tmp t)=undef:=by simp[Act.eval,Array.getD_eq_getD_getElem?,Array.getElem?_eq_none (Nat.le_of_not_lt hge)]
     rw[this] at hb
     cases hb
    have hat:a.tmps[t]?=some (.bool b):=by
     have:a.eval (.tmp t)=a.tmps[t]:=by simp[Act.eval,Array.getD_eq_getD_getElem?,Array.getElem?_eq_getElem hlt]
     rw[Array.getElem?_eq_getElem hlt,←this,hb]
    have hw:Region.wanted o (yielded ops a.tmps)=(b==want):=by
     simp only[Region.wanted,hg,yielded,hdst,Option.bind_some,hat]
     cases b <;> cases want <;> rfl
    have hslot:Rel w0 F Xc ρ0 ρ (st.put (some t) (dB b)) a w:=h.slot fun y hy=>by
     rw[hat] at hy;cases hy;exact .bool b
    cases b with
    | true=>
     simp only[cond_true] at hk1
     cases want with
     | true=>
      rw[if_pos rfl] at hk1
      rw[if_pos (show Region.wanted o (yielded ops a.tmps)=true from hw)]
      exact .inl (aOp_ok hΓ hG hslot hk1 fun ρ' st' a' w' hR hk'=>aOps_tail hΓ hG rest hR hk' hn)
     | false=>
      rw[if_neg (by decide)] at hk1
      rw[if_neg (by rw[hw];decide)]
      exact aOps_tail hΓ hG rest (hslot.put o.dst off_ok) hk1 hn
    | false=>
     simp only[cond_false] at hk1
     cases want with
     | true=>
      rw[if_pos rfl] at hk1
      rw[if_neg (by rw[hw];decide)]
      exact aOps_tail hΓ hG rest (hslot.put o.dst off_ok) hk1 hn
     | false=>
      rw[if_neg (by decide)] at hk1
      rw[if_pos (show Region.wanted o (yielded ops a.tmps)=true from hw)]
      exact .inl (aOp_ok hΓ hG hslot hk1 fun ρ' st' a' w' hR hk'=>aOps_tail hΓ hG rest hR hk' hn)
theorem aOps_ok{ops:Array Oper}(hΓ:GOK P Γ)(hG:Good P w0 F)(l:List Nat){ρ:Rho}{st:St}{a:Act}{w:World}{k:St→Option R}(h:Rel w0 F Xc ρ0 ρ st a w)(hk:aOps P Γ ops l st k=some r)
 (hn:∀ρ' st' a' w',Rel w0 F Xc ρ0 ρ' st' a' w'→k st'=some r→Q .normal a' w'):wpOps P ops Q l a w:=by
 have:=aOps_tail (Q:=Q) (tail:=[]) hΓ hG l h hk hn
 rwa[List.append_nil] at this
end
inductive Sh where
 | int (k:IntKind)
 | bool
 | str
 | sl (n:Nat)
 | row (e:TypeId) (n:Nat) (key:Nat)
 | rr (e e2:TypeId) (n:Nat) (key:Nat)
 | tree
 | lit (c:C)
def Sh.ty:Sh→Type
 | .int _=>Int
 | .bool=>Bool
 | .str=>ByteArray
 | .sl _=>List T
 | .row _ _ _=>List T
 | .rr _ _ _ _=>List (List T)
 | .tree=>T
 | .lit _=>Unit
def Tup:List Sh→Type
 | []=>Unit
 | s::l=>s.ty×Tup l
inductive It where
 | slot (i:Nat)
 | aggs (i n:Nat)
 | box (k n:Nat)
 | boxr (i k n:Nat)
structure Hint where
 items:List It
 shapes:List Sh
def capsU(σ:List (Nat×Nat)):List (Nat×Nat)→List (Nat×Nat)→Bool
 | [],[]=>true
 | p::l,q::m=>σ.contains (p.1,q.1)&&p.2==q.2&&capsU σ l m
 | _,_=>false
def C.same(σ:List (Nat×Nat)):C→C→Bool
 | _,.top=>true
 | .box k j,.box k' j'=>σ.contains (k,k')&&j==j'
 | .row k,.row k'=>σ.contains (k,k')
 | .fn f l,.fn f' l'=>f==f'&&capsU σ l l'
 | .self u,.self u'=>u==u'
 | .t (.v v),.t (.v v')=>match plainFn v,plainFn v' with
  | some f,some f'=>f==f'
  | _,_=>false
 | _,_=>false
section
variable {R:Type}
@[irreducible] def rowsT(m:Nat)(l:List (List T)):List T:=l.map (T.sl m)
@[irreducible] def mapsT(m:Nat)(l:List (List T)):List T:=l.map fun r=>.agg [r.headD (.agg []),.sl m r.tail]
def outN(e:TypeId):Nat:=if e<1000000000 then 1 else e
def giveR(e:TypeId)(m:Nat)(l:List (List T)):List T:=if e<1000000000 then rowsT m l else mapsT m l
def getC(σ:List (Nat×Nat))(objs:List O)(s:Sh)(c:C)(f:s.ty→List (Option Nat)→List Nat→Option R):Option R:=match s with
 | .int k=>match c with
  | .t x=>ob (x.int? k) fun n=>f n [] []
  | _=>none
 | .bool=>match c with
  | .t x=>ob x.bool? fun b=>f b [] []
  | _=>none
 | .str=>match c with
  | .t x=>ob x.str? fun s=>f s [] []
  | _=>none
 | .sl n=>match c with
  | .t x=>ob (x.sl? n) fun l=>f l [] []
  | .row key=>match objs[key]? with
   | some (.row _ _ n' es)=>if n'=n then f es [] [key] else none
   | some (.mp _ _ n' es)=>if n'=n then f es [] [key] else none
   | _=>none
  | .cut key m lo len _=>match objs[key]? with
   | some (.row _ _ n' es)=>if n'=n∧m=n then f (cutN es lo len) [] [key] else none
   | _=>none
  | .rk k0=>match rrAt objs 64 k0 with
   | some K=>match objs[K]? with
    | some (.rr none e1 _ m l)=>if n=outN e1 then f (giveR e1 m l) [] [K] else none
    | _=>none
   | none=>none
  | _=>none
 | .rr e e2 n _=>match c with
  | .rk k0=>match rrAt objs 64 k0 with
   | some K=>match objs[K]? with
    | some (.rr none e' e2' n' l)=>if e'=e∧e2'=e2∧n'=n then f l [some K] [] else none
    | _=>none
   | none=>none
  | _=>none
 | .row e n _=>match c with
  | .t (.v (.slice none 0 0))=>if 0<n∧n<1000000000 then f [] [none] [] else none
  | .row key=>match objs[key]? with
   | some (.row false e' n' es)=>if n<1000000000∧e'=e∧n'=n then f es [some key] [] else none
   | some (.mp false e' n' es)=>if (1000000000≤n∧n<2000000000)∧e'=e∧n'=n then f es [some key] [] else none
   | some (.itr none e' n' es)=>if 2000000000≤n∧e'=e∧n'=n then f es [some key] [] else none
   | _=>none
  | _=>none
 | .tree=>match c with
  | .t x=>f x [] []
  | _=>none
 | .lit c'=>if c.same σ c' then f () [] [] else none
def getL(σ:List (Nat×Nat))(objs:List O):(l:List Sh)→List C→(Tup l→List (Option Nat)→List Nat→Option R)→Option R
 | [],[],f=>f () [] []
 | s::l,c::cs,f=>getC σ objs s c fun x rs zs=>getL σ objs l cs fun t rs' zs'=>f (x,t) (rs++rs') (zs++zs')
 | _,_,_=>none
end
def putC:(s:Sh)→s.ty→C
 | .int k,n=>.t (.v (.int k n))
 | .bool,b=>.t (.v (.bool b))
 | .str,s=>.t (.v (.string s))
 | .sl n,l=>.t (.sl n l)
 | .row _ _ key,_=>.row key
 | .rr _ _ _ key,_=>.rk key
 | .tree,x=>.t x
 | .lit c,_=>c
def putL:(l:List Sh)→Tup l→List C
 | [],_=>[]
 | s::l,t=>putC s t.1::putL l t.2
def rowsOf:(l:List Sh)→Tup l→List (Nat×O)
 | [],_=>[]
 | .row e n key::l,t=>(key,mkRow e n t.1)::rowsOf l t.2
 | .rr e e2 n key::l,t=>(key,.rr none e e2 n t.1)::rowsOf l t.2
 | _::l,t=>rowsOf l t.2
def gather(st:St):List It→Option (List C)
 | []=>some []
 | .slot i::l=>match st.env.getD i D.top,gather st l with
  | .s (.c c),some cs=>some (c::cs)
  | _,_=>none
 | .aggs i n::l=>match st.env.getD i D.top,gather st l with
  | .s (.agg a),some cs=>if a.length=n then some (a++cs) else none
  | _,_=>none
 | .box k n::l=>match st.objs[k]?,gather st l with
  | some (.box a),some cs=>if a.length=n then some (a++cs) else none
  | _,_=>none
 | .boxr i _ n::l=>match st.env.getD i D.top,gather st l with
  | .s (.c (.box key 0)),some cs=>match st.objs[key]? with
   | some (.box a)=>if a.length=n then some (a++cs) else none
   | _=>none
  | _,_=>none
def boxPairs(st:St):List It→List (Nat×Nat)
 | []=>[]
 | .box k _::l=>(k,k)::boxPairs st l
 | .boxr i k _::l=>match st.env.getD i D.top with
  | .s (.c (.box key 0))=>(key,k)::boxPairs st l
  | _=>boxPairs st l
 | _::l=>boxPairs st l
def rowPairs:List Sh→List C→List (Nat×Nat)
 | .row _ _ key::l,.row k::cs=>(k,key)::rowPairs l cs
 | _::l,_::cs=>rowPairs l cs
 | _,_=>[]
def scatter:List It→List C→St→St
 | [],_,st=>st
 | .slot i::l,cs,st=>scatter l cs.tail { st with env:=st.env.set i (.s (.c (cs.headD .top))) }
 | .aggs i n::l,cs,st=>scatter l (cs.drop n) { st with env:=st.env.set i (.s (.agg (cs.take n))) }
 | .box k n::l,cs,st=>scatter l (cs.drop n) { st with objs:=st.objs.set k (.box (cs.take n)) }
 | .boxr i k n::l,cs,st=>scatter l (cs.drop n) { st with env:=st.env.set i (.s (.c (.box k 0))),objs:=st.objs.set k (.box (cs.take n)) }
def setRows(objs:List O):List (Nat×O)→List O
 | []=>objs
 | p::l=>setRows (objs.set p.1 p.2) l
def boxKeys:List It→List Nat
 | []=>[]
 | .box k _::l=>k::boxKeys l
 | .boxr _ k _::l=>k::boxKeys l
 | _::l=>boxKeys l
def rowKeys:List Sh→List Nat
 | []=>[]
 | .row _ _ key::l=>key::rowKeys l
 | .rr _ _ _ key::l=>key::rowKeys l
 | _::l=>rowKeys l
def blank(np n m:Nat):St:={ np:=np,env:=List.replicate n D.top,objs:=List.replicate np .dead++List.replicate (m-np) .fresh }
def unpack(h:Hint)(np n m:Nat)(t:Tup h.shapes):St:=
 let st:=scatter h.items (putL h.shapes t) (blank np n m)
 { st with objs:=setRows st.objs (rowsOf h.shapes t) }
def Hint.ok(h:Hint)(m:Nat):Bool:=
 let bs:=boxKeys h.items
 let rs:=rowKeys h.shapes
 (bs++rs).all (fun k=>k<m)&&decide ((bs++rs).Nodup)
def keepOk(np:Nat):List Nat→List (Option Nat)→Bool
 | k::ks,s::ss=>(decide (np≤k)||s==some k)&&keepOk np ks ss
 | _,_=>true
def packK{R:Type}(h:Hint)(st:St)(f:Tup h.shapes→Option R):Option R:=match gather st h.items with
 | some cs=>let bp:=boxPairs st h.items
  getL (bp++rowPairs h.shapes cs) st.objs h.shapes cs fun t rs zs=>if h.ok st.objs.length&&keepOk st.np (rowKeys h.shapes) rs&&bp.all (fun p=>p.1==p.2||decide (st.np≤p.2))&&decide ((bp.map (·.1)).Nodup)&&decide (rs.filterMap id).Nodup&&zs.all (fun z=>!rs.contains (some z))&&decide (st.np≤st.objs.length) then f t else none
 | none=>none
section
variable {R:Type} {w0 w:World} {F Xc X'':Nat→Prop} {ρ0:Base} {ρ ρ'':Rho} {st:St} {a:Act} {r:R}
def srcOf:List Nat→List (Option Nat)→Nat→Option (Option Nat)
 | k::ks,s::ss,j=>if k=j then some s else srcOf ks ss j
 | _,_,_=>none
def nilV:Value:=.slice none 0 0
def hOf(ρ:Rho):Option Nat→Option Value
 | some k=>ρ k
 | none=>some nilV
theorem srcOf_get:∀(ks:List Nat) (ss:List (Option Nat)) (i:Nat) (k:Nat) (s:Option Nat),ks.Nodup→ks[i]?=some k→ss[i]?=some s→srcOf ks ss k=some s
 | [],_,i,k,s,_,h,_=>by simp at h
 | k'::ks,[],i,k,s,_,_,h=>by simp at h
 | k'::ks,s'::ss,i,k,s,hn,h1,h2=>by
  obtain⟨hk,hn'⟩:=List.nodup_cons.1 hn
  cases i with
  | zero=>simp at h1 h2;subst h1;subst h2;simp[srcOf]
  | succ i=>
   simp at h1 h2
   have:k'≠k:=fun e=>hk (e▸List.mem_of_getElem? h1)
   simp only[srcOf,if_neg this]
   exact srcOf_get ks ss i k s hn' h1 h2
theorem srcOf_some:∀(ks:List Nat) (ss:List (Option Nat)) (k:Nat) (s:Option Nat),srcOf ks ss k=some s→∃i:Nat,ks[i]?=some k∧ss[i]?=some s
 | [],_,k,s,h=>by simp[srcOf] at h
 | k'::ks,[],k,s,h=>by simp[srcOf] at h
 | k'::ks,s'::ss,k,s,h=>by
  simp only[srcOf] at h
  split at h
  ·rename_i e;cases h;exact⟨0,by simp[e],rfl⟩
  ·obtain⟨i,h1,h2⟩:=srcOf_some ks ss k s h
   exact⟨i+1,by simpa using h1,by simpa using h2⟩
structure Turn (ρ ρ'':Rho) (X X'':Nat→Prop) (objs:List O) (keys:List Nat) (src:List (Option Nat)) (zs:List Nat) (σ:List (Nat×Nat)):Prop where
 sub:∀b,X'' b→X b
 len:keys.length=src.length
 rows:∀(i:Nat) k s,keys[i]?=some k→src[i]?=some s→ρ'' k=hOf ρ s
 trees:∀z∈zs,∀v b,ρ z=some v→blkIn v b→¬X'' b
 lit:∀p∈σ,∀v,ρ p.1=some v→ρ'' p.2=some v
theorem plainFn_eq{v:Value}{f:FuncId}(h:plainFn v=some f):v=.func (.func f) #[] #[]:=by
 unfold plainFn at h
 split at h
 ·split at h
  ·rename_i hemp
   simp only[Bool.and_eq_true,Array.isEmpty_iff] at hemp
   cases h
   rw[hemp.1,hemp.2]
  ·cases h
 ·cases h
theorem capsU_ok{σ:List (Nat×Nat)}(hl:∀p∈σ,∀v,ρ p.1=some v→ρ'' p.2=some v):∀{l m:List (Nat×Nat)} {vs:List Value},capsU σ l m=true→vs.length=l.length →
 (∀(i:Nat) p v,l[i]?=some p→vs[i]?=some v→∃h,ρ p.1=some h∧PtrAt h p.2 v)→vs.length=m.length∧∀(i:Nat) p v,m[i]?=some p→vs[i]?=some v→∃h,ρ'' p.1=some h∧PtrAt h p.2 v
 | [],[],vs,_,hv,h=>⟨hv,fun i p v h1 _=>by simp at h1⟩
 | p::l,q::m,[],_,hv,h=>by simp at hv
 | p::l,q::m,v::vs,hc,hv,h=>by
  simp only[capsU,Bool.and_eq_true,beq_iff_eq,List.contains_iff_mem] at hc
  obtain⟨⟨h1,h2⟩,h3⟩:=hc
  obtain⟨r1,r2⟩:=capsU_ok hl h3 (vs:=vs) (by simpa using hv) (fun i p v e1 e2=>h (i+1) p v (by simpa using e1) (by simpa using e2))
  refine⟨by simp[r1],fun i p' v' e1 e2=>?_⟩
  cases i with
  | zero=>
   simp at e1 e2
   subst e1;subst e2
   obtain⟨hh,f1,f2⟩:=h 0 p v rfl rfl
   exact⟨hh,hl _ h1 hh f1,by rw[←h2];exact f2⟩
  | succ i=>exact r2 i p' v' (by simpa using e1) (by simpa using e2)
 | [],_::_,_,hc,_,_=>by simp[capsU] at hc
 | _::_,[],_,hc,_,_=>by simp[capsU] at hc
theorem same_ok{X:Nat→Prop}{σ:List (Nat×Nat)}{c c':C}{y:Value}(hX:∀b,X'' b→X b)(hl:∀p∈σ,∀v,ρ p.1=some v→ρ'' p.2=some v)(hs:c.same σ c'=true)(h:RdC1 w X ρ c y):RdC1 w X'' ρ'' c' y:=by
 unfold C.same at hs
 split at hs
 ·exact .inl rfl
 ·simp only[Bool.and_eq_true,beq_iff_eq,List.contains_iff_mem] at hs
  obtain⟨h0,rfl⟩:=hs
  rcases h with h | ⟨⟨v,e1,e2⟩,h1⟩
  ·cases h
  ·exact .inr ⟨⟨v,hl _ h0 v e1,e2⟩,h1⟩
 ·simp only[List.contains_iff_mem] at hs
  rcases h with h | ⟨h,h1⟩
  ·cases h
  ·exact .inr ⟨hl _ hs _ h,h1⟩
 ·simp only[Bool.and_eq_true,beq_iff_eq] at hs
  obtain⟨rfl,hc⟩:=hs
  rcases h with h | ⟨⟨vs,e1,e2,e3⟩,h1⟩
  ·cases h
  ·obtain⟨r1,r2⟩:=capsU_ok hl hc e2 e3
   exact .inr ⟨⟨vs,e1,r1,r2⟩,h1⟩
 ·rcases h with h | ⟨h,h1⟩
  ·cases h
  ·exact .inr ⟨trivial,h1⟩
 ·split at hs
  ·rename_i f f' e1 e2
   have:=beq_iff_eq.1 hs
   subst this
   rw[plainFn_eq e1] at h
   rw[plainFn_eq e2]
   rcases h with h | ⟨h,h1⟩
   ·cases h
   ·exact .inr ⟨by have:=Rd.inv_v h;subst this;exact .v _,h1⟩
  ·cases hs
 ·cases hs
theorem rr_tree{X X'':Nat→Prop}{hole:Option Nat}{e e2:TypeId}{n:Nat}{l:List (List T)}{vs:Array Value}{v:Value}(h:okR w X hole e e2 n l (.tuple vs))(hv:vs[0]?=some v)(hX:∀b,X'' b→X b)(hb:∀b,blkIn (.tuple vs) b→¬X'' b)
 (hh:hole=none) (hesm:e<1000000000):Rd w X'' (.sl 1 (rowsT n l)) v:=by
 subst hh
 obtain⟨h0,ho,hs,xs,g1,g2,g3,g4,g5,g6⟩:=h
 cases g1
 have:ho=v:=by simpa using hv
 subst this
 have hlen:(rowsT n l).length=l.length:=by unfold rowsT;simp
 have hget:∀(i:Nat) t,(rowsT n l)[i]?=some t→∃m,l[i]?=some m∧t=.sl n m:=fun i t hi=>by
  unfold rowsT at hi
  rw[List.getElem?_map] at hi
  cases hl:l[i]? with
  | none=>simp[hl] at hi
  | some m=>simp only[hl,Option.map_some,Option.some.injEq] at hi;exact⟨m,rfl,hi.symm⟩
 have hflat:flat (rowsT n l)=rowsT n l:=flat_one fun t ht=>by
  obtain⟨i,hi,rfl⟩:=List.getElem_of_mem ht
  obtain⟨m,_,e⟩:=hget i _ (List.getElem?_eq_getElem hi)
  rw[e];rfl
 have huni:Uni 1 (rowsT n l):=fun t ht=>by
  obtain⟨i,hi,rfl⟩:=List.getElem_of_mem ht
  obtain⟨m,_,e⟩:=hget i _ (List.getElem?_eq_getElem hi)
  rw[e];rfl
 replace g2:rowAt w e 1 ho l.length xs:=by
  rcases g2 with⟨_,g2⟩ | ⟨g2,_⟩
  ·exact g2
  ·exact(Nat.not_lt.2 g2 hesm).elim
 have hxl:=g2.1
 rw[Nat.mul_one] at hxl
 have inner:∀(i:Nat) t y,(rowsT n l)[i]?=some t→xs[i]?=some y→Rd w X'' t y:=fun i t y h1 h2=>by
  obtain⟨m,hm,rfl⟩:=hget i t h1
  have hil:i<l.length:=(List.getElem?_eq_some_iff.1 hm).1
  have hsi:hs[i]?=some hs[i]:=List.getElem?_eq_getElem (by omega)
  have e1:=(g4 i y _ h2 hsi).2 (by simp)
  rw[←e1] at hsi
  obtain⟨q1,ys,q2,q3⟩:=g5 i m y hm hsi
  rw[rwR_row hesm] at q1 q2 q3
  exact row_tree (ρ:=fun _=>none) (X:=X) (fz:=false) (e:=e2) (l:=m) ⟨h0,q1,⟨ys,q2,q3⟩,fun hc=>by cases hc⟩ hX (fun b hyb=>hb b (.inr ⟨_,rfl,y,by simp[List.mem_of_getElem? hsi],hyb⟩))
 rcases g2.2 with⟨hn | ⟨a,hn⟩,hz⟩ | ⟨g,off,cap,cur,hn,z2,z3,z4,z5,z6,z7⟩
 ·have:l=[]:=List.eq_nil_of_length_eq_zero hz
  subst this
  subst hn
  have:rowsT n []=[]:=by unfold rowsT;rfl
  rw[this];exact .nil 1 (by omega)
 ·have:l=[]:=List.eq_nil_of_length_eq_zero hz
  subst this
  subst hn
  have:rowsT n []=[]:=by unfold rowsT;rfl
  rw[this]
  have key:Rd w X'' (.sl 1 []) (.slice (some a) ([]:List T).length 0):=.sl 1 [] a 0 [] (by omega) (Nat.le_refl _) (by unfold maxLen;omega) (.nil 1) rfl (fun i y h=>by simp at h) (fun i t y h _=>by simp[flat] at h)
  exact key
 ·subst hn
  rw[←hlen]
  refine .sl 1 _ ⟨g,off,none⟩ cap xs (by omega) (by omega) z5 huni (by rw[hflat,hlen,hxl]) (fun i y hi=>?_) (fun i t y h1 h2=>inner i t y (by rw[←hflat];exact h1) h2)
  have hil:i<l.length:=by have:=(List.getElem?_eq_some_iff.1 hi).1;omega
  refine⟨g2.cells rfl i y hi,?_,(g4 i y _ hi (List.getElem?_eq_getElem (by omega))).1⟩
  exact hb g (.inr ⟨_,rfl,.slice (some ⟨g,off,none⟩) l.length cap,by simp,by simp[blk];omega⟩)
theorem rr_map{X X'':Nat→Prop}{hole:Option Nat}{e e2:TypeId}{n:Nat}{l:List (List T)}{vs:Array Value}{v:Value}(h:okR w X hole e e2 n l (.tuple vs))(hv:vs[0]?=some v)(hX:∀b,X'' b→X b)(hb:∀b,blkIn (.tuple vs) b→¬X'' b)
 (hh:hole=none) (hbig:1000000000≤e):Rd w X'' (.sl e (mapsT n l)) v:=by
 subst hh
 have hcc:e=(e-1000000000)+1000000000:=(Nat.sub_add_cancel hbig).symm
 have h0:=h.1
 obtain⟨hs,g,es,clock,rfl,rfl,hg,hl,hhs,hkeys,hone,hcl,hborn,hval,hrow,hsep⟩:=h.map hv hcc
 have hget:∀(i:Nat) t,(mapsT n l)[i]?=some t→∃m,l[i]?=some m∧t=.agg [m.headD (.agg []),.sl n m.tail]:=fun i t hi=>by
  unfold mapsT at hi
  rw[List.getElem?_map] at hi
  obtain⟨m,h1,h2⟩:=Option.map_eq_some_iff.1 hi
  exact⟨m,h1,h2.symm⟩
 refine .mp e _ g es clock hbig hg (hb g (.inr ⟨_,rfl,.map (some g),by simp,rfl⟩)) (by unfold mapsT;simpa using hl) (fun i t en h1 h2=>?_) ⟨hcl,hborn⟩ (fun i k v en h1 h2=>?_)
 ·obtain⟨m,hm,rfl⟩:=hget i t h1
  obtain⟨k,m',rfl,hk⟩:=hkeys i m en hm h2
  exact⟨k,_,rfl,hk,.inr (hone i en h2)⟩
 ·obtain⟨m,hm,e1⟩:=hget i _ h1
  simp only[T.agg.injEq,List.cons.injEq,and_true] at e1
  obtain⟨_,rfl⟩:=e1
  have hil:i<l.length:=(List.getElem?_eq_some_iff.1 hm).1
  have hsi:hs[i]?=some hs[i]:=List.getElem?_eq_getElem (by omega)
  have e1:=hval i en _ h2 hsi (by simp)
  rw[←e1] at hsi
  obtain⟨q1,ys,q2,q3⟩:=hrow i m en.val hm hsi
  have hrw:rwR e m=m.tail:=by unfold rwR tailL;rw[if_neg (Nat.not_lt.2 hbig)]
  rw[hrw] at q1 q2 q3
  exact row_tree (ρ:=fun _=>none) (X:=X) (fz:=false) (e:=e2) (l:=m.tail) ⟨h0,q1,⟨ys,q2,q3⟩,fun hc=>by cases hc⟩ hX (fun b hyb=>hb b (.inr ⟨_,rfl,en.val,by simp[List.mem_of_getElem? hsi],hyb⟩))
theorem rr_give{X X'':Nat→Prop}{hole:Option Nat}{e e2:TypeId}{n:Nat}{l:List (List T)}{vs:Array Value}{v:Value}(h:okR w X hole e e2 n l (.tuple vs))(hv:vs[0]?=some v)(hX:∀b,X'' b→X b)(hb:∀b,blkIn (.tuple vs) b→¬X'' b)
 (hh:hole=none:=by rfl):Rd w X'' (.sl (outN e) (giveR e n l)) v:=by
 unfold outN giveR
 split
 ·rename_i hlt
  exact rr_tree h hv hX hb hh hlt
 ·rename_i hge
  exact rr_map h hv hX hb hh (Nat.not_lt.1 hge)
theorem getC_ok{σ:List (Nat×Nat)}{s:Sh}{c:C}{f:s.ty→List (Option Nat)→List Nat→Option R}(h:Rel w0 F Xc ρ0 ρ st a w)(hf:getC σ st.objs s c f=some r):
 ∃x rs zs,f x rs zs=some r∧rs.length=(rowKeys [s]).length ∧
  (∀(i:Nat) k o,(rowsOf [s] (x,()))[i]?=some (k,o)→(rowKeys [s])[i]?=some k∧∃sr,rs[i]?=some sr∧o.rowf=true∧(∀k',sr=some k'→st.objs[k']?=some o)∧(sr=none→∃e n,o=.row false e n []∧(0<n∧n<1000000000))) ∧
  (∀z∈zs,∃o,st.objs[z]?=some o∧o.giv=true)∧(∀p∈rowPairs [s] [c],rowKeys [s]=[p.2]∧rs=[some p.1]) ∧
  ∀(ρ'':Rho) (X'':Nat→Prop),Turn ρ ρ'' (XB st.objs ρ Xc) X'' st.objs (rowKeys [s]) rs zs σ→∀y,RdC1 w (XB st.objs ρ Xc) ρ c y→RdC1 w X'' ρ'' (putC s x) y:=by
 have norow:∀{P:Nat→Nat→O→Prop},∀(i:Nat) k o,([]:List (Nat×O))[i]?=some (k,o)→P i k o:=fun i k o h=>by simp at h
 cases s with
 | int kd=>
  simp only[getC] at hf
  split at hf
  ·rename_i x
   obtain⟨n,hn,hf⟩:=ob_some hf
   refine⟨n,[],[],hf,rfl,norow,by simp,by simp[rowPairs],fun ρ'' X'' _ y hy=>?_⟩
   rcases hy with hy | ⟨hy,h1⟩
   ·cases hy
   ·have:=int_ok hy hn;subst this;exact .inr ⟨.v _,rfl⟩
  ·cases hf
 | bool=>
  simp only[getC] at hf
  split at hf
  ·rename_i x
   obtain⟨n,hn,hf⟩:=ob_some hf
   refine⟨n,[],[],hf,rfl,norow,by simp,by simp[rowPairs],fun ρ'' X'' _ y hy=>?_⟩
   rcases hy with hy | ⟨hy,h1⟩
   ·cases hy
   ·have:=bool_ok hy hn;subst this;exact .inr ⟨.v _,rfl⟩
  ·cases hf
 | str=>
  simp only[getC] at hf
  split at hf
  ·rename_i x
   obtain⟨n,hn,hf⟩:=ob_some hf
   refine⟨n,[],[],hf,rfl,norow,by simp,by simp[rowPairs],fun ρ'' X'' _ y hy=>?_⟩
   rcases hy with hy | ⟨hy,h1⟩
   ·cases hy
   ·have:=str_ok hy hn;subst this;exact .inr ⟨.v _,rfl⟩
  ·cases hf
 | sl n=>
  simp only[getC] at hf
  split at hf
  ·rename_i x
   obtain⟨l,hl,hf⟩:=ob_some hf
   refine⟨l,[],[],hf,rfl,norow,by simp,by simp[rowPairs],fun ρ'' X'' ht y hy=>?_⟩
   rcases hy with hy | ⟨hy,h1⟩
   ·cases hy
   ·unfold T.sl? at hl
    split at hl
    ·split at hl
     case isFalse=>cases hl
     rename_i hnm
     cases hl
     have:=Rd.inv_v hy
     subst this
     exact .inr ⟨.nil n hnm,rfl⟩
    ·split at hl
     ·rename_i hk
      cases hl;subst hk
      exact .inr ⟨Rd.weak hy ht.sub,h1⟩
     ·cases hl
    ·cases hl
  ·rename_i key
   split at hf
   ·rename_i fz e n' es hob
    split at hf
    ·rename_i hn
     subst hn
     refine⟨es,[],[key],hf,rfl,norow,fun z hz=>by simp at hz;subst hz;exact⟨_,hob,rfl⟩,by simp[rowPairs],fun ρ'' X'' ht y hy=>?_⟩
     rcases hy with hy | ⟨hy,h1⟩
     ·cases hy
     ·obtain⟨v,e1,e2⟩:=h.objs key _ hob
      have hyy:ρ key=some y:=hy
      rw[hyy] at e1
      cases e1
      exact .inr ⟨row_tree e2 ht.sub (fun b hb=>ht.trees key (by simp) y b hyy (.inl hb)),h1⟩
    ·cases hf
   ·rename_i fz e n' es hob
    split at hf
    ·rename_i hn
     subst hn
     refine⟨es,[],[key],hf,rfl,norow,fun z hz=>by simp at hz;subst hz;exact⟨_,hob,rfl⟩,by simp[rowPairs],fun ρ'' X'' ht y hy=>?_⟩
     rcases hy with hy | ⟨hy,h1⟩
     ·cases hy
     ·obtain⟨v,e1,e2⟩:=h.objs key _ hob
      have hyy:ρ key=some y:=hy
      rw[hyy] at e1
      cases e1
      exact .inr ⟨mp_tree e2 ht.sub (fun b hb=>ht.trees key (by simp) y b hyy (.inl hb)),h1⟩
    ·cases hf
   ·cases hf
  ·rename_i key m lo len tg
   split at hf
   ·rename_i fz e n' es hob
    split at hf
    ·rename_i hn
     obtain⟨rfl,rfl⟩:=hn
     refine⟨_,[],[key],hf,rfl,norow,fun z hz=>by simp at hz;subst hz;exact⟨_,hob,rfl⟩,by simp[rowPairs],fun ρ'' X'' ht y hy=>?_⟩
     rcases hy with hy | ⟨⟨v,q1,q2⟩,h1⟩
     ·cases hy
     ·obtain⟨v',e1,e2⟩:=h.objs key _ hob
      rw[q1] at e1
      cases e1
      exact .inr ⟨cut_tree e2 q2 ht.sub (fun b hb=>ht.trees key (by simp) v b q1 (.inl hb)),h1⟩
    ·cases hf
   ·cases hf
  ·rename_i k0
   split at hf
   ·rename_i K hK
    split at hf
    ·rename_i e1 m l hob
     split at hf
     ·rename_i hn
      subst hn
      refine⟨_,[],[K],hf,rfl,norow,fun z hz=>by simp at hz;subst hz;exact⟨_,hob,rfl⟩,by simp[rowPairs],fun ρ'' X'' ht y hy=>?_⟩
      rcases hy with hy | ⟨⟨vs,q1,q2⟩,h1⟩
      ·cases hy
      ·obtain⟨hole,_,_,_,_,vs',f1,f2,f3,f4⟩:=rrAt_ok h hK q1
       rw[hob] at f1
       cases f1
       exact .inr ⟨rr_give f4 (f3.trans q2) ht.sub (fun b hb=>ht.trees K (by simp) _ b f2 hb),h1⟩
     ·cases hf
    ·cases hf
   ·cases hf
  ·cases hf
 | rr e e2 n key=>
  simp only[getC] at hf
  split at hf
  ·rename_i k0
   split at hf
   ·rename_i K hK
    split at hf
    ·rename_i e' e2' n' l hob
     split at hf
     ·rename_i hn
      obtain⟨rfl,rfl,rfl⟩:=hn
      refine⟨l,[some K],[],hf,rfl,fun i k o hi=>?_,by simp,by simp[rowPairs],fun ρ'' X'' ht y hy=>?_⟩
      ·cases i with
       | zero=>
        simp only[rowsOf,List.getElem?_cons_zero,Option.some.injEq,Prod.mk.injEq] at hi
        obtain⟨rfl,rfl⟩:=hi
        exact⟨rfl,some K,rfl,rfl,fun k'' hk=>by cases hk;exact hob,by simp⟩
       | succ i=>simp[rowsOf] at hi
      ·rcases hy with hy | ⟨⟨vs,q1,q2⟩,h1⟩
       ·cases hy
       ·obtain⟨hole,_,_,_,_,vs',f1,f2,f3,f4⟩:=rrAt_ok h hK q1
        exact .inr ⟨⟨vs',(ht.rows 0 key (some K) rfl rfl).trans f2,f3.trans q2⟩,h1⟩
     ·cases hf
    ·cases hf
   ·cases hf
  ·cases hf
 | row e n key=>
  simp only[getC] at hf
  split at hf
  ·split at hf
   ·rename_i hn
    refine⟨[],[none],[],hf,rfl,fun i k o hi=>?_,by simp,by simp[rowPairs],fun ρ'' X'' ht y hy=>?_⟩
    ·cases i with
     | zero=>
      simp only[rowsOf,List.getElem?_cons_zero,Option.some.injEq,Prod.mk.injEq] at hi
      obtain⟨rfl,rfl⟩:=hi
      exact⟨rfl,none,rfl,mkRow_rowf _ _ _,by simp,fun _=>⟨e,n,by unfold mkRow;rw[if_pos hn.2],hn⟩⟩
     | succ i=>simp[rowsOf] at hi
    ·rcases hy with hy | ⟨hy,h1⟩
     ·cases hy
     ·have:=Rd.inv_v hy
      subst this
      exact .inr ⟨ht.rows 0 key none rfl rfl,rfl⟩
   ·cases hf
  ·rename_i k'
   split at hf
   ·rename_i e' n' es hob
    split at hf
    ·rename_i hc
     obtain⟨hnm,rfl,rfl⟩:=hc
     refine⟨es,[some k'],[],hf,rfl,fun i k o hi=>?_,by simp,fun p hp=>by simp only[rowPairs,List.mem_singleton] at hp;subst hp;exact⟨rfl,rfl⟩,fun ρ'' X'' ht y hy=>?_⟩
     ·cases i with
      | zero=>
       simp only[rowsOf,List.getElem?_cons_zero,Option.some.injEq,Prod.mk.injEq] at hi
       obtain⟨rfl,rfl⟩:=hi
       exact⟨rfl,some k',rfl,mkRow_rowf _ _ _,fun k'' hk=>by cases hk;unfold mkRow;rw[if_pos hnm];exact hob,by simp⟩
      | succ i=>simp[rowsOf] at hi
     ·rcases hy with hy | ⟨hy,h1⟩
      ·cases hy
      ·exact .inr ⟨(ht.rows 0 key (some k') rfl rfl).trans hy,h1⟩
    ·cases hf
   ·rename_i e' n' es hob
    split at hf
    ·rename_i hc
     obtain⟨hnm,rfl,rfl⟩:=hc
     refine⟨es,[some k'],[],hf,rfl,fun i k o hi=>?_,by simp,fun p hp=>by simp only[rowPairs,List.mem_singleton] at hp;subst hp;exact⟨rfl,rfl⟩,fun ρ'' X'' ht y hy=>?_⟩
     ·cases i with
      | zero=>
       simp only[rowsOf,List.getElem?_cons_zero,Option.some.injEq,Prod.mk.injEq] at hi
       obtain⟨rfl,rfl⟩:=hi
       exact⟨rfl,some k',rfl,mkRow_rowf _ _ _,fun k'' hk=>by cases hk;unfold mkRow;rw[if_neg (by omega),if_pos (by omega)];exact hob,by simp⟩
      | succ i=>simp[rowsOf] at hi
     ·rcases hy with hy | ⟨hy,h1⟩
      ·cases hy
      ·exact .inr ⟨(ht.rows 0 key (some k') rfl rfl).trans hy,h1⟩
    ·cases hf
   ·rename_i e' n' es hob
    split at hf
    ·rename_i hc
     obtain⟨hnm,rfl,rfl⟩:=hc
     refine⟨es,[some k'],[],hf,rfl,fun i k o hi=>?_,by simp,fun p hp=>by simp only[rowPairs,List.mem_singleton] at hp;subst hp;exact⟨rfl,rfl⟩,fun ρ'' X'' ht y hy=>?_⟩
     ·cases i with
      | zero=>
       simp only[rowsOf,List.getElem?_cons_zero,Option.some.injEq,Prod.mk.injEq] at hi
       obtain⟨rfl,rfl⟩:=hi
       exact⟨rfl,some k',rfl,mkRow_rowf _ _ _,fun k'' hk=>by cases hk;unfold mkRow;rw[if_neg (by omega),if_neg (by omega)];exact hob,by simp⟩
      | succ i=>simp[rowsOf] at hi
     ·rcases hy with hy | ⟨hy,h1⟩
      ·cases hy
      ·exact .inr ⟨(ht.rows 0 key (some k') rfl rfl).trans hy,h1⟩
    ·cases hf
   ·cases hf
  ·cases hf
 | tree=>
  simp only[getC] at hf
  split at hf
  ·rename_i x
   refine⟨x,[],[],hf,rfl,norow,by simp,by simp[rowPairs],fun ρ'' X'' ht y hy=>?_⟩
   rcases hy with hy | ⟨hy,h1⟩
   ·cases hy
   ·exact .inr ⟨Rd.weak hy ht.sub,h1⟩
  ·cases hf
 | lit c'=>
  simp only[getC] at hf
  split at hf
  ·rename_i hs
   refine⟨(),[],[],hf,rfl,norow,by simp,by simp[rowPairs],fun ρ'' X'' ht y hy=>same_ok ht.sub ht.lit hs hy⟩
  ·cases hf
theorem rowKeys_cons(s:Sh)(l:List Sh):rowKeys (s::l)=rowKeys [s]++rowKeys l:=by cases s <;> rfl
theorem rowPairs_cons(s:Sh)(l:List Sh)(c:C)(cs:List C):rowPairs (s::l) (c::cs)=rowPairs [s] [c]++rowPairs l cs:=by cases s <;> cases c <;> simp[rowPairs]
theorem rowsOf_cons(s:Sh)(l:List Sh)(x:s.ty)(t:Tup l):rowsOf (s::l) (x,t)=rowsOf [s] (x,())++rowsOf l t:=by cases s <;> rfl
theorem rowsOf_len:∀(l:List Sh) (t:Tup l),(rowsOf l t).length=(rowKeys l).length
 | [],_=>rfl
 | .int _::l,t=>rowsOf_len l t.2
 | .bool::l,t=>rowsOf_len l t.2
 | .str::l,t=>rowsOf_len l t.2
 | .sl _::l,t=>rowsOf_len l t.2
 | .row _ _ _::l,t=>by simp[rowsOf,rowKeys,rowsOf_len l t.2]
 | .rr _ _ _ _::l,t=>by simp[rowsOf,rowKeys,rowsOf_len l t.2]
 | .tree::l,t=>rowsOf_len l t.2
 | .lit _::l,t=>rowsOf_len l t.2
theorem getL_ok{σ:List (Nat×Nat)}(h:Rel w0 F Xc ρ0 ρ st a w):∀(l:List Sh) (cs:List C) (f:Tup l→List (Option Nat)→List Nat→Option R),getL σ st.objs l cs f=some r →
 ∃t rs zs,f t rs zs=some r∧rs.length=(rowKeys l).length ∧
  (∀(i:Nat) k o,(rowsOf l t)[i]?=some (k,o)→(rowKeys l)[i]?=some k∧∃sr,rs[i]?=some sr∧o.rowf=true∧(∀k',sr=some k'→st.objs[k']?=some o)∧(sr=none→∃e n,o=.row false e n []∧(0<n∧n<1000000000))) ∧
  (∀z∈zs,∃o,st.objs[z]?=some o∧o.giv=true)∧(∀p∈rowPairs l cs,∃i:Nat,(rowKeys l)[i]?=some p.2∧rs[i]?=some (some p.1)) ∧
  ∀(ρ'':Rho) (X'':Nat→Prop),Turn ρ ρ'' (XB st.objs ρ Xc) X'' st.objs (rowKeys l) rs zs σ→∀ys,RdL w (XB st.objs ρ Xc) ρ cs ys→RdL w X'' ρ'' (putL l t) ys
 | [],[],f,hf=>⟨(),[],[],hf,rfl,fun i k o hi=>by simp[rowsOf] at hi,by simp,by simp[rowPairs],fun _ _ _ ys hy=>⟨hy.1,fun i c y h1 _=>by simp[putL] at h1⟩⟩
 | [],_::_,f,hf=>by simp[getL] at hf
 | _::_,[],f,hf=>by simp[getL] at hf
 | s::l,c::cs,f,hf=>by
  simp only[getL] at hf
  obtain⟨x,rs1,zs1,hf1,len1,row1,z1,pr1,turn1⟩:=getC_ok h hf
  obtain⟨t,rs2,zs2,hf2,len2,row2,z2,pr2,turn2⟩:=getL_ok h l cs _ hf1
  have hlen1:=rowsOf_len [s] (x,())
  refine⟨(x,t),rs1++rs2,zs1++zs2,hf2,by rw[List.length_append,rowKeys_cons,List.length_append,len1,len2],fun i k o hi=>?_,fun z hz=>?_,fun p hp=>?_,fun ρ'' X'' ht ys hy=>?_⟩
  ·rw[rowsOf_cons,List.getElem?_append] at hi
   rw[rowKeys_cons,List.getElem?_append,List.getElem?_append]
   split at hi
   ·rename_i hlt
    rw[if_pos (by omega),if_pos (by omega)]
    exact row1 i k o hi
   ·rename_i hlt
    rw[if_neg (by omega),if_neg (by omega),len1]
    rw[hlen1] at hi
    exact row2 _ k o hi
  ·rcases List.mem_append.1 hz with hz | hz
   ·exact z1 z hz
   ·exact z2 z hz
  ·rw[rowPairs_cons] at hp
   rw[rowKeys_cons]
   rcases List.mem_append.1 hp with hp | hp
   ·obtain⟨e1,e2⟩:=pr1 p hp
    exact⟨0,by rw[e1];rfl,by rw[e2];rfl⟩
   ·obtain⟨i,e1,e2⟩:=pr2 p hp
    exact⟨i+rs1.length,by rw[List.getElem?_append,if_neg (by omega),←len1,Nat.add_sub_cancel];exact e1,by rw[List.getElem?_append,if_neg (by omega),Nat.add_sub_cancel];exact e2⟩
  ·cases ys with
   | nil=>simp[RdL] at hy
   | cons y ys=>
    have hk:=ht.rows
    rw[rowKeys_cons] at hk
    have t1:Turn ρ ρ'' (XB st.objs ρ Xc) X'' st.objs (rowKeys [s]) rs1 zs1 σ:=
     ⟨ht.sub,len1.symm,fun i k sr h1 h2=>hk i k sr (by rw[List.getElem?_append,if_pos (List.getElem?_eq_some_iff.1 h1).1];exact h1) (by rw[List.getElem?_append,if_pos (List.getElem?_eq_some_iff.1 h2).1];exact h2),
      fun z hz=>ht.trees z (List.mem_append.2 (.inl hz)),ht.lit⟩
    have t2:Turn ρ ρ'' (XB st.objs ρ Xc) X'' st.objs (rowKeys l) rs2 zs2 σ:=
     ⟨ht.sub,len2.symm,fun i k sr h1 h2=>hk (i+rs1.length) k sr (by rw[List.getElem?_append,if_neg (by omega),←len1,Nat.add_sub_cancel];exact h1) (by rw[List.getElem?_append,if_neg (by omega),Nat.add_sub_cancel];exact h2),
      fun z hz=>ht.trees z (List.mem_append.2 (.inr hz)),ht.lit⟩
    have hy2:RdL w (XB st.objs ρ Xc) ρ cs ys:=⟨by simpa using hy.1,fun i c y h1 h2=>hy.2 (i+1) c y (by simpa using h1) (by simpa using h2)⟩
    have r2:=turn2 ρ'' X'' t2 ys hy2
    refine⟨by simp[putL,r2.1],fun i c' y' h1 h2=>?_⟩
    cases i with
    | zero=>simp[putL] at h1 h2;subst h1;subst h2;exact turn1 ρ'' X'' t1 _ (hy.2 0 c _ rfl rfl)
    | succ i=>exact r2.2 i c' y' (by simpa[putL] using h1) (by simpa using h2)
theorem gather_vals(h:Rel w0 F Xc ρ0 ρ st a w):∀(items:List It) (cs:List C),gather st items=some cs→∃ys,RdL w (XB st.objs ρ Xc) ρ cs ys
 | [],cs,hg=>by simp only[gather,Option.some.injEq] at hg;subst hg;exact⟨[],rfl,fun i c y h1 _=>by simp at h1⟩
 | .slot i::l,cs,hg=>by
  simp only[gather] at hg
  split at hg
  ·rename_i c cs' he hg'
   cases hg
   obtain⟨ys,hy⟩:=gather_vals h l cs' hg'
   have hr:=h.ev (.tmp i)
   have:ev st (.tmp i)=.s (.c c):=he
   rw[this] at hr
   exact⟨_,(RdL.one (c:=c) hr).append hy⟩
  ·cases hg
 | .aggs i n::l,cs,hg=>by
  simp only[gather] at hg
  split at hg
  ·rename_i c cs' he hg'
   split at hg
   ·cases hg
    obtain⟨ys,hy⟩:=gather_vals h l cs' hg'
    have hr:=h.ev (.tmp i)
    have:ev st (.tmp i)=.s (.agg c):=he
    rw[this] at hr
    obtain⟨vs,_,hvs⟩:=hr
    exact⟨_,hvs.append hy⟩
   ·cases hg
  ·cases hg
 | .box k n::l,cs,hg=>by
  simp only[gather] at hg
  split at hg
  ·rename_i c cs' ho hg'
   split at hg
   ·cases hg
    obtain⟨ys,hy⟩:=gather_vals h l cs' hg'
    obtain⟨v,_,g,zs,ty,_,_,_,hz⟩:=h.objs k _ ho
    exact⟨_,hz.append hy⟩
   ·cases hg
  ·cases hg
 | .boxr i k n::l,cs,hg=>by
  simp only[gather] at hg
  split at hg
  ·rename_i key cs' he hg'
   split at hg
   ·rename_i c ho
    split at hg
    ·cases hg
     obtain⟨ys,hy⟩:=gather_vals h l cs' hg'
     obtain⟨v,_,g,zs,ty,_,_,_,hz⟩:=h.objs key _ ho
     exact⟨_,hz.append hy⟩
    ·cases hg
   ·cases hg
  ·cases hg
end
section
variable {R:Type} {w0 w:World} {F Xc X X'':Nat→Prop} {ρ0:Base} {ρ ρ'':Rho} {st:St} {a:Act} {r:R}
theorem ob_bind{α β γ:Type}(m:Option α)(f:α→Option β)(g:β→Option γ):(ob m f).bind g=ob m fun a=>(f a).bind g:=by cases m <;> rfl
theorem getC_nat{R:Type}{σ:List (Nat×Nat)}{objs:List O}{s:Sh}{c:C}(f:s.ty→List (Option Nat)→List Nat→Option R):getC σ objs s c f=(getC σ objs s c fun x r z=>some (x,r,z)).bind fun p=>f p.1 p.2.1 p.2.2:=by
 cases s <;> simp only[getC] <;> repeat' (first | split | dsimp only)
 all_goals first
  | rfl
  | (simp_all [ob_bind];done)
theorem getL_nat{R:Type}{σ:List (Nat×Nat)}{objs:List O}:∀(l:List Sh) (cs:List C) (f:Tup l→List (Option Nat)→List Nat→Option R),getL σ objs l cs f=(getL σ objs l cs fun x r z=>some (x,r,z)).bind fun p=>f p.1 p.2.1 p.2.2
 | [],[],f=>rfl
 | [],_::_,f=>rfl
 | _::_,[],f=>rfl
 | s::l,c::cs,f=>by
  simp only[getL]
  refine(getC_nat _).trans (Eq.trans ?_ (congrArg (fun z:Option (Tup (s::l)×List (Option Nat)×List Nat)=>z.bind fun p=>f p.1 p.2.1 p.2.2) (getC_nat _)).symm)
  rw[Option.bind_assoc]
  refine congrArg _ (funext fun p=>?_)
  refine(getL_nat l cs _).trans (Eq.trans ?_ (congrArg (fun z:Option (Tup (s::l)×List (Option Nat)×List Nat)=>z.bind fun p=>f p.1 p.2.1 p.2.2) (getL_nat l cs _)).symm)
  rw[Option.bind_assoc]
  rfl
theorem same_self{σ:List (Nat×Nat)}{c:C}{t:TypeId}(h:c.same σ (.self t)=true):c=.self t:=by
 unfold C.same at h
 split at h <;> first
  | (rename_i e;cases e;done)
  | (rename_i e1 e2;cases e2;done)
  | skip
 all_goals simp_all
theorem putC_self{s:Sh}{x:s.ty}{t:TypeId}(h:putC s x=.self t):s=.lit (.self t):=by
 cases s <;> simp[putC] at h
 subst h;rfl
theorem getL_self{R:Type}{σ:List (Nat×Nat)}{objs:List O}{r:R}:∀(l:List Sh) (cs:List C) {f:Tup l→List (Option Nat)→List Nat→Option R},getL σ objs l cs f=some r→∀t:Tup l,SelfLe cs (putL l t)
 | [],[],f,_,t,i,u,hi=>by simp[putL] at hi
 | [],_::_,f,h,_,_,_,_=>by simp[getL] at h
 | _::_,[],f,h,_,_,_,_=>by simp[getL] at h
 | s::l,c::cs,f,h,t,i,u,hi=>by
  simp only[getL] at h
  cases i with
  | zero=>
   simp only[putL,List.getElem?_cons_zero,Option.some.injEq] at hi ⊢
   have hs:=putC_self hi
   subst hs
   simp only[getC] at h
   split at h
   ·rename_i hc;exact same_self hc
   ·cases h
  | succ i=>
   rw[getC_nat] at h
   obtain⟨p,_,h2⟩:=Option.bind_eq_some_iff.1 h
   simpa using getL_self l cs h2 t.2 i u (by simpa[putL] using hi)
def Refines(w:World)(X:Nat→Prop)(ρ:Rho)(X'':Nat→Prop)(ρ'':Rho)(cs cs':List C):Prop:=(∀ys,RdL w X ρ cs ys→RdL w X'' ρ'' cs' ys)∧SelfLe cs cs'
theorem Refines.right{l m m':List C}(h:Refines w X ρ X'' ρ'' (l++m) m'){ys:List Value}(hy:RdL w X ρ l ys):Refines w X ρ X'' ρ'' m (m'.drop l.length):=⟨fun zs hz=>by
 have:=(h.1 _ (hy.append hz)).drop l.length
 rwa[←hy.1,List.drop_left,hy.1] at this,h.2.right⟩
theorem Refines.left{l m m':List C}(h:Refines w X ρ X'' ρ'' (l++m) m'){zs:List Value}(hz:RdL w X ρ m zs):Refines w X ρ X'' ρ'' l (m'.take l.length):=⟨fun ys hy=>by
 have:=(h.1 _ (hy.append hz)).take l.length
 rwa[←hy.1,List.take_left,hy.1] at this,h.2.left⟩
def EnvOK(w:World)(X'':Nat→Prop)(ρ'':Rho)(a:Act)(env:List D):Prop:=∀(i:Nat) d y,env[i]?=some d→a.tmps[i]?=some y→RdD w X'' ρ'' d y
theorem EnvOK.set{env:List D}(h:EnvOK w X'' ρ'' a env){j:Nat}{d:D}(hd:∀y,a.tmps[j]?=some y→RdD w X'' ρ'' d y):EnvOK w X'' ρ'' a (env.set j d):=fun i d' y h1 h2=>by
 rw[List.getElem?_set] at h1
 split at h1
 ·rename_i e
  subst e
  split at h1
  ·cases h1;exact hd y h2
  ·cases h1
 ·exact h i d' y h1 h2
theorem eval_tmp{i:Nat}{y:Value}(h:a.tmps[i]?=some y):a.eval (.tmp i)=y:=by
 obtain⟨hlt,rfl⟩:=Array.getElem?_eq_some_iff.1 h
 simp[Act.eval,Array.getD_eq_getD_getElem?,Array.getElem?_eq_getElem hlt]
theorem scatter_env(h:Rel w0 F Xc ρ0 ρ st a w):∀(items:List It) (cs cs':List C) (st0:St),(∀p∈boxPairs st items,ρ'' p.2=ρ p.1)→gather st items=some cs→Refines w (XB st.objs ρ Xc) ρ X'' ρ'' cs cs'→EnvOK w X'' ρ'' a st0.env→EnvOK w X'' ρ'' a (scatter items cs' st0).env
 | [],_,_,_,_,_,_,he=>he
 | .slot i::l,cs,cs',st0,hbp,hg,hr,he=>by
  simp only[gather] at hg
  split at hg
  ·rename_i c cs1 hc hg'
   cases hg
   obtain⟨ys1,hy1⟩:=gather_vals h l cs1 hg'
   have hev:RdD w (XB st.objs ρ Xc) ρ (.s (.c c)) (a.eval (.tmp i)):=by have:=h.ev (.tmp i);rwa[show ev st (.tmp i)=.s (.c c) from hc] at this
   have h1:RdL w (XB st.objs ρ Xc) ρ [c] [a.eval (.tmp i)]:=RdL.one hev
   simp only[scatter]
   refine scatter_env h l cs1 cs'.tail _ hbp hg' ?_ (he.set fun y hy=>?_)
   ·have:=Refines.right (l:=[c]) (m:=cs1) hr h1
    rwa[List.length_singleton,List.drop_one] at this
   ·have:=(Refines.left (l:=[c]) (m:=cs1) hr hy1).1 _ h1
    cases cs' with
    | nil=>simp[RdL] at this
    | cons c' cs'=>
     have hh:=this.2 0 c' _ rfl rfl
     rw[eval_tmp hy] at hh
     exact hh
  ·cases hg
 | .aggs i n::l,cs,cs',st0,hbp,hg,hr,he=>by
  simp only[gather] at hg
  split at hg
  ·rename_i c cs1 hc hg'
   split at hg
   ·rename_i hn
    cases hg
    obtain⟨ys1,hy1⟩:=gather_vals h l cs1 hg'
    have hev:RdD w (XB st.objs ρ Xc) ρ (.s (.agg c)) (a.eval (.tmp i)):=by have:=h.ev (.tmp i);rwa[show ev st (.tmp i)=.s (.agg c) from hc] at this
    obtain⟨vs,hvs,hl⟩:=hev
    simp only[scatter]
    subst hn
    refine scatter_env h l cs1 _ _ hbp hg' (Refines.right hr hl) (he.set fun y hy=>?_)
    rw[eval_tmp hy] at hvs
    exact⟨vs,hvs,(Refines.left hr hy1).1 _ hl⟩
   ·cases hg
  ·cases hg
 | .box k n::l,cs,cs',st0,hbp,hg,hr,he=>by
  simp only[gather] at hg
  split at hg
  ·rename_i c cs1 hc hg'
   split at hg
   ·rename_i hn
    cases hg
    obtain⟨v,_,g,zs,ty,_,_,_,hz⟩:=h.objs k _ hc
    simp only[scatter]
    subst hn
    exact scatter_env h l cs1 _ _ (fun p hp=>hbp p (by simp only[boxPairs,List.mem_cons];exact .inr hp)) hg' (Refines.right hr hz) he
   ·cases hg
  ·cases hg
 | .boxr i k n::l,cs,cs',st0,hbp,hg,hr,he=>by
  simp only[gather] at hg
  split at hg
  ·rename_i key cs1 hc hg'
   split at hg
   ·rename_i c ho
    split at hg
    ·rename_i hn
     cases hg
     have hbp0:boxPairs st (.boxr i k n::l)=(key,k)::boxPairs st l:=by simp only[boxPairs,hc]
     rw[hbp0] at hbp
     obtain⟨v,_,g,zs,ty,_,_,_,hz⟩:=h.objs key _ ho
     have hev:RdD w (XB st.objs ρ Xc) ρ (.s (.c (.box key 0))) (a.eval (.tmp i)):=by have:=h.ev (.tmp i);rwa[show ev st (.tmp i)=.s (.c (.box key 0)) from hc] at this
     simp only[scatter]
     subst hn
     refine scatter_env h l cs1 _ _ (fun p hp=>hbp p (by simp[hp])) hg' (Refines.right hr hz) (he.set fun y hy=>?_)
     rw[eval_tmp hy] at hev
     rcases hev with hev | ⟨⟨v',e1,e2⟩,h1⟩
     ·cases hev
     ·exact .inr ⟨⟨v',(hbp (key,k) (by simp)).trans e1,e2⟩,h1⟩
    ·cases hg
   ·cases hg
  ·cases hg
theorem scatter_np:∀(items:List It) (cs':List C) (st0:St),(scatter items cs' st0).np=st0.np∧(scatter items cs' st0).env.length=st0.env.length∧(scatter items cs' st0).objs.length=st0.objs.length
 | [],_,_=>⟨rfl,rfl,rfl⟩
 | .slot i::l,cs',st0=>by obtain⟨h1,h2,h3⟩:=scatter_np l cs'.tail { st0 with env:=st0.env.set i (.s (.c (cs'.headD .top))) };exact⟨h1,h2.trans (List.length_set ..),h3⟩
 | .aggs i n::l,cs',st0=>by obtain⟨h1,h2,h3⟩:=scatter_np l (cs'.drop n) { st0 with env:=st0.env.set i (.s (.agg (cs'.take n))) };exact⟨h1,h2.trans (List.length_set ..),h3⟩
 | .box k n::l,cs',st0=>by obtain⟨h1,h2,h3⟩:=scatter_np l (cs'.drop n) { st0 with objs:=st0.objs.set k (.box (cs'.take n)) };exact⟨h1,h2,h3.trans (List.length_set ..)⟩
 | .boxr i k n::l,cs',st0=>by obtain⟨h1,h2,h3⟩:=scatter_np l (cs'.drop n) { st0 with env:=st0.env.set i (.s (.c (.box k 0))),objs:=st0.objs.set k (.box (cs'.take n)) };exact⟨h1,h2.trans (List.length_set ..),h3.trans (List.length_set ..)⟩
theorem scatter_objs(h:Rel w0 F Xc ρ0 ρ st a w):∀(items:List It) (cs cs':List C) (st0:St),gather st items=some cs→Refines w (XB st.objs ρ Xc) ρ X'' ρ'' cs cs'→(boxKeys items).Nodup→(∀k∈boxKeys items,k<st0.objs.length) →
 ∀k,(k∉boxKeys items→(scatter items cs' st0).objs[k]?=st0.objs[k]?) ∧
  (k∈boxKeys items→∃q l l',(q,k)∈boxPairs st items∧st.objs[q]?=some (.box l)∧(scatter items cs' st0).objs[k]?=some (.box l')∧Refines w (XB st.objs ρ Xc) ρ X'' ρ'' l l')
 | [],_,_,_,_,_,_,_,k=>⟨fun _=>rfl,fun hk=>by simp[boxKeys] at hk⟩
 | .slot i::l,cs,cs',st0,hg,hr,hn,hb,k=>by
  simp only[gather] at hg
  split at hg
  ·rename_i c cs1 hc hg'
   cases hg
   have hev:RdD w (XB st.objs ρ Xc) ρ (.s (.c c)) (a.eval (.tmp i)):=by have:=h.ev (.tmp i);rwa[show ev st (.tmp i)=.s (.c c) from hc] at this
   have h1:RdL w (XB st.objs ρ Xc) ρ [c] [a.eval (.tmp i)]:=RdL.one hev
   have hr':=Refines.right (l:=[c]) (m:=cs1) hr h1
   rw[List.length_singleton,List.drop_one] at hr'
   exact scatter_objs h l cs1 _ { st0 with env:=st0.env.set i (.s (.c (cs'.headD .top))) } hg' hr' hn hb k
  ·cases hg
 | .aggs i n::l,cs,cs',st0,hg,hr,hn,hb,k=>by
  simp only[gather] at hg
  split at hg
  ·rename_i c cs1 hc hg'
   split at hg
   ·rename_i hnn
    cases hg
    have hev:RdD w (XB st.objs ρ Xc) ρ (.s (.agg c)) (a.eval (.tmp i)):=by have:=h.ev (.tmp i);rwa[show ev st (.tmp i)=.s (.agg c) from hc] at this
    obtain⟨vs,hvs,hl⟩:=hev
    subst hnn
    exact scatter_objs h l cs1 _ { st0 with env:=st0.env.set i (.s (.agg (cs'.take c.length))) } hg' (Refines.right hr hl) hn hb k
   ·cases hg
  ·cases hg
 | .box q n::l,cs,cs',st0,hg,hr,hn,hb,k=>by
  simp only[gather] at hg
  split at hg
  ·rename_i c cs1 hc hg'
   split at hg
   ·rename_i hnn
    cases hg
    obtain⟨v,_,g,zs,ty,_,_,_,hz⟩:=h.objs q _ hc
    subst hnn
    simp only[boxKeys] at hn hb
    obtain⟨hq,hn'⟩:=List.nodup_cons.1 hn
    obtain⟨e1,e2⟩:=scatter_objs h l cs1 _ { st0 with objs:=st0.objs.set q (.box (cs'.take c.length)) } hg' (Refines.right hr hz) hn' (fun k hk=>by simpa using hb k (by simp[hk])) k
    obtain⟨ys1,hy1⟩:=gather_vals h l cs1 hg'
    simp only[scatter,boxKeys,List.mem_cons,not_or]
    refine⟨fun hk=>?_,fun hk=>?_⟩
    ·rw[e1 hk.2,List.getElem?_set_ne (fun e=>hk.1 e.symm)]
    ·by_cases hkl:k∈boxKeys l
     ·obtain⟨q',l1,l2,r1,r2,r3,r4⟩:=e2 hkl
      exact⟨q',l1,l2,by simp only[boxPairs,List.mem_cons];exact .inr r1,r2,r3,r4⟩
     ·have hkq:k=q:=hk.resolve_right hkl
      subst hkq
      refine⟨k,c,cs'.take c.length,by simp[boxPairs],hc,?_,Refines.left hr hy1⟩
      rw[e1 hkl,List.getElem?_set_self (hb k (by simp))]
   ·cases hg
  ·cases hg
 | .boxr i q n::l,cs,cs',st0,hg,hr,hn,hb,k=>by
  simp only[gather] at hg
  split at hg
  ·rename_i key cs1 hc hg'
   split at hg
   ·rename_i c ho
    split at hg
    ·rename_i hnn
     cases hg
     have hbp0:boxPairs st (.boxr i q n::l)=(key,q)::boxPairs st l:=by simp only[boxPairs,hc]
     obtain⟨v,_,g,zs,ty,_,_,_,hz⟩:=h.objs key _ ho
     subst hnn
     simp only[boxKeys] at hn hb
     obtain⟨hq,hn'⟩:=List.nodup_cons.1 hn
     obtain⟨e1,e2⟩:=scatter_objs h l cs1 _ { st0 with env:=st0.env.set i (.s (.c (.box q 0))),objs:=st0.objs.set q (.box (cs'.take c.length)) } hg' (Refines.right hr hz) hn' (fun k hk=>by simpa using hb k (by simp[hk])) k
     obtain⟨ys1,hy1⟩:=gather_vals h l cs1 hg'
     simp only[scatter,boxKeys,List.mem_cons,not_or]
     refine⟨fun hk=>?_,fun hk=>?_⟩
     ·rw[e1 hk.2,List.getElem?_set_ne (fun e=>hk.1 e.symm)]
     ·by_cases hkl:k∈boxKeys l
      ·obtain⟨q',l1,l2,r1,r2,r3,r4⟩:=e2 hkl
       exact⟨q',l1,l2,by rw[hbp0];simp[r1],r2,r3,r4⟩
      ·have hkq:k=q:=hk.resolve_right hkl
       subst hkq
       refine⟨key,c,cs'.take c.length,by rw[hbp0];simp,ho,?_,Refines.left hr hy1⟩
       rw[e1 hkl,List.getElem?_set_self (hb k (by simp))]
    ·cases hg
   ·cases hg
  ·cases hg
theorem setRows_other:∀(l:List (Nat×O)) (objs:List O) (k:Nat),k∉l.map (·.1)→(setRows objs l)[k]?=objs[k]?
 | [],_,_,_=>rfl
 | p::l,objs,k,h=>by
  simp only[setRows]
  rw[setRows_other l _ k (fun hm=>h (by simp at hm ⊢;exact .inr hm)),List.getElem?_set_ne (fun e=>h (by simp[e]))]
theorem setRows_at:∀(l:List (Nat×O)) (objs:List O) (i k:Nat) (o:O),(l.map (·.1)).Nodup→l[i]?=some (k,o)→k<objs.length→(setRows objs l)[k]?=some o
 | [],_,i,k,o,_,h,_=>by simp at h
 | p::l,objs,i,k,o,hn,h,hk=>by
  simp only[setRows]
  simp only[List.map_cons] at hn
  obtain⟨hp,hn'⟩:=List.nodup_cons.1 hn
  cases i with
  | zero=>
   simp at h
   subst h
   rw[setRows_other l _ k hp,List.getElem?_set_self hk]
  | succ i=>exact setRows_at l _ i k o hn' (by simpa using h) (by simpa using hk)
theorem setRows_len:∀(l:List (Nat×O)) (objs:List O),(setRows objs l).length=objs.length
 | [],_=>rfl
 | p::l,objs=>by simp only[setRows];rw[setRows_len l];simp
theorem blank_env(np n m:Nat)(a:Act):EnvOK w X'' ρ'' a (blank np n m).env:=fun i d y h1 _=>by
 simp only[blank,List.getElem?_replicate] at h1
 split at h1
 ·cases h1;exact .top_ y
 ·cases h1
theorem blank_objs{np n m k:Nat}(hm:np≤m):(blank np n m).objs[k]?=if k<np then some .dead else if k<m then some .fresh else none:=by
 simp only[blank,List.getElem?_append,List.getElem?_replicate,List.length_replicate]
 by_cases h1:k<np
 ·simp[h1]
 ·by_cases h2:k<m
  ·simp[h1,h2];omega
  ·simp[h1,h2];omega
theorem rowsOf_keys:∀(l:List Sh) (t:Tup l),(rowsOf l t).map (·.1)=rowKeys l
 | [],_=>rfl
 | .int _::l,t=>rowsOf_keys l t.2
 | .bool::l,t=>rowsOf_keys l t.2
 | .str::l,t=>rowsOf_keys l t.2
 | .sl _::l,t=>rowsOf_keys l t.2
 | .row _ _ _::l,t=>by simp[rowsOf,rowKeys,rowsOf_keys l t.2]
 | .rr _ _ _ _::l,t=>by simp[rowsOf,rowKeys,rowsOf_keys l t.2]
 | .tree::l,t=>rowsOf_keys l t.2
 | .lit _::l,t=>rowsOf_keys l t.2
theorem gather_box:∀(items:List It) (cs:List C),gather st items=some cs→∀p∈boxPairs st items,∃l,st.objs[p.1]?=some (.box l)
 | [],_,_,p,hk=>by simp[boxPairs] at hk
 | .slot i::l,cs,hg,p,hk=>by
  simp only[gather] at hg
  split at hg
  ·rename_i hg';exact gather_box l _ hg' p hk
  ·cases hg
 | .aggs i n::l,cs,hg,p,hk=>by
  simp only[gather] at hg
  split at hg
  ·rename_i hg';exact gather_box l _ hg' p hk
  ·cases hg
 | .box q n::l,cs,hg,p,hk=>by
  simp only[gather] at hg
  split at hg
  ·rename_i c cs1 hc hg'
   simp only[boxPairs,List.mem_cons] at hk
   rcases hk with rfl | hk
   ·exact⟨c,hc⟩
   ·exact gather_box l _ hg' p hk
  ·cases hg
 | .boxr i q n::l,cs,hg,p,hk=>by
  simp only[gather] at hg
  split at hg
  ·rename_i key cs1 hc hg'
   split at hg
   ·rename_i c ho
    simp only[boxPairs,hc,List.mem_cons] at hk
    rcases hk with rfl | hk
    ·exact⟨c,ho⟩
    ·exact gather_box l _ hg' p hk
   ·cases hg
  ·cases hg
theorem boxPairs_keys:∀(items:List It) (cs:List C),gather st items=some cs→(boxPairs st items).map (·.2)=boxKeys items
 | [],_,_=>rfl
 | .slot i::l,cs,hg=>by
  simp only[gather] at hg
  split at hg
  ·rename_i hg';exact boxPairs_keys l _ hg'
  ·cases hg
 | .aggs i n::l,cs,hg=>by
  simp only[gather] at hg
  split at hg
  ·rename_i hg';exact boxPairs_keys l _ hg'
  ·cases hg
 | .box q n::l,cs,hg=>by
  simp only[gather] at hg
  split at hg
  ·rename_i c cs1 hc hg'
   simp only[boxPairs,boxKeys,List.map_cons,boxPairs_keys l _ hg']
  ·cases hg
 | .boxr i q n::l,cs,hg=>by
  simp only[gather] at hg
  split at hg
  ·rename_i key cs1 hc hg'
   simp only[boxPairs,hc,boxKeys,List.map_cons,boxPairs_keys l _ hg']
  ·cases hg
theorem scatter_keep:∀(items:List It) (cs':List C) (st0:St) (k:Nat),k∉boxKeys items→(scatter items cs' st0).objs[k]?=st0.objs[k]?
 | [],_,_,_,_=>rfl
 | .slot i::l,cs',st0,k,hk=>scatter_keep l _ { st0 with env:=st0.env.set i (.s (.c (cs'.headD .top))) } k hk
 | .aggs i n::l,cs',st0,k,hk=>scatter_keep l _ { st0 with env:=st0.env.set i (.s (.agg (cs'.take n))) } k hk
 | .box q n::l,cs',st0,k,hk=>by
  simp only[boxKeys,List.mem_cons,not_or] at hk
  simp only[scatter]
  rw[scatter_keep l _ _ k hk.2,List.getElem?_set_ne (fun e=>hk.1 e.symm)]
 | .boxr i q n::l,cs',st0,k,hk=>by
  simp only[boxKeys,List.mem_cons,not_or] at hk
  simp only[scatter]
  rw[scatter_keep l _ _ k hk.2,List.getElem?_set_ne (fun e=>hk.1 e.symm)]
theorem filterMap_inj{rs:List (Option Nat)}(h:(rs.filterMap id).Nodup){i j k:Nat}(h1:rs[i]?=some (some k))(h2:rs[j]?=some (some k)):i=j:=by
 induction rs generalizing i j with
 | nil=>simp at h1
 | cons s rs ih=>
  have key:∀q,rs[q]?=some (some k)→s=some k→False:=fun q hq e=>by
   subst e
   simp only[List.filterMap_cons,id_eq] at h
   have:=(List.nodup_cons.1 h).1
   exact this (List.mem_filterMap.2 ⟨some k,List.mem_of_getElem? hq,rfl⟩)
  have hnd:(rs.filterMap id).Nodup:=by
   cases s with
   | none=>simpa using h
   | some v=>simp only[List.filterMap_cons,id_eq] at h;exact(List.nodup_cons.1 h).2
  cases i with
  | zero=>
   cases j with
   | zero=>rfl
   | succ j=>simp at h1 h2;exact(key j h2 h1).elim
  | succ i=>
   cases j with
   | zero=>simp at h1 h2;exact(key i h1 h2).elim
   | succ j=>simp at h1 h2;rw[ih hnd h1 h2]
def pairAt:List (Nat×Nat)→Nat→Option Nat
 | [],_=>none
 | p::l,k=>if p.2=k then some p.1 else pairAt l k
theorem pairAt_mem:∀{l:List (Nat×Nat)} {p:Nat×Nat},(l.map (·.2)).Nodup→p∈l→pairAt l p.2=some p.1
 | [],p,_,h=>by cases h
 | q::l,p,hn,h=>by
  simp only[List.map_cons] at hn
  obtain⟨h1,h2⟩:=List.nodup_cons.1 hn
  unfold pairAt
  rcases List.mem_cons.1 h with rfl | h
  ·rw[if_pos rfl]
  ·have hne:¬q.2=p.2:=fun e=>h1 (e▸List.mem_map.2 ⟨p,h,rfl⟩)
   rw[if_neg hne,pairAt_mem h2 h]
theorem pairAt_none:∀{l:List (Nat×Nat)} {k:Nat},k∉l.map (·.2)→pairAt l k=none
 | [],_,_=>rfl
 | q::l,k,h=>by
  simp only[List.map_cons,List.mem_cons,not_or] at h
  unfold pairAt
  rw[if_neg (fun e=>h.1 e.symm),pairAt_none h.2]
theorem pair_inj:∀{l:List (Nat×Nat)} {q k k':Nat},(l.map (·.1)).Nodup→(q,k)∈l→(q,k')∈l→k=k'
 | [],_,_,_,_,h,_=>by cases h
 | p::l,q,k,k',hn,h,h'=>by
  simp only[List.map_cons] at hn
  obtain⟨h1,h2⟩:=List.nodup_cons.1 hn
  rcases List.mem_cons.1 h with e | h <;> rcases List.mem_cons.1 h' with e' | h'
  ·rw[←e] at e';cases e';rfl
  ·rw[←e] at h1;exact(h1 (List.mem_map.2 ⟨_,h',rfl⟩)).elim
  ·rw[←e'] at h1;exact(h1 (List.mem_map.2 ⟨_,h,rfl⟩)).elim
  ·exact pair_inj h2 h h'
theorem keepOk_get{np:Nat}:∀{ks:List Nat} {ss:List (Option Nat)} {i k:Nat} {s:Option Nat},keepOk np ks ss=true→ks[i]?=some k→ss[i]?=some s→np≤k∨s=some k
 | [],_,i,k,s,_,h,_=>by simp at h
 | k'::ks,[],i,k,s,_,_,h=>by simp at h
 | k'::ks,s'::ss,i,k,s,hk,h1,h2=>by
  simp only[keepOk,Bool.and_eq_true,Bool.or_eq_true,decide_eq_true_eq,beq_iff_eq] at hk
  cases i with
  | zero=>simp at h1 h2;subst h1;subst h2;exact hk.1
  | succ i=>exact keepOk_get hk.2 (by simpa using h1) (by simpa using h2)
theorem packK_ok'{h:Hint}{f:Tup h.shapes→Option R}(hex:ρ0.ex=[])(hR:Rel w0 F Xc ρ0 ρ st a w)(hf:packK h st f=some r):
 ∃t,f t=some r∧(∀k∈boxKeys h.items++rowKeys h.shapes,k<st.objs.length)∧∃ρ'',(∀k,st.objs.length≤k→ρ'' k=none)∧Rel w0 F Xc ρ0 ρ'' (unpack h st.np st.env.length st.objs.length t) a w:=by
 unfold packK at hf
 split at hf
 case h_2=>cases hf
 rename_i cs hg
 dsimp only at hf
 obtain⟨t,rs,zs,hf1,hlen,hrows,hzs,hpairs,hturn⟩:=getL_ok hR h.shapes cs _ hf
 split at hf1
 case isFalse=>cases hf1
 rename_i hc
 simp only[Bool.and_eq_true,decide_eq_true_eq] at hc
 obtain⟨⟨⟨⟨⟨⟨hok,hkeep⟩,hbk⟩,hbn⟩,hnd⟩,hz⟩,hnpm⟩:=hc
 unfold Hint.ok at hok
 simp only[Bool.and_eq_true,decide_eq_true_eq,List.all_eq_true] at hok
 obtain⟨hk1,hk3⟩:=hok
 have hbpk:=boxPairs_keys h.items cs hg
 have hbd:((boxPairs st h.items).map (·.2)).Nodup:=by rw[hbpk];exact(List.nodup_append.1 hk3).1
 obtain⟨hb3,hr3,hdis⟩:=List.nodup_append.1 hk3
 refine⟨t,hf1,hk1,?_⟩
 let ρ'':Rho:=fun k=>match pairAt (boxPairs st h.items) k with
  | some q=>ρ q
  | none=>match srcOf (rowKeys h.shapes) rs k with
   | some s=>hOf ρ s
   | none=>if k<st.np then ρ k else none
 let objs'':List O:=(unpack h st.np st.env.length st.objs.length t).objs
 have hρbox:∀p∈boxPairs st h.items,ρ'' p.2=ρ p.1:=fun p hp=>by simp only[ρ'',pairAt_mem hbd hp]
 have hpn:∀k,k∉boxKeys h.items→pairAt (boxPairs st h.items) k=none:=fun k hk=>pairAt_none (by rw[hbpk];exact hk)
 have hsrc:∀k∈boxKeys h.items,∃q,(q,k)∈boxPairs st h.items:=fun k hk=>by
  rw[←hbpk] at hk
  obtain⟨p,hp,rfl⟩:=List.mem_map.1 hk
  exact⟨p.1,hp⟩
 have hnotbox:∀k,k∈rowKeys h.shapes→k∉boxKeys h.items:=fun k hk hb=>hdis k hb k hk rfl
 have hρrow:∀(i:Nat) k s,(rowKeys h.shapes)[i]?=some k→rs[i]?=some s→ρ'' k=hOf ρ s:=fun i k s h1 h2=>by
  simp only[ρ'',hpn k (hnotbox k (List.mem_of_getElem? h1)),srcOf_get _ _ i k s hr3 h1 h2]
 have hsrcnone:∀k,k∉rowKeys h.shapes→srcOf (rowKeys h.shapes) rs k=none:=fun k hk=>by
  cases hs:srcOf (rowKeys h.shapes) rs k with
  | none=>rfl
  | some s=>obtain⟨i,h1,_⟩:=srcOf_some _ _ _ _ hs;exact(hk (List.mem_of_getElem? h1)).elim
 have hlenO:(scatter h.items (putL h.shapes t) (blank st.np st.env.length st.objs.length)).objs.length=st.objs.length:=by
  rw[(scatter_np _ _ _).2.2];simp[blank];omega
 have hnprow:∀(i:Nat) k o,(rowsOf h.shapes t)[i]?=some (k,o)→objs''[k]?=some o:=fun i k o hi=>by
  refine setRows_at _ _ i k o (by rw[rowsOf_keys];exact hr3) hi ?_
  rw[hlenO]
  exact hk1 k (List.mem_append.2 (.inr (List.mem_of_getElem? (hrows i k o hi).1)))
 have hother:∀k,k∉boxKeys h.items→k∉rowKeys h.shapes→objs''[k]?=(blank st.np st.env.length st.objs.length).objs[k]?:=fun k hb hr=>by
  show (setRows _ _)[k]?=_
  rw[setRows_other _ _ k (by rw[rowsOf_keys];exact hr),scatter_keep h.items _ _ k hb]
 have hrowi:∀k,k∈rowKeys h.shapes→∃(i:Nat) (o:O) (sr:Option Nat),(rowKeys h.shapes)[i]?=some k∧objs''[k]?=some o∧rs[i]?=some sr∧o.rowf=true∧(∀k',sr=some k'→st.objs[k']?=some o)∧(sr=none→∃e n,o=.row false e n []∧(0<n∧n<1000000000)):=fun k hk=>by
  rw[←rowsOf_keys h.shapes t] at hk
  obtain⟨p,hp,rfl⟩:=List.mem_map.1 hk
  obtain⟨i,hi,he⟩:=List.getElem_of_mem hp
  have hget:(rowsOf h.shapes t)[i]?=some (p.1,p.2):=by rw[List.getElem?_eq_getElem hi,he]
  obtain⟨h1,sr,h2,h3⟩:=hrows i p.1 p.2 hget
  exact⟨i,p.2,sr,h1,hnprow i p.1 p.2 hget,h2,h3⟩
 have hHas:∀k b,Has objs'' ρ'' k b→(∃q,(q,k)∈boxPairs st h.items∧Has st.objs ρ q b)∨∃i k',(rowKeys h.shapes)[i]?=some k∧rs[i]?=some (some k')∧Has st.objs ρ k' b∧∃o,st.objs[k']?=some o∧o.rowf=true:=fun k b hh=>by
  obtain⟨o,v,h1,h2,h3,h4⟩:=hh
  by_cases hb:k∈boxKeys h.items
  ·obtain⟨q,hq⟩:=hsrc k hb
   obtain⟨l,hl⟩:=gather_box h.items cs hg _ hq
   exact .inl ⟨q,hq,_,v,hl,rfl,(hρbox _ hq)▸h3,h4⟩
  ·by_cases hr:k∈rowKeys h.shapes
   ·obtain⟨i,o',sr,q1,q2,q3,q4,q5,q6⟩:=hrowi k hr
    rw[hρrow i k sr q1 q3] at h3
    cases sr with
    | none=>simp only[hOf,Option.some.injEq] at h3;subst h3;have h5:=h4.one rfl;simp[nilV,blk] at h5
    | some k'=>
     refine .inr ⟨i,k',q1,q3,⟨o',v,q5 k' rfl,O.rowf_live q4,h3,h4⟩,o',q5 k' rfl,q4⟩
   ·rw[hother k hb hr,blank_objs hnpm] at h1
    split at h1
    ·cases h1;cases h2
    ·split at h1
     ·cases h1;cases h2
     ·cases h1
 have hXX:∀b,XB objs'' ρ'' Xc b→XB st.objs ρ Xc b:=fun b hb=>by
  rcases hb with⟨k,hk⟩ | hb
  ·rcases hHas k b hk with⟨q,_,hh⟩ | ⟨i,k',_,_,hh,_⟩
   ·exact .inl ⟨q,hh⟩
   ·exact .inl ⟨k',hh⟩
  ·exact .inr hb
 have hT:Turn ρ ρ'' (XB st.objs ρ Xc) (XB objs'' ρ'' Xc) st.objs (rowKeys h.shapes) rs zs (boxPairs st h.items++rowPairs h.shapes cs):=by
  refine⟨hXX,hlen.symm,hρrow,fun z hzm v b hv hb hx=>?_,fun p hp v hv=>?_⟩
  ·obtain⟨oz,hzo,hzy⟩:=hzs z hzm
   have hzr:some z∉rs:=fun hm=>by
    have:=List.all_eq_true.1 hz z hzm
    simp[hm] at this
   cases hzf:oz.frozen with
   | true=>
    have hko:=hR.objs z _ hzo
    cases oz with
    | row fz e n l=>
     obtain⟨v',e1,e2⟩:=hko
     rw[hv] at e1
     cases e1
     exact e2.frozen hzf b (hb.one (row_one e2)) (hXX b hx)
    | mp fz e n l=>
     obtain⟨v',e1,e2⟩:=hko
     rw[hv] at e1
     cases e1
     exact e2.frozen hzf b (hb.one (mp_one e2)) (hXX b hx)
    | box l=>cases hzy
    | fbox l=>cases hzy
    | rr hole e e2 n l=>cases hzf
    | fwd l=>cases hzy
    | itr cur e n l=>cases hzy
    | dead=>cases hzy
    | fresh=>cases hzy
   | false=>
    have hHz:Has st.objs ρ z b:=⟨_,v,hzo,O.giv_live hzy hzf,hv,hb⟩
    rcases hx with⟨k,hk⟩ | hx
    ·rcases hHas k b hk with⟨q,hkb,hh⟩ | ⟨i,k',_,q,hh,_⟩
     ·have:=hR.sep q z b hh hHz
      subst this
      obtain⟨l',hl'⟩:=gather_box h.items cs hg _ hkb
      rw[hzo] at hl';cases hl';cases hzy
     ·have:=hR.sep k' z b hh hHz
      subst this
      exact hzr (List.mem_of_getElem? q)
    ·exact hR.xc b hHz.mut hx
  ·rcases List.mem_append.1 hp with hp | hp
   ·rw[hρbox p hp];exact hv
   ·obtain⟨i,e1,e2⟩:=hpairs p hp
    rw[hρrow i _ _ e1 e2];exact hv
 have hRef:Refines w (XB st.objs ρ Xc) ρ (XB objs'' ρ'' Xc) ρ'' cs (putL h.shapes t):=⟨hturn ρ'' _ hT,getL_self h.shapes cs hf t⟩
 have hnpE:=scatter_np h.items (putL h.shapes t) (blank st.np st.env.length st.objs.length)
 have hbm:∀k∈boxKeys h.items,k<(blank st.np st.env.length st.objs.length).objs.length:=fun k hk=>by
  have:=hk1 k (List.mem_append.2 (.inl hk))
  simp[blank];omega
 refine⟨ρ'',fun k hk=>?_,by rw[show (unpack h st.np st.env.length st.objs.length t).env.length=st.env.length by rw[show (unpack h st.np st.env.length st.objs.length t).env.length=_ from hnpE.2.1];simp[blank]];exact hR.len,
  scatter_env hR h.items cs _ _ hρbox hg hRef (blank_env _ _ _ _),fun k o ho=>?_,fun k k' b hk hk'=>?_,fun b hb=>?_,fun k hk=>?_,hR.defers,hR.frame,hR.xcl,fun b hb=>?_,fun p hp=>by rw[hex] at hp;simp at hp⟩
 ·have hb:k∉boxKeys h.items:=fun hb=>by have:=hk1 k (List.mem_append.2 (.inl hb));omega
  have hr:k∉rowKeys h.shapes:=fun hr=>by have:=hk1 k (List.mem_append.2 (.inr hr));omega
  show ρ'' k=none
  simp only[ρ'',hpn k hb,hsrcnone k hr]
  rw[if_neg (by omega)]
 ·-- the objects
  have ho':objs''[k]?=some o:=ho
  by_cases hb:k∈boxKeys h.items
  ·obtain⟨q,l,l',q0,q1,q2,q3⟩:=(scatter_objs hR h.items cs _ _ hg hRef hb3 hbm k).2 hb
   have:objs''[k]?=some (.box l'):=by
    show (setRows _ _)[k]?=_
    rw[setRows_other _ _ k (by rw[rowsOf_keys];exact fun hr=>hnotbox k hr hb)]
    exact q2
   rw[this] at ho'
   cases ho'
   obtain⟨v,e1,g,ys,ty,e2,e3,e0,e4⟩:=hR.objs q _ q1
   exact⟨v,(hρbox _ q0).trans e1,g,ys,ty,e2,e3,q3.2.head e0,q3.1 _ e4⟩
  ·by_cases hr:k∈rowKeys h.shapes
   ·obtain⟨i,o',sr,q1,q2,q3,q4,q5,q6⟩:=hrowi k hr
    rw[q2] at ho'
    cases ho'
    have hρk:=hρrow i k sr q1 q3
    cases sr with
    | none=>
     obtain⟨e,n,rfl,hn⟩:=q6 rfl
     exact⟨nilV,hρk,hn,.nil n,⟨[],rowAt.nil w e n,⟨rfl,fun i t y h1 _=>by simp[flat] at h1⟩⟩,fun hc=>by cases hc⟩
    | some k'=>
     have hk':=q5 k' rfl
     have hko:=hR.objs k' _ hk'
     cases o with
     | row fz e n l=>
      obtain⟨v,e1,e2⟩:=hko
      have e3:=e2.step (X':=XB objs'' ρ'' Xc) (.refl (fun _=>False) w) (fun _ hb=>False.elim hb) (fun b hb=>.inl (hXX b hb)) (.refl ρ) (fun _ _ h=>h)
      exact⟨v,hρk.trans e1,e3⟩
     | mp fz e n l=>
      obtain⟨v,e1,e2⟩:=hko
      have e3:=e2.step (X':=XB objs'' ρ'' Xc) (.refl (fun _=>False) w) (fun _ hb=>False.elim hb) (fun b hb=>.inl (hXX b hb)) (.refl ρ) (fun _ _ h=>h)
      exact⟨v,hρk.trans e1,e3⟩
     | rr hole e e2' n l=>
      obtain⟨v,e1,e2⟩:=hko
      have e3:=okR.step (X':=XB objs'' ρ'' Xc) e2 (.refl (fun _=>False) w) (fun _ hb=>False.elim hb) (fun b hb=>.inl (hXX b hb)) (fun _ _ h=>h)
      exact⟨v,hρk.trans e1,e3⟩
     | itr cur e n l=>
      obtain⟨v,e1,e2⟩:=hko
      have e3:=okO.step (X':=XB objs'' ρ'' Xc) (o:=.itr cur e n l) (ρ:=ρ) e2 (.refl (fun _=>False) w) (fun _ hb=>False.elim hb) (fun b hb=>.inl (hXX b hb)) (.refl ρ) (fun _ _ h=>h)
      exact⟨v,hρk.trans e1,e3⟩
     | fwd l=>cases q4
     | box l=>cases q4
     | fbox l=>cases q4
     | dead=>cases q4
     | fresh=>cases q4
   ·rw[hother k hb hr,blank_objs hnpm] at ho'
    split at ho'
    ·cases ho';trivial
    ·split at ho'
     ·cases ho'
      show ρ'' k=none
      simp only[ρ'',hpn k hb,hsrcnone k hr]
      rw[if_neg (by assumption)]
     ·cases ho'
 ·-- apart
  rcases hHas k b hk with⟨p,hkb,hh⟩ | ⟨i,q,q1,q2,hh,oq,hq,hqf⟩ <;> rcases hHas k' b hk' with⟨p',hkb',hh'⟩ | ⟨i',q',q1',q2',hh',oq',hq',hqf'⟩
  ·have:=hR.sep p p' b hh hh'
   subst this
   exact pair_inj hbn hkb hkb'
  ·have:=hR.sep p q' b hh hh'
   subst this
   obtain⟨l'',hl''⟩:=gather_box h.items cs hg _ hkb
   rw[hq'] at hl'';cases hl'';cases hqf'
  ·have:=hR.sep q p' b hh hh'
   subst this
   obtain⟨l'',hl''⟩:=gather_box h.items cs hg _ hkb'
   rw[hq] at hl'';cases hl'';cases hqf
  ·have:=hR.sep q q' b hh hh'
   subst this
   have:=filterMap_inj hnd q2 q2'
   subst this
   rw[q1] at q1'
   cases q1'
   rfl
 ·obtain⟨k,hk⟩:=hb
  rcases hHas k b hk with⟨_,_,hh⟩ | ⟨_,k',_,_,hh,_⟩
  ·exact hR.own b hh.mut
  ·exact hR.own b hh.mut
 ·have hk':k<st.np:=by rw[←show (unpack h st.np st.env.length st.objs.length t).np=st.np from hnpE.1];exact hk
  rw[←hR.par k hk']
  by_cases hb:k∈boxKeys h.items
  ·obtain⟨q,hq⟩:=hsrc k hb
   have:=List.all_eq_true.1 hbk _ hq
   simp only[Bool.or_eq_true,beq_iff_eq,decide_eq_true_eq] at this
   rcases this with this | this
   ·have e:=hρbox _ hq
    rw[←this]
    rw[←this] at e
    exact e
   ·omega
  ·by_cases hr:k∈rowKeys h.shapes
   ·obtain⟨i,_,sr,q1,_,q3,_⟩:=hrowi k hr
    have:=keepOk_get hkeep q1 q3
    rcases this with this | this
    ·omega
    ·subst this
     exact hρrow i k _ q1 q3
   ·show ρ'' k=ρ k
    simp only[ρ'',hpn k hb,hsrcnone k hr,if_pos hk']
 ·obtain⟨k,hk⟩:=hb
  rcases hHas k b hk with⟨_,_,hh⟩ | ⟨_,k',_,_,hh,_⟩
  ·exact hR.xc b hh.mut
  ·exact hR.xc b hh.mut
theorem packK_ok{h:Hint}{f:Tup h.shapes→Option R}(hex:ρ0.ex=[])(hR:Rel w0 F Xc ρ0 ρ st a w)(hf:packK h st f=some r):
 ∃t,f t=some r∧∃ρ'',Rel w0 F Xc ρ0 ρ'' (unpack h st.np st.env.length st.objs.length t) a w:=by
 obtain⟨t,h1,_,ρ'',_,h2⟩:=packK_ok' hex hR hf
 exact⟨t,h1,ρ'',h2⟩
def slotsOf:List It→List Nat
 | []=>[]
 | .slot i::l=>i::slotsOf l
 | .aggs i _::l=>i::slotsOf l
 | .box _ _::l=>slotsOf l
 | .boxr i _ _::l=>i::slotsOf l
theorem set_same{α:Type}{l l':List α}{n j:Nat}{d:α}(hl:n≤l.length)(hl':n≤l'.length)(h:∀i,i<n→l[i]?=l'[i]?):∀i,i<n→(l.set j d)[i]?=(l'.set j d)[i]?:=fun i hi=>by
 rw[List.getElem?_set,List.getElem?_set]
 by_cases hj:j=i
 ·rw[if_pos hj,if_pos hj,if_pos (by omega),if_pos (by omega)]
 ·rw[if_neg hj,if_neg hj,h i hi]
theorem scatter_same{n m:Nat}:∀(items:List It) (cs:List C) (s s':St),n≤s.env.length→n≤s'.env.length→m≤s.objs.length→m≤s'.objs.length→(∀i,i<n→s.env[i]?=s'.env[i]?)→(∀i,i<m→s.objs[i]?=s'.objs[i]?) →
 (∀i,i<n→(scatter items cs s).env[i]?=(scatter items cs s').env[i]?)∧∀i,i<m→(scatter items cs s).objs[i]?=(scatter items cs s').objs[i]?
 | [],_,s,s',_,_,_,_,h1,h2=>⟨h1,h2⟩
 | .slot i::l,cs,s,s',e1,e2,e3,e4,h1,h2=>scatter_same l _ { s with env:=s.env.set i _ } { s' with env:=s'.env.set i _ } (by simpa using e1) (by simpa using e2) e3 e4 (set_same e1 e2 h1) h2
 | .aggs i n::l,cs,s,s',e1,e2,e3,e4,h1,h2=>scatter_same l _ { s with env:=s.env.set i _ } { s' with env:=s'.env.set i _ } (by simpa using e1) (by simpa using e2) e3 e4 (set_same e1 e2 h1) h2
 | .box k n::l,cs,s,s',e1,e2,e3,e4,h1,h2=>scatter_same l _ { s with objs:=s.objs.set k _ } { s' with objs:=s'.objs.set k _ } e1 e2 (by simpa using e3) (by simpa using e4) h1 (set_same e3 e4 h2)
 | .boxr i k n::l,cs,s,s',e1,e2,e3,e4,h1,h2=>scatter_same l _ { s with env:=s.env.set i _,objs:=s.objs.set k _ } { s' with env:=s'.env.set i _,objs:=s'.objs.set k _ } (by simpa using e1) (by simpa using e2) (by simpa using e3) (by simpa using e4) (set_same e1 e2 h1) (set_same e3 e4 h2)
theorem setRows_same{m:Nat}:∀(l:List (Nat×O)) (o o':List O),m≤o.length→m≤o'.length→(∀i,i<m→o[i]?=o'[i]?)→∀i,i<m→(setRows o l)[i]?=(setRows o' l)[i]?
 | [],_,_,_,_,h=>h
 | p::l,o,o',e1,e2,h=>setRows_same l _ _ (by simpa using e1) (by simpa using e2) (set_same e1 e2 h)
theorem unpack_same{h:Hint}{np n n' m m':Nat}{t:Tup h.shapes}(hn:n≤n')(hm:m≤m')(hnp:np≤m):
 (∀i,i<n→(unpack h np n m t).env[i]?=(unpack h np n' m' t).env[i]?)∧∀i,i<m→(unpack h np n m t).objs[i]?=(unpack h np n' m' t).objs[i]?:=by
 have h1:(blank np n m).env.length=n:=by simp[blank]
 have h2:(blank np n' m').env.length=n':=by simp[blank]
 have h3:(blank np n m).objs.length=m:=by simp[blank];omega
 have h4:(blank np n' m').objs.length=m':=by simp[blank];omega
 obtain⟨a1,a2⟩:=scatter_same (n:=n) (m:=m) h.items (putL h.shapes t) (blank np n m) (blank np n' m') (by omega) (by omega) (by omega) (by omega)
  (fun i hi=>by simp only[blank,List.getElem?_replicate];rw[if_pos hi,if_pos (by omega)])
  (fun i hi=>by rw[blank_objs hnp,blank_objs (by omega)];by_cases hk:i<np <;> simp[hk,hi];omega)
 refine⟨a1,setRows_same _ _ _ ?_ ?_ a2⟩
 ·rw[(scatter_np _ _ _).2.2,h3];exact Nat.le_refl _
 ·rw[(scatter_np _ _ _).2.2,h4];exact hm
theorem scatter_out:∀(items:List It) (cs:List C) (s:St) (i:Nat),i∉slotsOf items→(scatter items cs s).env[i]?=s.env[i]?
 | [],_,_,_,_=>rfl
 | .slot j::l,cs,s,i,h=>by
  simp only[slotsOf,List.mem_cons,not_or] at h
  simp only[scatter]
  rw[scatter_out l _ _ i h.2,List.getElem?_set_ne (fun e=>h.1 e.symm)]
 | .aggs j n::l,cs,s,i,h=>by
  simp only[slotsOf,List.mem_cons,not_or] at h
  simp only[scatter]
  rw[scatter_out l _ _ i h.2,List.getElem?_set_ne (fun e=>h.1 e.symm)]
 | .box k n::l,cs,s,i,h=>by
  simp only[slotsOf] at h
  simp only[scatter]
  rw[scatter_out l _ _ i h]
 | .boxr j k n::l,cs,s,i,h=>by
  simp only[slotsOf,List.mem_cons,not_or] at h
  simp only[scatter]
  rw[scatter_out l _ _ i h.2,List.getElem?_set_ne (fun e=>h.1 e.symm)]
theorem unpack_len{h:Hint}{np n m:Nat}{t:Tup h.shapes}(hm:np≤m):(unpack h np n m t).np=np∧(unpack h np n m t).env.length=n∧(unpack h np n m t).objs.length=m:=by
 obtain⟨h1,h2,h3⟩:=scatter_np h.items (putL h.shapes t) (blank np n m)
 refine⟨h1,h2.trans (by simp[blank]),?_⟩
 show (setRows _ _).length=_
 rw[setRows_len,h3]
 simp[blank];omega
theorem packK_nat{R:Type}{h:Hint}{st:St}(f:Tup h.shapes→Option R):packK h st f=(packK h st some).bind f:=by
 unfold packK
 split
 ·dsimp only
  refine(getL_nat _ _ _).trans (Eq.trans ?_ (congrArg (fun z:Option (Tup h.shapes)=>z.bind f) (getL_nat _ _ _)).symm)
  rw[Option.bind_assoc]
  refine congrArg _ (funext fun p=>?_)
  split <;> rfl
 ·rfl
end
inductive Pos where
 | slot (i:Nat)
 | agg (i j:Nat)
 | box (k j:Nat)
 | boxr (i j:Nat)
def posOf:It→List Pos
 | .slot i=>[.slot i]
 | .aggs i n=>(List.range n).map fun j=>.agg i j
 | .box k n=>(List.range n).map fun j=>.box k j
 | .boxr i _ n=>(List.range n).map fun j=>.boxr i j
def St.at(st:St):Pos→Option C
 | .slot i=>match st.env[i]? with
  | some (.s (.c c))=>some c
  | _=>none
 | .agg i j=>match st.env[i]? with
  | some (.s (.agg l))=>l[j]?
  | _=>none
 | .box k j=>match st.objs[k]? with
  | some (.box l)=>l[j]?
  | _=>none
 | .boxr i j=>match st.env[i]? with
  | some (.s (.c (.box k 0)))=>match st.objs[k]? with
   | some (.box l)=>l[j]?
   | _=>none
  | _=>none
def St.wr(st:St)(c:C):Pos→St
 | .slot i=>{ st with env:=st.env.set i (.s (.c c)) }
 | .agg i j=>match st.env[i]? with
  | some (.s (.agg l))=>{ st with env:=st.env.set i (.s (.agg (l.set j c))) }
  | _=>st
 | .box k j=>match st.objs[k]? with
  | some (.box l)=>{ st with objs:=st.objs.set k (.box (l.set j c)) }
  | _=>st
 | .boxr i j=>match st.env[i]? with
  | some (.s (.c (.box k 0)))=>match st.objs[k]? with
   | some (.box l)=>{ st with objs:=st.objs.set k (.box (l.set j c)) }
   | _=>st
  | _=>st
def matP(st:St)(p:Pos)(s:Sh):St:=match s with
 | .row e n _=>match st.at p with
  | some (.cut key m lo len _)=>match st.objs[key]? with
   | some (.row false e' n' es)=>if e'=e∧n'=n∧m=n then match freshI st with
    | some K=>St.wr { st with objs:=(st.objs.set key .dead).set K (.row false e n (cutN es lo len)) } (.row K) p
    | none=>st
    else st
   | _=>st
  | _=>st
 | _=>st
def matL(st:St):List Pos→List Sh→St
 | p::ps,s::ss=>matL (matP st p s) ps ss
 | _,_=>st
def matH(h:Hint)(st:St):St:=matL st (h.items.flatMap posOf) h.shapes
theorem wr_len(st:St)(c:C)(p:Pos):(st.wr c p).np=st.np∧(st.wr c p).env.length=st.env.length∧(st.wr c p).objs.length=st.objs.length:=by
 unfold St.wr
 cases p <;> dsimp only <;> repeat' (first | split | exact⟨rfl,rfl,rfl⟩ | exact⟨rfl,List.length_set ..,rfl⟩ | exact⟨rfl,rfl,List.length_set ..⟩)
theorem matP_len(st:St)(p:Pos)(s:Sh):(matP st p s).np=st.np∧(matP st p s).env.length=st.env.length∧(matP st p s).objs.length=st.objs.length:=by
 unfold matP
 repeat' (first | split | exact⟨rfl,rfl,rfl⟩)
 obtain⟨h1,h2,h3⟩:=wr_len { st with objs:=_ } _ p
 exact⟨h1,h2,by rw[h3];simp⟩
theorem matL_len:∀(ps:List Pos) (ss:List Sh) (st:St),(matL st ps ss).np=st.np∧(matL st ps ss).env.length=st.env.length∧(matL st ps ss).objs.length=st.objs.length
 | [],_,st=>by unfold matL;exact⟨rfl,rfl,rfl⟩
 | p::ps,[],st=>by unfold matL;exact⟨rfl,rfl,rfl⟩
 | p::ps,s::ss,st=>by
  unfold matL
  obtain⟨h1,h2,h3⟩:=matL_len ps ss (matP st p s)
  obtain⟨g1,g2,g3⟩:=matP_len st p s
  exact⟨h1.trans g1,h2.trans g2,h3.trans g3⟩
theorem matH_len(h:Hint)(st:St):(matH h st).np=st.np∧(matH h st).env.length=st.env.length∧(matH h st).objs.length=st.objs.length:=matL_len _ _ st
section
variable {w0 w:World} {F Xc:Nat→Prop} {ρ0:Base} {ρ:Rho} {st:St} {a:Act}
theorem RdL.set{X:Nat→Prop}{l:List C}{ys:List Value}(h:RdL w X ρ l ys){j:Nat}{c:C}(hc:∀y,ys[j]?=some y→RdC1 w X ρ c y):RdL w X ρ (l.set j c) ys:=by
 refine⟨by simp[h.1],fun i c' y h1 h2=>?_⟩
 rw[List.getElem?_set] at h1
 split at h1
 ·rename_i e
  subst e
  split at h1
  ·cases h1;exact hc y h2
  ·cases h1
 ·exact h.2 i c' y h1 h2
theorem Rel.boxw(h:Rel w0 F Xc ρ0 ρ st a w){k:Nat}{l l':List C}(ho:st.objs[k]?=some (.box l))(hs:SelfLe l l')(hl:∀v g ys ty,ρ k=some v→v=.pointer (some ⟨g,0,none⟩)→w.heap[g]?=some (.cells ys ty (0,0))→RdL w (XB st.objs ρ Xc) ρ l ys.toList→RdL w (XB st.objs ρ Xc) ρ l' ys.toList):
 Rel w0 F Xc ρ0 ρ { st with objs:=st.objs.set k (.box l') } a w:=by
 have hlt:k<st.objs.length:=(List.getElem?_eq_some_iff.1 ho).1
 obtain⟨v,e1,g,ys,ty,e2,e3,e4,e5⟩:=h.objs k _ ho
 have hH:∀b,Has (st.objs.set k (.box l')) ρ k b→Has st.objs ρ k b:=fun b ⟨o',v',q1,q2,q3,q4⟩=>⟨_,v',ho,rfl,q3,q4⟩
 have hs0:Stp (fun _=>False) w w:=.refl _ w
 refine h.change (st.objs.set k (.box l')) ρ (·=k) hs0 (fun j hj=>⟨by rw[List.getElem?_set_ne (fun e=>hj e.symm)],rfl⟩) (.refl _) (fun _ hb=>hb.elim)
  (fun j b hj hh=>?_) (fun j j' b hj hj' _ _=>hj.trans hj'.symm) (fun hX j o' hj hoj=>?_) (fun _ _=>rfl)
 ·subst hj;exact .inl ⟨j,rfl,hH b hh⟩
 ·subst hj
  rw[List.getElem?_set_self hlt] at hoj
  cases hoj
  exact⟨v,e1,g,ys,ty,e2,e3,hs.head e4,(hl v g ys ty e1 e2 e3 e5).step hs0 (fun _ h=>h.elim) hX (.refl _)⟩
theorem SelfLe.setRow{l:List C}{j K:Nat}:SelfLe l (l.set j (.row K)):=fun i t hi=>by
 rw[List.getElem?_set] at hi
 split at hi
 ·split at hi <;> cases hi
 ·exact hi
theorem matP_ok(h:Rel w0 F Xc ρ0 ρ st a w)(p:Pos)(s:Sh):∃ρ',Rel w0 F Xc ρ0 ρ' (matP st p s) a w:=by
 unfold matP
 split
 case h_2=>exact⟨ρ,h⟩
 rename_i e n _
 split
 case h_2=>exact⟨ρ,h⟩
 rename_i key m lo len tg hat
 split
 case h_2=>exact⟨ρ,h⟩
 rename_i e' n' es hob
 split
 case isFalse=>exact⟨ρ,h⟩
 rename_i hcond
 obtain⟨rfl,rfl,rfl⟩:=hcond
 split
 case h_2=>exact⟨ρ,h⟩
 rename_i K hK
 obtain⟨k1,k2⟩:=freshI_some hK
 have hklt:key<st.objs.length:=(List.getElem?_eq_some_iff.1 hob).1
 have hKk:K≠key:=fun e=>by rw[e,hob] at k2;cases k2
 have step:∀y,RdC1 w (XB st.objs ρ Xc) ρ (.cut key m lo len tg) y→∃ρ',Rel w0 F Xc ρ0 ρ' { st with objs:=(st.objs.set key .dead).set K (.row false e' m (cutN es lo len)) } a w∧ρ' K=some y∧Rle ρ ρ'∧y.oneCell'=true:=by
  intro y hy
  rcases hy with hy | ⟨⟨v,q1,q2⟩,h1⟩
  ·cases hy
  obtain⟨hv,e1,e2⟩:=h.objs key _ hob
  rw[q1] at e1
  cases e1
  obtain⟨hlen,huc,_,_⟩:=cut_slice e2 q2
  obtain⟨h0,hu0,⟨xs,hown0,hr0⟩,_⟩:=e2
  obtain⟨d,rfl⟩:∃d,K=st.np+d:=⟨K-st.np,by omega⟩
  obtain⟨ρ',r1,r2,r3⟩:=own_step h h0 hob q1 (fun b hb=>q2.blk hb) w d (cutN es lo len) y _ (by rw[List.getElem?_set_ne (fun e=>hKk e.symm)];exact k2) (by rw[hlen];exact q2.row hown0) huc (World.grownBy.refl w _) (.inl rfl) (by
   have hfl:flat (cutN es lo len)=((flat es).drop (lo*m)).take (len*m):=by unfold cutN;rw[(hu0.drop lo).flat_take,hu0.flat_drop]
   rw[hfl]
   have hxl:=hr0.1
   refine⟨by simp[hxl],fun i t z h1 h2=>?_⟩
   rw[List.getElem?_take] at h1 h2
   split at h1
   ·rename_i hlt
    rw[if_pos hlt] at h2
    rw[List.getElem?_drop] at h1 h2
    exact hr0.2 _ t z h1 h2
   ·cases h1)
  exact⟨ρ',r1,r2,r3,h1⟩
 have other:∀(k:Nat) (l:List C),st.objs[k]?=some (.box l)→((st.objs.set key .dead).set K (.row false e' m (cutN es lo len)))[k]?=some (.box l):=fun k l hk=>by
  have h1:K≠k:=fun e=>by rw[e,hk] at k2;cases k2
  have h2:key≠k:=fun e=>by rw[e,hk] at hob;cases hob
  rw[List.getElem?_set_ne h1,List.getElem?_set_ne h2];exact hk
 have boxcase:∀(k:Nat) (l:List C) (j:Nat),st.objs[k]?=some (.box l)→l[j]?=some (.cut key m lo len tg) →
  ∃ρ',Rel w0 F Xc ρ0 ρ' { st with objs:=((st.objs.set key .dead).set K (.row false e' m (cutN es lo len))).set k (.box (l.set j (.row K))) } a w:=by
  intro k l j hk hj
  obtain⟨v,e1,g,ys,ty,e2,e3,e4,e5⟩:=h.objs k _ hk
  have hjl:j<ys.toList.length:=by rw[e5.1];exact(List.getElem?_eq_some_iff.1 hj).1
  obtain⟨ρ',r1,r2,r3,r4⟩:=step _ (e5.2 j _ _ hj (List.getElem?_eq_getElem hjl))
  refine⟨ρ',r1.boxw (other k l hk) SelfLe.setRow fun v' g' ys' ty' f1 f2 f3 f4=>f4.set fun y hy=>?_⟩
  rw[r3 _ _ e1] at f1
  cases f1
  rw[e2] at f2
  cases f2
  rw[e3] at f3
  cases f3
  rw[List.getElem?_eq_getElem hjl] at hy
  cases hy
  exact .inr ⟨r2,r4⟩
 cases p with
 | slot i=>
  simp only[St.at] at hat
  split at hat
  ·rename_i c hi
   cases hat
   have hil:i<a.tmps.size:=by rw[h.len];exact(List.getElem?_eq_some_iff.1 hi).1
   obtain⟨ρ',r1,r2,r3,r4⟩:=step _ (h.env i _ _ hi (Array.getElem?_eq_getElem hil))
   refine⟨ρ',r1.slot (d:=.s (.c (.row K))) fun y hy=>?_⟩
   rw[Array.getElem?_eq_getElem hil] at hy
   cases hy
   exact .inr ⟨r2,r4⟩
  ·cases hat
 | agg i j=>
  simp only[St.at] at hat
  split at hat
  ·rename_i l hi
   have hil:i<a.tmps.size:=by rw[h.len];exact(List.getElem?_eq_some_iff.1 hi).1
   have hd:=h.env i _ _ hi (Array.getElem?_eq_getElem hil)
   obtain⟨cs,hcs,hl⟩:=hd
   have hjl:j<cs.toList.length:=by rw[hl.1];exact(List.getElem?_eq_some_iff.1 hat).1
   obtain⟨ρ',r1,r2,r3,r4⟩:=step _ (hl.2 j _ _ hat (List.getElem?_eq_getElem hjl))
   have hd':=r1.env i _ _ hi (Array.getElem?_eq_getElem hil)
   obtain⟨cs',hcs',hl'⟩:=hd'
   rw[hcs] at hcs'
   cases hcs'
   simp only[St.wr,hi]
   refine⟨ρ',r1.slot (d:=.s (.agg (l.set j (.row K)))) fun y hy=>?_⟩
   rw[Array.getElem?_eq_getElem hil] at hy
   cases hy
   refine⟨cs,hcs,hl'.set fun y hy=>?_⟩
   rw[List.getElem?_eq_getElem hjl] at hy
   cases hy
   exact .inr ⟨r2,r4⟩
  ·cases hat
 | box k j=>
  simp only[St.at] at hat
  split at hat
  ·rename_i l hk
   have ho:=other k l hk
   simp only[St.wr,ho]
   exact boxcase k l j hk hat
  ·cases hat
 | boxr i j=>
  simp only[St.at] at hat
  split at hat
  ·rename_i k hi
   split at hat
   ·rename_i l hk
    have ho:=other k l hk
    simp only[St.wr,hi,ho]
    exact boxcase k l j hk hat
   ·cases hat
  ·cases hat
theorem matL_ok:∀(ps:List Pos) (ss:List Sh) {st:St} {ρ:Rho},Rel w0 F Xc ρ0 ρ st a w→∃ρ',Rel w0 F Xc ρ0 ρ' (matL st ps ss) a w
 | [],_,st,ρ,h=>by unfold matL;exact⟨ρ,h⟩
 | p::ps,[],st,ρ,h=>by unfold matL;exact⟨ρ,h⟩
 | p::ps,s::ss,st,ρ,h=>by
  unfold matL
  obtain⟨ρ1,h1⟩:=matP_ok h p s
  exact matL_ok ps ss h1
theorem matH_ok(hh:Hint)(h:Rel w0 F Xc ρ0 ρ st a w):∃ρ',Rel w0 F Xc ρ0 ρ' (matH hh st) a w:=matL_ok _ _ h
end
open Classical in
noncomputable def bothU{R:Type}(a b:Option R):Option R:=if a=b then a else none
theorem bothU_some{R:Type}{a b:Option R}{r:R}(h:bothU a b=some r):a=some r∧b=some r:=by
 unfold bothU at h
 split at h
 ·rename_i e;exact⟨h,e▸h⟩
 ·cases h
theorem bothU_eq{R:Type}{a b:Option R}{r:R}(h1:a=some r)(h2:b=some r):bothU a b=some r:=by
 unfold bothU
 rw[h1,h2,if_pos rfl]
noncomputable def agreeU{R:Type}:List (Option R)→Option R
 | []=>none
 | [x]=>x
 | x::l=>bothU x (agreeU l)
noncomputable def iterA{S E R:Type}(F:S→List (Option (S⊕E)))(K:E→Option R):Nat→S→Option R
 | 0,_=>none
 | n+1,s=>agreeU ((F s).map fun o=>match o with
  | some (.inl s')=>iterA F K n s'
  | some (.inr q)=>K q
  | none=>none)
open Classical in
noncomputable def rngU{S E R:Type}(F:S→List (Option (S⊕E)))(K:E→Option R)(s:S):Option R:=if h:∃n r,iterA F K n s=some r then iterA F K (Classical.choose h) s else none
def rngL{α β:Type}[Inhabited α](l:List α)(F0:β)(F:α→List α→β):List β:=match l with
 | []=>[F0]
 | l=>(List.range l.length).map fun i=>F (l.getD i default) (l.eraseIdx i)
theorem agreeU_some{R:Type}:∀{l:List (Option R)} {r:R},agreeU l=some r→∀o∈l,o=some r
 | [],r,h=>by simp[agreeU] at h
 | [x],r,h=>fun o ho=>by simp only[List.mem_singleton] at ho;subst ho;simpa[agreeU] using h
 | x::y::l,r,h=>fun o ho=>by
  rw[agreeU] at h
  obtain⟨h1,h2⟩:=bothU_some h
  rcases List.mem_cons.1 ho with rfl | ho
  ·exact h1
  ·exact agreeU_some h2 o ho
  all_goals simp
theorem rngU_some{S E R:Type}{F:S→List (Option (S⊕E))}{K:E→Option R}{s:S}{r:R}(h:rngU F K s=some r):∃n,iterA F K n s=some r:=by
 unfold rngU at h
 split at h
 ·exact⟨_,h⟩
 ·cases h
section
variable {R:Type} (P:Program)
def rangeK(st:St)(dst:Option Nat)(t:TypeId)(x:D)(k:St→D→Option R):Option R:=match P.underlying t with
 | some (.map kt _)=>match keyKd P kt with
  | some c=>asC x fun cx=>match frzL st.objs [cx] with
   | some (objs',[.t (.sl n l)])=>if n=c+1000000000 then newK { st with objs:=objs' } dst (.itr none t (n+1000000000) l) fun st key=>k st (.s (.c (.row key))) else none
   | _=>none
  | none=>none
 | _=>none
def entryK(st:St)(x:D)(k:St→D→Option R):Option R:=match x with
 | .s (.c (.row key))=>match st.objs[key]? with
  | some (.itr (some t) e n l)=>match P.underlying e with
   | some (.map kt et)=>valK P kt (entKey t) fun sk=>valK P et (entVal t) fun sv=>k { st with objs:=st.objs.set key (.itr none e n l) } (.tup [sk,sv])
   | _=>none
  | _=>none
 | _=>none
def nextK{α:Type}(st:St)(dst:Option Nat)(x:D)(k:St→α):List α:=match x with
 | .s (.c (.row key))=>match st.objs[key]? with
  | some (.itr none e n l)=>rngL l (k (st.put dst (.tup [.c (.t (.v (.bool false)))]))) fun t l'=>k (({ st with objs:=st.objs.set key (.itr (some t) e n l') }:St).put dst (.tup [.c (.t (.v (.bool true))),.c .top,.c .top]))
  | _=>[]
 | _=>[]
end
section
variable {R:Type} {P:Program} {w0 w:World} {F Xc:Nat→Prop} {ρ0:Base} {ρ:Rho} {st:St} {a:Act} {r:R} {Q:Exit→Act→World→Prop}
theorem borns{es:Array MapEntry}(h:∀(i:Nat) e,es[i]?=some e→e.born=i):(es.toList.map (·.born)).Nodup:=by
 have e1:es.toList.map (·.born)=List.range es.size:=by
  refine List.ext_getElem? fun i=>?_
  rw[List.getElem?_map,Array.getElem?_toList]
  by_cases hi:i<es.size
  ·rw[List.getElem?_range hi,Array.getElem?_eq_getElem hi]
   exact congrArg some (h i _ (Array.getElem?_eq_getElem hi))
  ·rw[Array.getElem?_eq_none (by omega),List.getElem?_eq_none (by simp;omega)]
   rfl
 rw[e1]
 exact List.nodup_range
theorem erase_born:∀{L:List MapEntry} {i:Nat} {e:MapEntry},(L.map (·.born)).Nodup→L[i]?=some e→L.filter (fun x=>!(x.born==e.born))=L.eraseIdx i
 | [],i,e,_,h=>by simp at h
 | x::L,0,e,hn,h=>by
  simp at h
  subst h
  obtain⟨h1,h2⟩:=List.nodup_cons.1 (show (x.born::L.map (·.born)).Nodup from hn)
  rw[List.filter_cons_of_neg (by simp),List.eraseIdx_cons_zero]
  refine List.filter_eq_self.2 fun y hy=>?_
  have:y.born≠x.born:=fun he=>h1 (he▸List.mem_map.2 ⟨y,hy,rfl⟩)
  simpa using this
 | x::L,i+1,e,hn,h=>by
  obtain⟨h1,h2⟩:=List.nodup_cons.1 (show (x.born::L.map (·.born)).Nodup from hn)
  have hi:L[i]?=some e:=by simpa using h
  have:x.born≠e.born:=fun he=>h1 (he▸List.mem_map.2 ⟨e,List.mem_of_getElem? hi,rfl⟩)
  rw[List.filter_cons_of_pos (by simpa using this),List.eraseIdx_cons_succ,erase_born h2 hi]
theorem leftE_push(es:Array MapEntry)(seen:Array Nat)(b:Nat):leftE es (seen.push b)=(leftE es seen).filter fun x=>!(x.born==b):=by
 unfold leftE
 rw[List.filter_filter]
 refine List.filter_congr fun x _=>?_
 rw[contains_push]
 cases seen.contains x.born <;> cases(x.born==b) <;> rfl
theorem key_rd{X:Nat→Prop}{c:Nat}{k:T}{v:Value}(h:keyV c k=some v):Rd w X k v∧OneV k v:=by
 rcases keyV_cases h with⟨_,x,rfl,rfl⟩ | ⟨_,s,rfl,rfl⟩ | ⟨m,xs,_,hl,rfl,rfl⟩
 ·exact⟨.v _,.inr rfl⟩
 ·exact⟨.v _,.inr rfl⟩
 ·refine⟨.agg _ _ (by simp) (fun i y hi=>?_) (fun i t y h1 h2=>?_),.inl ⟨_,rfl⟩⟩
  ·simp only[List.getElem?_toArray,List.getElem?_map] at hi
   cases hx:xs[i]? with
   | none=>simp[hx] at hi
   | some x=>simp only[hx,Option.map_some,Option.some.injEq] at hi;subst hi;rfl
  ·simp only[List.getElem?_toArray,List.getElem?_map] at h1 h2
   cases hx:xs[i]? with
   | none=>simp[hx] at h1
   | some x=>simp only[hx,Option.map_some,Option.some.injEq] at h1 h2;subst h1;subst h2;exact .v _
theorem rangeK_ok{dst:Option Nat}{t:TypeId}{x:D}{vx:Value}{k:St→D→Option R}(h:Rel w0 F Xc ρ0 ρ st a w)(hx:RdD w (XB st.objs ρ Xc) ρ x vx)(hk:rangeK P st dst t x k=some r):
 ∃y w' ρ' st' d,(Instr.range t vx).run P w=.ok y w'∧Rel w0 F Xc ρ0 ρ' st' a w'∧RdD w' (XB st'.objs ρ' Xc) ρ' d y∧k st' d=some r:=by
 unfold rangeK at hk
 split at hk
 case h_2=>cases hk
 rename_i kt e hu
 split at hk
 case h_2=>cases hk
 rename_i c hc
 obtain⟨cx,rfl,hcx,hk1⟩:=asC_ok hx hk
 split at hk1
 case h_2=>cases hk1
 rename_i objs' n l hfz
 split at hk1
 case isFalse=>cases hk1
 rename_i hn
 obtain⟨hR,hl⟩:=frzL_ok h (ys:=[vx]) ⟨rfl,fun i c y h1 h2=>by
  match i with
  | 0=>simp at h1 h2;subst h1;subst h2;exact hcx
  | i+1=>simp at h1⟩ hfz
 have hrd:=hl.2 0 _ vx rfl rfl
 rcases hrd with hrd | ⟨hrd,_⟩
 ·cases hrd
 have hrd':Rd w (XB objs' ρ Xc) (.sl n l) vx:=hrd
 obtain⟨d,_,hf,hk2⟩:=newK_ok hk1
 cases hrd' with
 | nil=>omega
 | sl=>omega
 | mp _ _ g es clock h0 hg hx0 hlen hs hb hv=>
 have hlt:g<w.heap.size:=(Array.getElem?_eq_some_iff.1 hg).1
 refine⟨_,_,_,_,_,run_range_map w t kt e g es clock hu hg,hR.new (hv:=.pointer (some ⟨w.heap.size,0,none⟩)) (o:=.itr none t (n+1000000000) l) hf (Stp.alloc (fun _=>False) w (.mapIter (some g) clock #[] clock)) (fun b hb=>by simp only[blk,Option.some.injEq] at hb;omega)
  (fun X' hX=>⟨by omega,w.heap.size,g,clock,#[],clock,es,rfl,heap_alloc_new w _,(Below.heap_alloc w _ g hlt).trans hg,fun hxg=>?_,fun x hxe=>?_,Nat.le_refl _,borns hb.2,⟨es.toList,?_,by simpa using hlen,fun i t e h1 h2=>?_⟩,fun t ht=>by cases ht⟩) (Nat.le_add_right _ _) (by simp),
  .one (c:=.row (st.np+d)) (by simp[RdC,upd]) rfl,hk2⟩
 ·rcases hX g hxg with hh | hh
  ·exact hx0 hh
  ·omega
 ·obtain⟨i,hi,rfl⟩:=List.getElem_of_mem hxe
  have hi':i<es.size:=by simpa using hi
  have:=hb.2 i _ (by rw[Array.getElem?_eq_getElem hi'])
  simp only[Array.getElem_toList]
  omega
 ·unfold leftE
  rw[List.filter_eq_self.2 fun x _=>by simp]
 ·rw[Array.getElem?_toList] at h2
  obtain⟨kk,v,e1,e2,e3⟩:=hs i t e h1 h2
  refine⟨kk,v,e1,?_,e3,(hv i kk v e (e1▸h1) h2).step (Stp.alloc (fun _=>False) w _) (fun _ h=>h.elim) hX⟩
  have:n+1000000000-2000000000=n-1000000000:=by omega
  rw[this]
  exact e2
theorem entryK_ok{x:D}{vx:Value}{k:St→D→Option R}(h:Rel w0 F Xc ρ0 ρ st a w)(hx:RdD w (XB st.objs ρ Xc) ρ x vx)(hk:entryK P st x k=some r):
 ∃y st' d,(Instr.entry vx).run P w=.ok y w∧Rel w0 F Xc ρ0 ρ st' a w∧RdD w (XB st'.objs ρ Xc) ρ d y∧k st' d=some r:=by
 unfold entryK at hk
 split at hk
 case h_2=>cases hk
 rename_i key
 split at hk
 case h_2=>cases hk
 rename_i t e n l hob
 split at hk
 case h_2=>cases hk
 rename_i kt et hu
 obtain⟨v,e1,e2⟩:=h.objs key _ hob
 rcases hx with hx | ⟨hx,_⟩
 ·cases hx
 have hcc:ρ key=some vx:=hx
 rw[hcc] at e1
 cases e1
 obtain⟨h0,g,bm,since,seen,clock,es,rfl,h1,h2,h3,h4,h5,h6,h7,h8⟩:=e2
 obtain⟨en,f1,⟨sn,rfl⟩,kk,vv,rfl,f3,f4,f5⟩:=h8 t rfl
 obtain⟨k1,k2⟩:=key_rd (w:=w) (X:=XB st.objs ρ Xc) f3
 obtain⟨sk,q1,hk1⟩:=valK_ok (ρ:=ρ) k1 k2 hk
 obtain⟨sv,q2,hk2⟩:=valK_ok (ρ:=ρ) f5 f4 hk1
 have hlt:key<st.objs.length:=(List.getElem?_eq_some_iff.1 hob).1
 have hHas:∀b,Has (st.objs.set key (.itr none e n l)) ρ key b→Has st.objs ρ key b:=fun b ⟨o',v',q1,q2,q3,q4⟩=>⟨_,v',hob,rfl,q3,q4⟩
 have hs0:Stp (fun _=>False) w w:=.refl _ w
 have hX0:∀b,XB (st.objs.set key (.itr none e n l)) ρ Xc b→XB st.objs ρ Xc b:=fun b hb=>by
  rcases hb with⟨j,hj⟩ | hb
  ·by_cases hjk:j=key
   ·subst hjk;exact .inl ⟨j,hHas b hj⟩
   ·obtain⟨o',v',g1,g2,g3,g4⟩:=hj
    rw[List.getElem?_set_ne (fun e=>hjk e.symm)] at g1
    exact .inl ⟨j,o',v',g1,g2,g3,g4⟩
  ·exact .inr hb
 refine⟨_,{ st with objs:=st.objs.set key (.itr none e n l) },.tup [sk,sv],run_entry_at w g bm since sn es clock en h1 h2 f1 h6,h.change (st.objs.set key (.itr none e n l)) ρ (·=key) hs0 (fun j hj=>⟨by rw[List.getElem?_set_ne (fun e=>hj e.symm)],rfl⟩) (.refl _) (fun _ hb=>hb.elim)
  (fun j b hj hh=>?_) (fun j j' b hj hj' _ _=>hj.trans hj'.symm) (fun hX j o' hj hoj=>?_) (fun _ _=>rfl),⟨#[en.key,en.val],rfl,rfl,fun i s y z1 z2=>?_⟩,hk2⟩
 ·subst hj;exact .inl ⟨j,rfl,hHas b hh⟩
 ·subst hj
  rw[List.getElem?_set_self hlt] at hoj
  cases hoj
  refine⟨_,hcc,?_⟩
  have hold:okI w (XB st.objs ρ Xc) none n l (.pointer (some ⟨g,0,none⟩)):=⟨h0,g,bm,since,_,clock,es,rfl,h1,h2,h3,h4,h5,h6,h7,fun t ht=>by cases ht⟩
  exact hold.step hs0 (fun _ h=>h.elim) hX (fun _ _ h=>h)
 ·match i,z1,z2 with
  | 0,z1,z2=>simp at z1 z2;subst z1;subst z2;exact q1.step hs0 (fun _ h=>h.elim) (fun b hb=>.inl (hX0 b hb)) (.refl _)
  | 1,z1,z2=>simp at z1 z2;subst z1;subst z2;exact q2.step hs0 (fun _ h=>h.elim) (fun b hb=>.inl (hX0 b hb)) (.refl _)
  | i+2,z1,z2=>simp at z1
theorem setBlock_stp(w:World)(g:Nat)(o:Obj):Stp (fun b=>b=g) w (ChangeMaps.setBlock w g o):=by
 refine⟨rfl,rfl,rfl,by simp[ChangeMaps.setBlock],fun b hb hy=>?_⟩
 simp only[ChangeMaps.setBlock]
 rw[Array.getElem?_setIfInBounds_ne (fun e=>hy e.symm)]
theorem nextK_ok{α:Type}{o:Oper}{x:Operand}{next:Act→World→Prop}{k:St→α}(ho:o.op=.next x false)(h:Rel w0 F Xc ρ0 ρ st a w)(hne:nextK st o.dst (ev st x) k≠[])
 (hn:∀ρ' st' a' w',Rel w0 F Xc ρ0 ρ' st' a' w'→k st'∈nextK st o.dst (ev st x) k→next a' w'):o.wp P a w next Q:=by
 have hx:=h.ev x
 generalize hd:ev st x=d at hx hne hn
 unfold nextK at hne
 split at hne
 case h_2=>exact(hne rfl).elim
 rename_i key
 split at hne
 case h_2=>exact(hne rfl).elim
 rename_i e n l hob
 have hnk:nextK st o.dst (.s (.c (.row key))) k=rngL l (k (st.put o.dst (.tup [.c (.t (.v (.bool false)))]))) fun t l'=>k (({ st with objs:=st.objs.set key (.itr (some t) e n l') }:St).put o.dst (.tup [.c (.t (.v (.bool true))),.c .top,.c .top])):=by
  unfold nextK
  simp only[hob]
 rw[hnk] at hn
 obtain⟨v,e1,e2⟩:=h.objs key _ hob
 rcases hx with hx | ⟨hx,_⟩
 ·cases hx
 have hcc:ρ key=some (a.eval x):=hx
 rw[hcc] at e1
 cases e1
 obtain⟨h0,g,bm,since,seen,clock,es,hv,h1,h2,h3,h4,h5,h6,⟨L',p1,p2,p3⟩,h8⟩:=e2
 have hexec:∀{res:Result Value},(Instr.next (a.eval x) false o.type).run P w=res→(execOp a.eval o).run P w=res.andThen fun y w'=>.ok (.value y) w':=fun {res} hr=>by
  unfold execOp
  rw[ho]
  simp only[Sem.run_bind,hr]
  cases res <;> rfl
 rcases run_next_at (P:=P) w o.type g bm since clock seen es clock h1 h2 h4 h5 with⟨z1,z2⟩ | ⟨en,z1,w1,z2,z3⟩
 ·have hl:l=[]:=by
   have:L'=[]:=by
    have e3:leftE es seen=[]:=by
     have:(leftOf es seen).toList.length=0:=by simpa using z1
     unfold leftOf at this
     unfold leftE
     rw[Array.toList_filter] at this
     exact List.eq_nil_of_length_eq_zero this
    rw[e3] at p1
    exact List.perm_nil.1 p1
   rw[this] at p2
   exact List.eq_nil_of_length_eq_zero p2.symm
  subst hl
  rw[←hv] at z2
  have hd0:RdD w (XB st.objs ρ Xc) ρ (.tup [.c (.t (.v (.bool false)))]) (.tuple #[.bool false]):=⟨#[.bool false],rfl,rfl,fun i s y g1 g2=>by
   match i,g1,g2 with
   | 0,g1,g2=>simp at g1 g2;subst g1;subst g2;exact .inr ⟨.v _,rfl⟩
   | i+1,g1,g2=>simp at g1⟩
  exact wp_val (by rw[hexec z2];rfl) (hn ρ _ _ _ (h.put o.dst hd0) (by simp[rngL]))
 ·have hen:en∈leftE es seen:=by
   unfold leftOf at z1
   unfold leftE
   rw[Array.toList_filter] at z1
   exact z1
  have hees:en∈es.toList:=(List.mem_filter.1 hen).1
  obtain⟨i,hi,hie⟩:=List.getElem_of_mem (p1.mem_iff.2 hen)
  have hLi:L'[i]?=some en:=by rw[List.getElem?_eq_getElem hi,hie]
  have hil:i<l.length:=by omega
  have hli:l[i]?=some l[i]:=List.getElem?_eq_getElem hil
  have hrel:=p3 i _ _ hli hLi
  have hlt:key<st.objs.length:=(List.getElem?_eq_some_iff.1 hob).1
  have hHas:Has st.objs ρ key g:=⟨_,_,hob,rfl,hcc,.inl (by rw[hv];rfl)⟩
  have hgl:g<w.heap.size:=(Array.getElem?_eq_some_iff.1 h1).1
  have hbg:bm≠g:=fun e=>by rw[e,h1] at h2;cases h2
  have hw1:Stp (fun b=>b=g) w w1:=by
   rcases z2 with rfl | rfl
   ·exact .refl _ _
   ·exact .drew _ _
  have hheap:w1.heap=w.heap:=by rcases z2 with rfl | rfl <;> rfl
  have hst:Stp (fun b=>b=g) w (ChangeMaps.setBlock w1 g (.mapIter (some bm) since (seen.push en.born) clock)):=hw1.trans (setBlock_stp _ _ _)
  rw[←hv] at z3
  have hnd:(L'.map (·.born)).Nodup:=by
   refine(p1.map _).nodup_iff.2 ?_
   unfold leftE
   exact h6.sublist ((List.filter_sublist).map _)
  refine wp_val (by rw[hexec z3];rfl) (hn ρ _ _ _ (Rel.put (d:=.tup [.c (.t (.v (.bool true))),.c .top,.c .top]) (v:=.tuple #[.bool true,en.key,en.val]) (h.change (st.objs.set key (.itr (some l[i]) e n (l.eraseIdx i))) ρ (·=key) hst (fun j hj=>⟨by rw[List.getElem?_set_ne (fun e=>hj e.symm)],rfl⟩) (.refl _) (fun b hb=>⟨key,rfl,hb▸hHas⟩)
   (fun j b hj hb=>?_) (fun j j' b hj hj' _ _=>hj.trans hj'.symm) (fun hX j o' hj hoj=>?_) (fun _ _=>rfl)) o.dst ⟨#[.bool true,en.key,en.val],rfl,rfl,fun i s y g1 g2=>?_⟩) ?_)
  ·subst hj
   obtain⟨o',v',q1,q2,q3,q4⟩:=hb
   rw[hcc] at q3
   cases q3
   exact .inl ⟨_,rfl,_,_,hob,rfl,hcc,q4⟩
  ·subst hj
   rw[List.getElem?_set_self hlt] at hoj
   cases hoj
   have hYX:∀b,b=g→XB st.objs ρ Xc b:=fun b hb=>.inl ⟨_,hb▸hHas⟩
   refine⟨_,hcc,h0,g,bm,since,seen.push en.born,clock,es,hv,?_,?_,fun hx=>?_,h4,h5,h6,⟨L'.eraseIdx i,?_,?_,fun j t e' q1 q2=>?_⟩,fun t ht=>?_⟩
   ·simp[ChangeMaps.setBlock,hheap,hgl]
   ·simp only[ChangeMaps.setBlock]
    rw[Array.getElem?_setIfInBounds_ne (fun e=>hbg e.symm),hheap]
    exact h2
   ·rcases hX bm hx with hh | hh
    ·exact h3 hh
    ·have:=(Array.getElem?_eq_some_iff.1 h2).1
     omega
   ·rw[leftE_push,←erase_born hnd hLi]
    exact p1.filter _
   ·rw[List.length_eraseIdx_of_lt hi,List.length_eraseIdx_of_lt hil,p2]
   ·rw[List.getElem?_eraseIdx] at q1 q2
    split at q1
    ·rename_i hji
     rw[if_pos hji] at q2
     exact(p3 j t e' q1 q2).step hst hYX hX
    ·rename_i hji
     rw[if_neg hji] at q2
     exact(p3 (j+1) t e' q1 q2).step hst hYX hX
   ·cases ht
    exact⟨en,hees,⟨seen,rfl⟩,hrel.step hst hYX hX⟩
  ·match i,g1,g2 with
   | 0,g1,g2=>simp at g1 g2;subst g1;subst g2;exact .inr ⟨.v _,rfl⟩
   | 1,g1,g2=>simp at g1;subst g1;exact .inl rfl
   | 2,g1,g2=>simp at g1;subst g1;exact .inl rfl
   | i+3,g1,g2=>simp at g1
  ·unfold rngL
   split
   ·simp at hil
   ·refine List.mem_map.2 ⟨i,List.mem_range.2 hil,?_⟩
    simp[List.getD_eq_getElem?_getD,hli]
end
inductive AEx where
 | normal
 | exit (id:Nat)
 | ret
 deriving DecidableEq
def AEx.ex:AEx→Exit
 | .normal=>.normal
 | .exit id=>.exit id
 | .ret=>.ret
inductive ACode where
 | skip
 | ret
 | exit (id:Nat)
 | region (id:Nat) (ops:Array Oper) (draw:Bool)
 | seq (x y:ACode)
 | cond (c:Operand) (x y:ACode)
 | block (id:Nat) (x:ACode)
 | scope (x:ACode)
 | label (l:Nat)
 | loop (h:Hint) (xs:List (AEx×Hint)) (x:ACode)
 | join (xs:List (AEx×Hint)) (x:ACode)
 | unr (n:Nat) (x:ACode)
 | regR (id:Nat) (ops:Array Oper)
 | rng (id:Nat) (ops:Array Oper) (h:Hint) (xs:List (AEx×Hint)) (x:ACode)
def ACode.code:ACode→Code
 | .skip=>.skip
 | .ret=>.ret
 | .exit id=>.exit id
 | .region id ops draw=>.region id ops draw
 | .seq x y=>.seq x.code y.code
 | .cond c x y=>.cond c x.code y.code
 | .block id x=>.block id x.code
 | .scope x=>.scope x.code
 | .label l=>.label l
 | .loop _ _ x=>.loop x.code
 | .join _ x=>x.code
 | .unr _ x=>.loop x.code
 | .regR id ops=>.region id ops false
 | .rng id ops _ _ x=>.loop (.seq (.region id ops false) x.code)
def ACode.flat:ACode→Bool
 | .seq x y=>x.flat&&y.flat
 | .cond _ x y=>x.flat&&y.flat
 | .block _ x=>x.flat
 | .scope x=>x.flat
 | .loop _ _ _=>false
 | .join _ _=>false
 | .unr _ x=>x.flat
 | .regR _ _=>false
 | .rng _ _ _ _ _=>false
 | _=>true
def iter{S E:Type}(F:S→Option (S⊕E)):Nat→S→Option E
 | 0,_=>none
 | n+1,s=>match F s with
  | some (.inl s')=>iter F n s'
  | some (.inr e)=>some e
  | none=>none
open Classical in
noncomputable def loopU{S E:Type}(F:S→Option (S⊕E))(s:S):Option E:=if h:∃n e,iter F n s=some e then iter F (Classical.choose h) s else none
theorem iter_mono{S E:Type}{F:S→Option (S⊕E)}:∀{n:Nat} {s:S} {e:E},iter F n s=some e→iter F (n+1) s=some e
 | 0,s,e,h=>by simp[iter] at h
 | n+1,s,e,h=>by
  rw[iter] at h ⊢
  split at h
  ·exact iter_mono h
  ·exact h
  ·cases h
theorem iter_le{S E:Type}{F:S→Option (S⊕E)}{n m:Nat}{s:S}{e:E}(h:iter F n s=some e)(hm:n≤m):iter F m s=some e:=by
 obtain⟨d,rfl⟩:=Nat.le.dest hm
 induction d with
 | zero=>exact h
 | succ d ih=>exact iter_mono (ih (Nat.le_add_right _ _))
theorem loopU_iff{S E:Type}{F:S→Option (S⊕E)}{s:S}{e:E}:loopU F s=some e↔∃n,iter F n s=some e:=by
 unfold loopU
 constructor
 ·intro h
  split at h
  ·exact⟨_,h⟩
  ·cases h
 ·rintro ⟨n,h⟩
  have hex:∃n e,iter F n s=some e:=⟨n,e,h⟩
  rw[dif_pos hex]
  obtain⟨e',he'⟩:=Classical.choose_spec hex
  have h1:=iter_le he' (Nat.le_max_left (Classical.choose hex) n)
  have h2:=iter_le h (Nat.le_max_right (Classical.choose hex) n)
  rw[he']
  rw[h1] at h2
  exact h2
theorem loopU_eq{S E:Type}(F:S→Option (S⊕E))(s:S):loopU F s=match F s with
 | some (.inl s')=>loopU F s'
 | some (.inr e)=>some e
 | none=>none:=by
 cases hF:F s with
 | none=>
  cases hl:loopU F s with
  | none=>rfl
  | some e=>
   obtain⟨n,hn⟩:=loopU_iff.1 hl
   cases n with
   | zero=>simp[iter] at hn
   | succ n=>simp[iter,hF] at hn
 | some x=>
  cases x with
  | inr e=>exact loopU_iff.2 ⟨1,by simp[iter,hF]⟩
  | inl s'=>
   simp only
   cases hl:loopU F s' with
   | some e=>
    obtain⟨n,hn⟩:=loopU_iff.1 hl
    exact loopU_iff.2 ⟨n+1,by simp[iter,hF,hn]⟩
   | none=>
    cases hl2:loopU F s with
    | none=>rfl
    | some e=>
     obtain⟨n,hn⟩:=loopU_iff.1 hl2
     cases n with
     | zero=>simp[iter] at hn
     | succ n=>
      simp only[iter,hF] at hn
      rw[loopU_iff.2 ⟨n,hn⟩] at hl;cases hl
def EP:List (AEx×Hint)→Type
 | []=>Empty
 | p::l=>Tup p.2.shapes⊕EP l
section
variable {R:Type}
def packD(np n m:Nat)(h:Hint)(st:St)(f:Tup h.shapes→Option R):Option R:=if st.np=np∧st.env.length=n∧st.objs.length=m then packK h (matH h st) f else none
def packE(np n m:Nat):(xs:List (AEx×Hint))→AEx→St→(EP xs→Option R)→Option R
 | [],_,_,_=>none
 | p::l,x,st,f=>if p.1=x then packD np n m p.2 st fun t=>f (.inl t) else packE np n m l x st fun q=>f (.inr q)
def onS{α β:Type}(q:α⊕β)(f:α→Option R)(g:β→Option R):Option R:=match q with
 | .inl t=>f t
 | .inr q=>g q
def noS(_:Empty):Option R:=none
def unpackE(np n m:Nat):(xs:List (AEx×Hint))→EP xs→(AEx→St→Option R)→Option R
 | [],q,_=>noS q
 | p::l,q,k=>onS (α:=Tup p.2.shapes) (β:=EP l) q (fun t=>k p.1 (unpack p.2 np n m t)) fun q=>unpackE np n m l q k
end
def unrU{R:Type}(F:St→(AEx→St→Option R)→Option R):Nat→St→(AEx→St→Option R)→Option R
 | 0,_,_=>none
 | n+1,st,k=>F st fun e st'=>match e with
  | .normal=>unrU F n st' k
  | e=>k e st'
noncomputable def condK{R:Type}(amb:Bool)(d:D)(a b:Option R):Option R:=match amb,d with
 | true,.s (.c .amb)=>bothU a b
 | _,d=>asB d fun q=>bif q then a else b
section
variable {R:Type} (P:Program) (Γ:FuncId→Option Callee)
def aOpsR(ops:Array Oper):List Nat→St→(St→Option R)→Option R
 | [],st,k=>k st
 | i::rest,st,k=>match ops[i]? with
  | none=>aOpsR ops rest st k
  | some o=>match o.guard,o.op with
   | none,.range t x=>rangeK P st o.dst t (ev st x) fun st d=>aOpsR ops rest (st.put o.dst d) k
   | none,.entry x=>entryK P st (ev st x) fun st d=>aOpsR ops rest (st.put o.dst d) k
   | _,_=>aOps P Γ ops [i] st fun st=>aOpsR ops rest st k
def rndK{E:Type}(ops:Array Oper)(st:St)(k:St→Option E):List (Option E):=match ops[0]? with
 | some o=>match o.guard,o.op with
  | none,.next x false=>nextK st o.dst (ev st x) fun st=>aOps P Γ ops (List.range ops.size).tail st k
  | _,_=>[]
 | none=>[]
end
section
variable (P:Program) (Γ:FuncId→Option Callee) (dok:Array Oper→Bool) (np n m:Nat) (amb:Bool)
noncomputable def aCode:ACode→(R:Type)→St→(AEx→St→Option R)→Option R
 | .skip,_,st,k=>k .normal st
 | .ret,_,st,k=>k .ret st
 | .exit id,_,st,k=>k (.exit id) st
 | .region _ ops draw,_,st,k=>if draw=false∨dok ops=true then aOps P Γ ops (List.range ops.size) st fun st=>k .normal st else none
 | .seq x y,R,st,k=>aCode x R st fun e st=>match e with
  | .normal=>aCode y R st k
  | e=>k e st
 | .cond c x y,R,st,k=>condK amb (ev st c) (aCode x R st k) (aCode y R st k)
 | .block id x,R,st,k=>aCode x R st fun e st=>match e with
  | .exit j=>if j=id then k .normal st else k (.exit j) st
  | e=>k e st
 | .scope x,R,st,k=>aCode x R st k
 | .label _,_,st,k=>k .normal st
 | .loop h xs x,R,st,k=>packD np n m h st fun s0=>ob (loopU (fun s=>aCode x (Tup h.shapes⊕EP xs) (unpack h np n m s) fun e st'=>match e with
  | .normal=>packD np n m h st' fun s'=>some (.inl s')
  | e=>packE np n m xs e st' fun q=>some (.inr q)) s0) fun q=>unpackE np n m xs q k
 | .join xs x,R,st,k=>ob (aCode x (EP xs) st fun e st'=>packE np n m xs e st' some) fun q=>unpackE np n m xs q k
 | .unr i x,R,st,k=>unrU (fun st k=>aCode x R st k) i st k
 | .regR _ ops,_,st,k=>aOpsR P Γ ops (List.range ops.size) st fun st=>k .normal st
 | .rng _ ops h xs x,R,st,k=>packD np n m h st fun s0=>rngU (fun s=>rndK P Γ ops (unpack h np n m s) fun st=>aCode x (Tup h.shapes⊕EP xs) st fun e st'=>match e with
  | .normal=>packD np n m h st' fun s'=>some (.inl s')
  | e=>packE np n m xs e st' fun q=>some (.inr q)) (fun q=>unpackE np n m xs q k) s0
end
section
variable {R:Type} {P:Program} {Γ:FuncId→Option Callee} {dok:Array Oper→Bool} {w0:World} {F Xc:Nat→Prop} {ρ0:Base} {r:R}
def DrawOK(P:Program)(Γ:FuncId→Option Callee)(dok:Array Oper→Bool):Prop:=
 ∀(ops:Array Oper),dok ops=true→∀{R:Type} (w0:World) (F Xc:Nat→Prop) (ρ0:Base) (ρ:Rho) (st:St) (a:Act) (w:World) (k:St→Option R) (r:R) (Q:Exit→Act→World→Prop) (t:Nat),
  Good P w0 F→Rel w0 F Xc ρ0 ρ st a w→aOps P Γ ops (List.range ops.size) st k=some r→(∀ρ' st' a' w',Rel w0 F Xc ρ0 ρ' st' a' w'→k st'=some r→Q .normal a' w') →
  wpOps P ops Q (Region.schedule (P.follows .mixedOrders) ops t) a w
theorem packD_ok{np n m:Nat}{h:Hint}{f:Tup h.shapes→Option R}{st:St}{ρ:Rho}{a:Act}{w:World}(hex:ρ0.ex=[])(hR:Rel w0 F Xc ρ0 ρ st a w)(hf:packD np n m h st f=some r):
 ∃t,f t=some r∧∃ρ'',Rel w0 F Xc ρ0 ρ'' (unpack h np n m t) a w:=by
 unfold packD at hf
 split at hf
 ·rename_i hd
  obtain⟨h1,h2,h3⟩:=hd
  subst h1;subst h2;subst h3
  obtain⟨ρ1,hR1⟩:=matH_ok h hR
  obtain⟨e1,e2,e3⟩:=matH_len h st
  have:=packK_ok hex hR1 hf
  rw[e1,e2,e3] at this
  exact this
 ·cases hf
theorem packE_ok{np n m:Nat}(hex:ρ0.ex=[]):∀(xs:List (AEx×Hint)) (e:AEx) (st:St) (f:EP xs→Option R) {ρ:Rho} {a:Act} {w:World},Rel w0 F Xc ρ0 ρ st a w →
 packE np n m xs e st f=some r→∃q,f q=some r∧∃ρ'' st'',Rel w0 F Xc ρ0 ρ'' st'' a w∧∀{R':Type} (k:AEx→St→Option R'),unpackE np n m xs q k=k e st''
 | [],e,st,f,ρ,a,w,h,hf=>by simp[packE] at hf
 | p::l,e,st,f,ρ,a,w,h,hf=>by
  simp only[packE] at hf
  split at hf
  ·rename_i he
   obtain⟨t,ht,ρ'',hR⟩:=packD_ok hex h hf
   exact⟨.inl t,ht,ρ'',_,hR,fun k=>by subst he;rfl⟩
  ·obtain⟨q,hq,ρ'',st'',hR,hk⟩:=packE_ok hex l e st _ h hf
   exact⟨.inr q,hq,ρ'',st'',hR,fun k=>hk k⟩
theorem aOpsR_ok{ops:Array Oper}{Q:Exit→Act→World→Prop}(hΓ:GOK P Γ)(hG:Good P w0 F):∀(l:List Nat) {ρ:Rho} {st:St} {a:Act} {w:World} {k:St→Option R},Rel w0 F Xc ρ0 ρ st a w→aOpsR P Γ ops l st k=some r →
 (∀ρ' st' a' w',Rel w0 F Xc ρ0 ρ' st' a' w'→k st'=some r→Q .normal a' w')→wpOps P ops Q l a w
 | [],ρ,st,a,w,k,h,hk,hn=>hn ρ st a w h hk
 | i::rest,ρ,st,a,w,k,h,hk,hn=>by
  simp only[aOpsR] at hk
  split at hk
  ·rename_i ho
   simp only[wpOps,ho]
   exact aOpsR_ok hΓ hG rest h hk hn
  ·rename_i o ho
   split at hk
   ·rename_i t x hg hop
    have hw:Region.wanted o (yielded ops a.tmps)=true:=by simp[Region.wanted,hg]
    simp only[wpOps,ho]
    rw[if_pos hw]
    obtain⟨y,w',ρ',st',d,h1,h2,h3,h4⟩:=rangeK_ok h (h.ev x) hk
    exact .inl (wp_val (by unfold execOp;rw[hop];simp only[Sem.run_bind,h1,Result.andThen_ok];rfl) (aOpsR_ok hΓ hG rest (h2.put o.dst h3) h4 hn))
   ·rename_i x hg hop
    have hw:Region.wanted o (yielded ops a.tmps)=true:=by simp[Region.wanted,hg]
    simp only[wpOps,ho]
    rw[if_pos hw]
    obtain⟨y,st',d,h1,h2,h3,h4⟩:=entryK_ok h (h.ev x) hk
    exact .inl (wp_val (by unfold execOp;rw[hop];simp only[Sem.run_bind,h1,Result.andThen_ok];rfl) (aOpsR_ok hΓ hG rest (h2.put o.dst h3) h4 hn))
   ·exact aOps_tail (tail:=rest) hΓ hG [i] h hk fun ρ' st' a' w' hR hk'=>aOpsR_ok hΓ hG rest hR hk' hn
theorem rndK_ok{E:Type}{ops:Array Oper}{Q:Exit→Act→World→Prop}{G:E→Prop}(hΓ:GOK P Γ)(hG:Good P w0 F){ρ:Rho}{st:St}{a:Act}{w:World}{k:St→Option E}(h:Rel w0 F Xc ρ0 ρ st a w)(hne:rndK P Γ ops st k≠[])
 (hall:∀X∈rndK P Γ ops st k,∃res,X=some res∧G res) (hn:∀ρ' st' a' w' res,Rel w0 F Xc ρ0 ρ' st' a' w'→k st'=some res→G res→Q .normal a' w'):wpOps P ops Q (List.range ops.size) a w:=by
 unfold rndK at hne hall
 split at hne
 case h_2=>exact(hne rfl).elim
 rename_i o ho
 simp only[ho] at hall
 split at hne
 case h_2=>exact(hne rfl).elim
 rename_i x hg hop
 simp only[hg,hop] at hall
 have hpos:0<ops.size:=(Array.getElem?_eq_some_iff.1 ho).1
 have hr:List.range ops.size=0::(List.range ops.size).tail:=by
  obtain⟨q,hq⟩:∃q,ops.size=q+1:=⟨ops.size-1,by omega⟩
  rw[hq,List.range_succ_eq_map]
  rfl
 rw[hr]
 have hw:Region.wanted o (yielded ops a.tmps)=true:=by simp[Region.wanted,hg]
 simp only[wpOps,ho]
 rw[if_pos hw]
 refine .inl (nextK_ok hop h hne fun ρ' st' a' w' hR hm=>?_)
 obtain⟨res,h1,h2⟩:=hall _ hm
 exact aOps_ok hΓ hG _ hR h1 fun ρ2 st2 a2 w2 hR2 hk2=>hn ρ2 st2 a2 w2 res hR2 hk2 h2
theorem aCode_ok{np n m:Nat}{amb:Bool}(hΓ:GOK P Γ)(hD:DrawOK P Γ dok)(hG:Good P w0 F):∀(c:ACode) (_:ρ0.ex=[]∨c.flat=true) (R:Type) (r:R) {ρ:Rho} {st:St} {a:Act} {w:World} {k:AEx→St→Option R} {Q:Exit→Act→World→Prop},Rel w0 F Xc ρ0 ρ st a w →
 aCode P Γ dok np n m amb c R st k=some r→(∀ρ' st' a' w' e,Rel w0 F Xc ρ0 ρ' st' a' w'→k e st'=some r→Q e.ex a' w')→c.code.wp P Q a w
 | .skip,hx,R,r,ρ,st,a,w,k,Q,h,hk,hn=>wp_skip (hn ρ st a w .normal h hk)
 | .ret,hx,R,r,ρ,st,a,w,k,Q,h,hk,hn=>wp_ret (hn ρ st a w .ret h hk)
 | .exit id,hx,R,r,ρ,st,a,w,k,Q,h,hk,hn=>wp_exit (hn ρ st a w (.exit id) h hk)
 | .region id ops draw,hx,R,r,ρ,st,a,w,k,Q,h,hk,hn=>by
  simp only[aCode] at hk
  split at hk
  ·rename_i hd
   cases draw with
   | false=>exact wp_region (aOps_ok hΓ hG _ h hk fun ρ' st' a' w' hR hk'=>hn ρ' st' a' w' .normal hR hk')
   | true=>
    have hd':dok ops=true:=by rcases hd with hd | hd;cases hd;exact hd
    refine wp_region_draw fun t=>?_
    exact hD ops hd' w0 F Xc ρ0 ρ st a _ (fun st=>k .normal st) r Q t hG (h.world (Stp.drew _ w)) hk fun ρ' st' a' w' hR hk'=>hn ρ' st' a' w' .normal hR hk'
  ·cases hk
 | .seq x y,hx,R,r,ρ,st,a,w,k,Q,h,hk,hn=>by
  simp only[aCode] at hk
  refine wp_seq (aCode_ok hΓ hD hG x (hx.imp (fun h=>h) fun hf=>(Bool.and_eq_true_iff.1 (show (x.flat&&y.flat)=true from hf)).1) R r h hk fun ρ' st' a' w' e hR hk'=>?_)
  cases e with
  | normal=>exact aCode_ok hΓ hD hG y (hx.imp (fun h=>h) fun hf=>(Bool.and_eq_true_iff.1 (show (x.flat&&y.flat)=true from hf)).2) R r hR hk' hn
  | exit id=>exact hn ρ' st' a' w' (.exit id) hR hk'
  | ret=>exact hn ρ' st' a' w' .ret hR hk'
 | .cond c x y,hx,R,r,ρ,st,a,w,k,Q,h,hk,hn=>by
  simp only[aCode] at hk
  unfold condK at hk
  split at hk
  ·rename_i hd
   obtain⟨k1,k2⟩:=bothU_some hk
   have hc:=h.ev c
   rw[hd] at hc
   rcases hc with hc | ⟨⟨b,hb⟩,_⟩
   ·cases hc
   ·cases b with
    | true=>exact wp_cond_true hb (aCode_ok hΓ hD hG x (hx.imp (fun h=>h) fun hf=>(Bool.and_eq_true_iff.1 (show (x.flat&&y.flat)=true from hf)).1) R r h k1 hn)
    | false=>exact wp_cond_false hb (aCode_ok hΓ hD hG y (hx.imp (fun h=>h) fun hf=>(Bool.and_eq_true_iff.1 (show (x.flat&&y.flat)=true from hf)).2) R r h k2 hn)
  obtain⟨b,hb,hk1⟩:=asB_ok (h.ev c) hk
  cases b with
  | true=>exact wp_cond_true hb (aCode_ok hΓ hD hG x (hx.imp (fun h=>h) fun hf=>(Bool.and_eq_true_iff.1 (show (x.flat&&y.flat)=true from hf)).1) R r h hk1 hn)
  | false=>exact wp_cond_false hb (aCode_ok hΓ hD hG y (hx.imp (fun h=>h) fun hf=>(Bool.and_eq_true_iff.1 (show (x.flat&&y.flat)=true from hf)).2) R r h hk1 hn)
 | .block id x,hx,R,r,ρ,st,a,w,k,Q,h,hk,hn=>by
  simp only[aCode] at hk
  refine wp_block (aCode_ok hΓ hD hG x (hx.imp (fun h=>h) fun hf=>(show x.flat=true from hf)) R r h hk fun ρ' st' a' w' e hR hk'=>?_)
  cases e with
  | normal=>exact hn ρ' st' a' w' .normal hR hk'
  | exit j=>
   simp only at hk'
   show if j=id then Q .normal a' w' else Q (.exit j) a' w'
   split
   ·rename_i hj;rw[if_pos hj] at hk';exact hn ρ' st' a' w' .normal hR hk'
   ·rename_i hj;rw[if_neg hj] at hk';exact hn ρ' st' a' w' (.exit j) hR hk'
  | ret=>exact hn ρ' st' a' w' .ret hR hk'
 | .scope x,hx,R,r,ρ,st,a,w,k,Q,h,hk,hn=>by
  simp only[aCode] at hk
  exact wp_scope_straight (aCode_ok hΓ hD hG x (hx.imp (fun h=>h) fun hf=>(show x.flat=true from hf)) R r h hk fun ρ' st' a' w' e hR hk'=>by
   have:=hn ρ' st' a' w' e hR hk'
   cases e <;> exact this)
 | .label l,hx,R,r,ρ,st,a,w,k,Q,h,hk,hn=>wp_label (hn ρ st a w .normal h hk)
 | .loop hh xs x,hx,R,r,ρ,st,a,w,k,Q,h,hk,hn=>by
  have hex:ρ0.ex=[]:=hx.resolve_right (by simp[ACode.flat])
  simp only[aCode] at hk
  obtain⟨s0,hk1,ρ1,h1⟩:=packD_ok hex h hk
  obtain⟨q,hq,hk2⟩:=ob_some hk1
  obtain⟨i,hi⟩:=loopU_iff.1 hq
  refine wp_loop_rounds i ?_
  clear hk hk1 hq h
  induction i generalizing s0 ρ1 a w with
  | zero=>simp[iter] at hi
  | succ i ih=>
   rw[rounds_succ]
   rw[iter] at hi
   cases hF:(aCode P Γ dok np n m amb x (Tup hh.shapes⊕EP xs) (unpack hh np n m s0) fun e st'=>match e with
    | .normal=>packD np n m hh st' fun s'=>some (.inl s')
    | e=>packE np n m xs e st' fun q=>some (.inr q)) with
   | none=>rw[hF] at hi;cases hi
   | some res=>
    rw[hF] at hi
    refine aCode_ok hΓ hD hG x (.inl hex) _ res h1 hF fun ρ' st' a' w' e hR hk'=>?_
    cases e with
    | normal=>
     obtain⟨s',hs',ρ2,h2⟩:=packD_ok hex hR hk'
     cases hs'
     exact ih (a:=a') (w:=w') (s0:=s') (ρ1:=ρ2) h2 hi
    | exit id=>
     obtain⟨q',hq',ρ2,st2,h2,hu⟩:=packE_ok hex xs (.exit id) st' _ hR hk'
     cases hq'
     simp only[Option.some.injEq] at hi
     subst hi
     rw[hu] at hk2
     exact hn ρ2 st2 a' w' (.exit id) h2 hk2
    | ret=>
     obtain⟨q',hq',ρ2,st2,h2,hu⟩:=packE_ok hex xs .ret st' _ hR hk'
     cases hq'
     simp only[Option.some.injEq] at hi
     subst hi
     rw[hu] at hk2
     exact hn ρ2 st2 a' w' .ret h2 hk2
 | .join xs x,hx,R,r,ρ,st,a,w,k,Q,h,hk,hn=>by
  have hex:ρ0.ex=[]:=hx.resolve_right (by simp[ACode.flat])
  simp only[aCode] at hk
  obtain⟨q,hq,hk2⟩:=ob_some hk
  refine aCode_ok hΓ hD hG x (.inl hex) _ q h hq fun ρ' st' a' w' e hR hk'=>?_
  obtain⟨q',hq',ρ2,st2,h2,hu⟩:=packE_ok hex xs e st' _ hR hk'
  cases hq'
  rw[hu] at hk2
  exact hn ρ2 st2 a' w' e h2 hk2
 | .unr i x,hx,R,r,ρ,st,a,w,k,Q,h,hk,hn=>by
  simp only[aCode] at hk
  refine wp_loop_rounds i ?_
  induction i generalizing st ρ a w with
  | zero=>simp[unrU] at hk
  | succ i ih=>
   rw[rounds_succ]
   simp only[unrU] at hk
   refine aCode_ok hΓ hD hG x (hx.imp (fun h=>h) fun hf=>(show x.flat=true from hf)) R r h hk fun ρ' st' a' w' e hR hk'=>?_
   cases e with
   | normal=>exact ih (hx.imp (fun h=>h) fun hf=>(show x.flat=true from hf)) ρ' st' a' w' hR hk'
   | exit id=>exact hn ρ' st' a' w' (.exit id) hR hk'
   | ret=>exact hn ρ' st' a' w' .ret hR hk'
 | .regR id ops,hx,R,r,ρ,st,a,w,k,Q,h,hk,hn=>by
  simp only[aCode] at hk
  exact wp_region (aOpsR_ok hΓ hG _ h hk fun ρ' st' a' w' hR hk'=>hn ρ' st' a' w' .normal hR hk')
 | .rng id ops hh xs x,hx,R,r,ρ,st,a,w,k,Q,h,hk,hn=>by
  have hex:ρ0.ex=[]:=hx.resolve_right (by simp[ACode.flat])
  simp only[aCode] at hk
  obtain⟨s0,hk1,ρ1,h1⟩:=packD_ok hex h hk
  generalize hFF:(fun s:Tup hh.shapes=>rndK P Γ ops (unpack hh np n m s) fun st=>aCode P Γ dok np n m amb x (Tup hh.shapes⊕EP xs) st fun e st'=>match e with
   | .normal=>packD np n m hh st' fun s'=>some (.inl s')
   | e=>packE np n m xs e st' fun q=>some (.inr q))=FF at hk1
  obtain⟨i,hi⟩:=rngU_some hk1
  refine wp_loop_rounds i ?_
  clear hk hk1 h
  induction i generalizing s0 ρ1 a w with
  | zero=>simp[iterA] at hi
  | succ i ih=>
   rw[rounds_succ]
   rw[iterA] at hi
   have hs0:FF s0=rndK P Γ ops (unpack hh np n m s0) fun st=>aCode P Γ dok np n m amb x (Tup hh.shapes⊕EP xs) st fun e st'=>match e with
    | .normal=>packD np n m hh st' fun s'=>some (.inl s')
    | e=>packE np n m xs e st' fun q=>some (.inr q):=by rw[←hFF]
   have hne:FF s0≠[]:=fun e=>by
    rw[e] at hi
    simp[agreeU] at hi
   refine wp_seq (wp_region (rndK_ok (G:=fun res:Tup hh.shapes⊕EP xs=>(match res with
    | .inl s'=>iterA FF (fun q=>unpackE np n m xs q k) i s'
    | .inr q=>unpackE np n m xs q k)=some r) hΓ hG h1 (hs0▸hne) (fun X hX=>?_) fun ρ' st' a' w' res hR hk' hres=>?_))
   ·have:=agreeU_some hi _ (List.mem_map.2 ⟨X,hs0▸hX,rfl⟩)
    match X,this with
    | some (.inl s'),this=>exact⟨_,rfl,this⟩
    | some (.inr q),this=>exact⟨_,rfl,this⟩
    | none,this=>cases this
   ·refine aCode_ok hΓ hD hG x (.inl hex) _ res hR hk' fun ρ2 st2 a2 w2 e hR2 hk2=>?_
    cases e with
    | normal=>
     obtain⟨s',hs',ρ3,h3⟩:=packD_ok hex hR2 hk2
     cases hs'
     exact ih (a:=a2) (w:=w2) (s0:=s') (ρ1:=ρ3) h3 hres
    | exit id=>
     obtain⟨q',hq',ρ3,st3,h3,hu⟩:=packE_ok hex xs (.exit id) st2 _ hR2 hk2
     cases hq'
     simp only at hres
     rw[hu] at hres
     exact hn ρ3 st3 a2 w2 (.exit id) h3 hres
    | ret=>
     obtain⟨q',hq',ρ3,st3,h3,hu⟩:=packE_ok hex xs .ret st2 _ hR2 hk2
     cases hq'
     simp only at hres
     rw[hu] at hres
     exact hn ρ3 st3 a2 w2 .ret h3 hres
end
structure Sig where
 na:Nat
 np:Nat
 hin:Hint
 nres:Nat
 kept:List Nat
 nnew:Nat
 hout:Hint
 nob:Nat
def Sig.no(sg:Sig):Nat:=sg.nres+sg.kept.length
def rowModes:List Sh→List (Option (TypeId×Nat))
 | []=>[]
 | .row e n _::l=>some (e,n)::rowModes l
 | _::l=>none::rowModes l
section
variable {R:Type} (P:Program) (Γ:FuncId→Option Callee) (dok:Array Oper→Bool)
def resK(st:St):List ResultVar→(List S1→Option R)→Option R
 | [],k=>k []
 | .tmp t::l,k=>match st.env.getD t D.top with
  | .s s=>resK st l fun rs=>k (s::rs)
  | _=>none
 | .cell x t::l,k=>loadK P st t (ev st (.tmp x)) fun d=>match d with
  | .s s=>resK st l fun rs=>k (s::rs)
  | _=>none
def initSt(nt:Nat)(sg:Sig)(t:Tup sg.hin.shapes):St:=unpack sg.hin sg.np nt (sg.np+sg.nob) t
def keptD(objs:List O)(k:Nat):D:=match objs[k]? with
 | some (.row _ _ _ _)=>.s (.c (.row k))
 | _=>D.top
def outSt(sg:Sig)(rs:List S1)(objs:List O):St:={ np:=sg.np,env:=rs.map .s++sg.kept.map (keptD objs),objs:=objs }
def finK(rv:List ResultVar)(sg:Sig)(st:St):Option (Tup sg.hout.shapes):=if st.np=sg.np then resK P st rv fun rs=>if rs.length=sg.nres∧sg.np+sg.nnew≤st.objs.length then packK sg.hout (matH sg.hout (outSt sg rs st.objs)) some else none else none
noncomputable def bodyU(code:ACode)(rv:List ResultVar)(nt:Nat)(sg:Sig)(t:Tup sg.hin.shapes):Option (Tup sg.hout.shapes):=
 aCode P Γ dok sg.np nt (sg.np+sg.nob) true code (Tup sg.hout.shapes) (initSt nt sg t) fun e st=>match e with
  | .exit _=>none
  | _=>finK P rv sg st
end
def inSt(sg:Sig)(args:List S1)(po:List O):St:={ np:=sg.np,env:=args.map .s,objs:=po }
def calleeOf(sg:Sig)(U:Tup sg.hin.shapes→Option (Tup sg.hout.shapes)):Callee where
 rows:=rowModes sg.hin.shapes
 call args po k:=if args.length=sg.na∧po.length=sg.np then packK sg.hin (inSt sg args po) fun t=>ob (U t) fun q=>
  match s1s ((unpack sg.hout sg.np sg.no (sg.np+sg.nnew) q).env.take sg.nres) with
  | some rs=>k rs (unpack sg.hout sg.np sg.no (sg.np+sg.nnew) q).objs
  | none=>none
  else none
def Sig.ok(sg:Sig)(nt:Nat):Bool:=
 decide (sg.na≤nt)&&(slotsOf sg.hin.items).all (fun i=>decide (i<sg.na))&&(boxKeys sg.hout.items++rowKeys sg.hout.shapes).all (fun k=>decide (k<sg.np+sg.nnew))&&sg.kept.all (fun k=>decide (k<sg.np))
section
variable {R:Type} {P:Program} {w0 w:World} {F Xc X X'':Nat→Prop} {ρ0:Base} {ρ ρ'':Rho} {st:St} {a:Act} {r:R}
theorem resD_rd(h:Rel w0 F Xc ρ0 ρ st a w)(t:Nat):RdD w (XB st.objs ρ Xc) ρ (st.env.getD t D.top) (a.tmps.getD t undef):=by
 rw[List.getD_eq_getElem?_getD]
 cases hd:st.env[t]? with
 | none=>exact .inl rfl
 | some d=>
  have hlt:t<a.tmps.size:=by rw[h.len];exact(List.getElem?_eq_some_iff.1 hd).1
  have e1:a.tmps[t]?=some a.tmps[t]:=Array.getElem?_eq_getElem hlt
  rw[Array.getD_eq_getD_getElem?,e1]
  exact h.env t d _ hd e1
theorem loadAt_run{t:TypeId}{v y:Value}{w':World}(h:(Instr.loadAt t v).run P w=.ok y w'):((asAddr v).run P w).andThen (fun a w₁=>(loadVar t a).run P w₁)=.ok y w':=by
 unfold Instr.loadAt at h
 rw[Sem.run_bind] at h
 cases v with
 | pointer p=>
  cases p with
  | none=>have h':Result.halt _ _=Result.ok y w':=h;cases h'
  | some ad=>simpa[Instr.sureAddr,asAddr] using h
 | _=>have h':Result.halt _ _=Result.ok y w':=h;cases h'
theorem resK_ok(h:Rel w0 F Xc ρ0 ρ st a w):∀(l:List ResultVar) (k:List S1→Option R),resK P st l k=some r →
 ∃rs vs,k rs=some r∧RdSs w (XB st.objs ρ Xc) ρ rs vs∧rs.length=l.length ∧
  (l.mapM (m:=Sem) fun
   | .tmp t=>pure (a.tmps.getD t undef)
   | .cell x t=>do loadVar t (←asAddr (a.tmps.getD x undef))).run P w=.ok vs w
 | [],k,hk=>⟨[],[],hk,⟨rfl,fun i s y h1 _=>by simp at h1⟩,rfl,rfl⟩
 | .tmp t::l,k,hk=>by
  simp only[resK] at hk
  split at hk
  ·rename_i s hs
   have hd:=resD_rd h t
   rw[hs] at hd
   obtain⟨rs,vs,q1,q2,q3,q4⟩:=resK_ok h l _ hk
   refine⟨s::rs,a.tmps.getD t undef::vs,q1,.cons hd q2,by simp[q3],?_⟩
   rw[List.mapM_cons,Sem.run_bind]
   simp only[Sem.run_pure,Result.andThen_ok]
   rw[Sem.run_bind,q4]
   rfl
  ·cases hk
 | .cell x t::l,k,hk=>by
  simp only[resK] at hk
  have hx:=h.ev (.tmp x)
  obtain⟨d,y,e1,e2,e3⟩:=loadK_ok h hx hk
  split at e3
  ·rename_i s
   obtain⟨rs,vs,q1,q2,q3,q4⟩:=resK_ok h l _ e3
   refine⟨s::rs,y::vs,q1,.cons e2 q2,by simp[q3],?_⟩
   have e4:((asAddr (a.tmps.getD x undef)).run P w).andThen (fun a w₁=>(loadVar t a).run P w₁)=.ok y w:=loadAt_run e1
   rw[List.mapM_cons,Sem.run_bind]
   simp only[Sem.run_bind,e4,Result.andThen_ok,q4]
   rfl
  ·cases e3
theorem rdRes{rs:List S1}{vs:List Value}(h:RdSs w X ρ rs vs):RdRes w X ρ rs (if h:vs.toArray.size=1 then vs.toArray[0] else .tuple vs.toArray):=by
 match rs,vs,h with
 | [],[],h=>exact⟨#[],rfl,h⟩
 | [s],[v],h=>exact h.2 0 s v rfl rfl
 | s::s'::l,v::v'::vl,h=>exact⟨(v::v'::vl).toArray,by simp,h⟩
 | [],_::_,h=>have:=h.1;simp at this
 | _::_,[],h=>have:=h.1;simp at this
 | [_],_::_::_,h=>have:=h.1;simp at this
 | _::_::_,[_],h=>have:=h.1;simp at this
end
end Go.Eng
