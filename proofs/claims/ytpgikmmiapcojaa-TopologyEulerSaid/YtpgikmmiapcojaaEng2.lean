/- An engine that turns the code of a function into a plain function on tuples, part 2: what it says of a function holds of every run; it has no conditions of its own. -/
import Derived.Lib.MinMax
import Derived.LoopN
import Derived.Scope
import Derived.Test.YtpgikmmiapcojaaEng1
set_option linter.unusedSimpArgs false
set_option linter.unusedVariables false
namespace Go.Eng
open Go.RowKit
section
variable {R:Type} {P:Program} {w0 w:World} {F Xc:Nat→Prop} {ρ0:cq} {ρ:nP} {st:St} {a:Act} {r:R}
theorem Cq{X X':Nat→Prop}{w w':World}{ρ' ρ'':nP}{s:S1}{y:Value}(h:en w X ρ' s y)(hs:s.list.all E8=true):en w' X' ρ'' s y:=by
 have key:∀(c:C) (y:Value),E8 c=true→cm w X ρ' c y→cm w' X' ρ'' c y:=by
  intro c y hc hr
  unfold E8 at hc
  split at hc
  ·rcases hr with hr | ⟨hr,h1⟩
   ·cases hr
   ·have:=Rd.cr hr
    subst this
    exact .inr ⟨.v _,h1⟩
  ·cases hc
 cases s with
 | c c=>exact key c y (by simpa[S1.list] using hs) h
 | agg l=>
  obtain⟨cs,e,hl⟩:=h
  exact⟨cs,e,hl.1,fun i c y h1 h2=>key c y (jF.1 hs c (mM h1)) (hl.2 i c y h1 h2)⟩
theorem Jr{X X':Nat→Prop}{w w':World}{ρ' ρ'':nP}{rs:List S1}{v:Value}(h:ey w X ρ' rs v)(hs:rs.all (fun s=>s.list.all E8)=true):bc w' X' ρ'' (JK rs) v:=by
 have key:∀{vs:List Value},cz w X ρ' rs vs→cz w' X' ρ'' rs vs:=fun hl=>⟨hl.1,fun i s y h1 h2=>Cq (hl.2 i s y h1 h2) (jF.1 hs s (mM h1))⟩
 match rs with
 | [s]=>exact Cq (show en w X ρ' s v from h) (by simpa using hs)
 | []=>obtain⟨vs,e1,hl⟩:=h;exact⟨vs,e1,key hl⟩
 | s1::s2::l=>obtain⟨vs,e1,hl⟩:=h;exact⟨vs,e1,key hl⟩
theorem MV:∀(rows:List Nat) (ae:List O),(ai ae rows).length=ae.length
 | [],_=>rfl
 | q::rows,ae=>by simp only[ai];split <;> simp[MV rows]
theorem C5:∀(rows:List Nat) (ae:List O) (j:Nat),ae[j]?=some .dead→(ai ae rows)[j]?=some .dead
 | [],_,_,h=>h
 | q::rows,ae,j,h=>by
  simp only[ai]
  split
  ·rename_i o ho
   refine C5 rows _ j ?_
   by_cases hq:q=j
   ·subst hq;rw[h] at ho;cases ho;rw[iJ (dL.1 h).1];rfl
   ·rw[fK hq];exact h
  ·exact C5 rows ae j h
theorem C6:∀(rows:List Nat) (ae:List O) (j:Nat) (l:List C),ae[j]?=some (.cv l)→(ai ae rows)[j]?=some (.cv l)
 | [],_,_,_,h=>h
 | q::rows,ae,j,l,h=>by
  simp only[ai]
  split
  ·rename_i o ho
   refine C6 rows _ j l ?_
   by_cases hq:q=j
   ·subst hq;rw[h] at ho;cases ho;rw[iJ (dL.1 h).1];rfl
   ·rw[fK hq];exact h
  ·exact C6 rows ae j l h
theorem IP:∀(rows:List Nat) (ae:List O) (j:Nat) (hole:Option Nat) (e e2:TypeId) (n:Nat) (l:List (List T)),ae[j]?=some (.rr hole e e2 n l)→(ai ae rows)[j]?=some (.rr hole e e2 n l)
 | [],_,_,_,_,_,_,_,h=>h
 | q::rows,ae,j,hole,e,e2,n,l,h=>by
  simp only[ai]
  split
  ·rename_i o ho
   refine IP rows _ j hole e e2 n l ?_
   by_cases hq:q=j
   ·subst hq;rw[h] at ho;cases ho;rw[iJ (dL.1 h).1];rfl
   ·rw[fK hq];exact h
  ·exact IP rows ae j hole e e2 n l h
theorem FA:∀(rows:List Nat) (ae:List O) (j:Nat) (l:Nat),ae[j]?=some (.fwd l)→(ai ae rows)[j]?=some (.fwd l)
 | [],_,_,_,h=>h
 | q::rows,ae,j,l,h=>by
  simp only[ai]
  split
  ·rename_i o ho
   refine FA rows _ j l ?_
   by_cases hq:q=j
   ·subst hq;rw[h] at ho;cases ho;rw[iJ (dL.1 h).1];rfl
   ·rw[fK hq];exact h
  ·exact FA rows ae j l h
theorem xN:∀(rows:List Nat) (ae:List O) (j:Nat),j∉rows→(ai ae rows)[j]?=ae[j]?
 | [],_,_,_=>rfl
 | q::rows,ae,j,h=>by
  simp only[cJ,DW] at h
  simp only[ai]
  split
  ·rw[xN rows _ j h.2,fK (fun e=>h.1 e.symm)]
  ·exact xN rows ae j h.2
theorem XJ{ae:List O}{rows:List Nat}{j b:Nat}(h:Has (ai ae rows) ρ j b):Has ae ρ j b:=by
 obtain⟨o,v,h1,h2,h3,h4⟩:=h
 have hlt:j<ae.length:=by rw[←MV rows];exact(dL.1 h1).1
 cases ho:ae[j]'hlt with
 | box l=>
  have ho':ae[j]?=some (.box l):=by rw[dH hlt,ho]
  rw[rW _ _ _ _ ho'] at h1
  cases h1
  exact⟨_,v,ho',rfl,h3,h4⟩
 | row fz e n l=>
  have ho':ae[j]?=some (.row fz e n l):=by rw[dH hlt,ho]
  obtain⟨fz',g1,g2⟩:=rU rows _ _ _ _ _ _ ho'
  rw[g1] at h1
  cases h1
  cases fz with
  | false=>exact⟨_,v,ho',rfl,h3,h4⟩
  | true=>rw[g2 (.inl rfl)] at h2;cases h2
 | mp fz e n l=>
  have ho':ae[j]?=some (.mp fz e n l):=by rw[dH hlt,ho]
  obtain⟨fz',g1,g2⟩:=wR rows _ _ _ _ _ _ ho'
  rw[g1] at h1
  cases h1
  cases fz with
  | false=>exact⟨_,v,ho',rfl,h3,h4⟩
  | true=>rw[g2 (.inl rfl)] at h2;cases h2
 | cv l=>
  have ho':ae[j]?=some (.cv l):=by rw[dH hlt,ho]
  rw[C6 _ _ _ _ ho'] at h1
  cases h1;cases h2
 | rr hole e e2 n l=>
  have ho':ae[j]?=some (.rr hole e e2 n l):=by rw[dH hlt,ho]
  rw[IP _ _ _ _ _ _ _ _ ho'] at h1
  cases h1
  exact⟨_,v,ho',rfl,h3,h4⟩
 | fwd l=>
  have ho':ae[j]?=some (.fwd l):=by rw[dH hlt,ho]
  rw[FA _ _ _ _ ho'] at h1
  cases h1;cases h2
 | dead=>
  have ho':ae[j]?=some .dead:=by rw[dH hlt,ho]
  rw[C5 _ _ _ ho'] at h1
  cases h1;cases h2
 | fresh=>
  have ho':ae[j]?=some .fresh:=by rw[dH hlt,ho]
  rw[(Ab _ _ _).1 ho'] at h1
  cases h1;cases h2
theorem uH:∀(km:List (Option Nat)) (po:List O) (ae:List O) (j:Nat),some j∉km→(II ae km po)[j]?=ae[j]?
 | [],po,ae,j,_=>by cases po <;> rfl
 | some k::km,[],ae,j,_=>rfl
 | none::km,[],ae,j,_=>rfl
 | some k::km,o::po,ae,j,h=>by
  simp only[II]
  rw[uH km po _ j (fun hm=>h (by simp[hm])),fK (fun e=>h (by simp[e]))]
 | none::km,o::po,ae,j,h=>by
  simp only[II]
  exact uH km po _ j (fun hm=>h (by simp[hm]))
theorem U4:∀(km:List (Option Nat)) (po:List O) (ae:List O) (i k:Nat) (o:O),(km.filterMap id).Nodup→km[i]?=some (some k)→po[i]?=some o→k<ae.length→(II ae km po)[k]?=some o
 | [],po,ae,i,k,o,_,h,_,_=>by simp at h
 | m::km,[],ae,i,k,o,_,_,h,_=>by simp at h
 | none::km,o'::po,ae,i,k,o,hn,h1,h2,hl=>by
  simp only[II]
  cases i with
  | zero=>simp at h1
  | succ i=>exact U4 km po ae i k o (by simpa using hn) (by simpa using h1) (by simpa using h2) hl
 | some q::km,o'::po,ae,i,k,o,hn,h1,h2,hl=>by
  simp only[II]
  simp only[K6,K7] at hn
  obtain⟨hq,hn'⟩:=dC.1 hn
  cases i with
  | zero=>
   simp at h1 h2
   subst h1;subst h2
   rw[uH km po _ q (fun hm=>hq (MI.2 ⟨some q,hm,rfl⟩)),iJ hl]
  | succ i=>exact U4 km po _ i k o hn' (by simpa using h1) (by simpa using h2) (by simpa using hl)
theorem Sr{km:List (Option Nat)}(hn:(km.filterMap id).Nodup){i j k:Nat}(h1:km[i]?=some (some k))(h2:km[j]?=some (some k)):i=j:=by
 induction km generalizing i j with
 | nil=>simp at h1
 | cons s rs ih=>
  have key:∀q,rs[q]?=some (some k)→s=some k→False:=fun q hq e=>by
   subst e
   simp only[K6,K7] at hn
   exact(dC.1 hn).1 (MI.2 ⟨some k,mM hq,rfl⟩)
  have hnd:(rs.filterMap id).Nodup:=by
   cases s with
   | none=>simpa using hn
   | some v=>simp only[K6,K7] at hn;exact(dC.1 hn).2
  cases i with
  | zero=>
   cases j with
   | zero=>rfl
   | succ j=>simp at h1 h2;exact(key j h2 h1).elim
  | succ i=>
   cases j with
   | zero=>simp at h1 h2;exact(key i h1 h2).elim
   | succ j=>simp at h1 h2;rw[ih hnd h1 h2]
theorem LN{st:St}{dst:Option Nat}{aw:Nat}{nk:List Nat}(h:IJ st dst aw=some nk):nk.length=aw∧∀k∈nk,st.ae[k]?=some .fresh∧st.np≤k:=by
 unfold IJ at h
 split at h
 ·cases h;exact⟨rfl,by simp⟩
 ·rename_i n d
  dsimp only at h
  split at h
  ·rename_i hl
   cases h
   refine⟨hl,fun k hk=>?_⟩
   have hk1:=H5 hk
   obtain⟨hk2,hk3⟩:=B8.1 hk1
   obtain⟨j,_,rfl⟩:=kZ.1 hk2
   refine⟨?_,HC _ _⟩
   unfold uA at hk3
   split at hk3
   ·rename_i ho;exact ho
   ·cases hk3
  ·split at h
   ·rename_i hl
    cases h
    refine⟨hl,fun k hk=>?_⟩
    have hk1:=H5 hk
    obtain⟨hk2,hk3⟩:=B8.1 hk1
    simp only[cS,bE] at hk3
    refine⟨?_,hk3.1⟩
    have hk4:=hk3.2
    unfold uA at hk4
    split at hk4
    ·rename_i ho;exact ho
    ·cases hk4
   ·cases h
 ·cases h
theorem Cr:∀l:List Nat,l.filterMap (id ∘ some)=l
 | []=>rfl
 | k::l=>by rw[K6];simp only[Function.comp,id];exact fG _ (Cr l)
theorem SZ{ks:List Nat}{rws:List (Option Nat×O)}(h1:ks.Nodup)(h2:(rws.filterMap (·.1)).Nodup)(h3:∀key∈ks,key∈rws.filterMap (·.1)→False):((ks.map some++rws.map (·.1)).filterMap id).Nodup:=by
 rw[List.filterMap_append,ZU,ZU]
 have e1:ks.filterMap (id ∘ some)=ks:=by induction ks with | nil=>rfl | cons k l ih=>simp
 have e2:rws.filterMap (id ∘ (·.1))=rws.filterMap (·.1):=rfl
 rw[e1,e2]
 exact pU.2 ⟨h1,h2,fun a ha b hb e=>h3 a ha (e▸hb)⟩
def IQ(ρ:nP)(ks:List Nat)(rws:List (Option Nat×O)):nP:=fun i=>match (ks.map some++rws.map (·.1))[i]? with
 | some (some k)=>ρ k
 | some none=>some nilN
 | none=>none
where nilN:Value:=.slice none 0 0
theorem PL{f:FuncId}{A:Callee}{dst:Option Nat}{ds:List D}{vals:List Value}{k:St→D→Option R}(hG:Good P w0 F)(hA:A.OK P f)(h:Rel w0 F Xc ρ0 ρ st a w)(hlen:ds.length=vals.length)
 (hd:∀(i:Nat) d v,ds[i]?=some d→vals[i]?=some v→bc w (XB st.ae ρ Xc) ρ d v) (hk:yV A st dst ds k=some r):
 Calls P f vals.toArray w fun e w'=>∃v ρ' st' d,e=.returned v∧Rel w0 F Xc ρ0 ρ' st' a w'∧bc w' (XB st'.ae ρ' Xc) ρ' d v∧k st' d=some r:=by
 obtain⟨hA,hAi,_⟩:=hA
 unfold yV at hk
 split at hk
 ·rename_i I hI
  exact hAi I hI dst ds vals k hG h hlen hd hk
 unfold AG at hk
 split at hk
 ·cases hk
 rename_i ss hss
 have hds:=LL hss
 split at hk
 ·cases hk
 rename_i bl hbl
 split at hk
 ·cases hk
 rename_i cs rws hhand
 dsimp only at hk
 split at hk
 case isFalse=>cases hk
 rename_i hcond
 simp only[cS,bE,jF] at hcond
 obtain⟨hrk,hdis⟩:=hcond
 obtain⟨rs,po',hk1,hcon⟩:=hA _ _ _ r hk
 clear hk
 generalize hks:xW A.deep st.ae ss=ks at *
 generalize htk:lP A.rows (ss.flatMap S1.list++bl.flatten)=tk at *
 have hks_nd:ks.Nodup:=hks▸W8 _ _ ss
 obtain⟨hbl1,hbl2⟩:=xV hbl
 have hbox:∀(i:Nat) l,bl[i]?=some l→∃kk,ks[i]?=some kk∧st.ae[kk]?=some (.box l):=fun i l hi=>by
  obtain⟨kk,g1,g2⟩:=uO hbl i l hi
  unfold CD at g2
  split at g2
  ·cases g2;exact⟨kk,g1,by assumption⟩
  ·cases g2
 have hf:=h.freeze tk
 have hsl:cz w (XB st.ae ρ Xc) ρ ss vals:=⟨by rw[←hlen,hds,dM],fun i s y h1 h2=>hd i (.s s) y (by rw[hds,fF,h1];rfl) h2⟩
 obtain⟨ys1,hy1,hback1⟩:=XA ss vals hsl
 obtain⟨ys2,hy2,hback2⟩:=XC (w:=w) (X:=XB st.ae ρ Xc) (ρ:=ρ) (Q:=fun i zs=>∃kk v g ys ty,ks[i]?=some kk∧ρ kk=some v∧v=.pointer (some ⟨g,0,none⟩)∧w.heap[g]?=some (.cells ys ty (0,0))∧da (bl.getD i []) g ys ty∧ys.toList=zs) bl 0 (fun i l hi=>by
  obtain⟨kk,g1,g2⟩:=hbox i l hi
  obtain⟨v,e1,g,ys,ty,e2,e3,e0,e4⟩:=h.ae kk _ g2
  exact⟨ys.toList,e4,kk,v,g,ys,ty,by rw[H8];exact g1,e1,e2,e3,by rw[H8,jY,hi];exact e0,rfl⟩)
 have hrows:=C3 _ _ _ _ _ hhand
 generalize hpo:jZ bl (cs.drop (ss.flatMap S1.list).length)++rws.map (·.2)=po at *
 let km0:List (Option Nat):=ks.map some++rws.map (·.1)
 have hkm0:km0=ks.map some++rws.map (·.1):=rfl
 have hρP:∀(i:Nat) m,km0[i]?=some m→IQ ρ ks rws i=match m with | some k=>ρ k | none=>some (.slice none 0 0):=fun i m hm=>by
  unfold IQ
  rw[←hkm0,hm]
  cases m <;> rfl
 have hidx:∀k i,IH ks k=some i→∀v,ρ k=some v→IQ ρ ks rws i=some v:=fun k i hi v hv=>by
  have h1:=SY hi
  have hil:i<ks.length:=(dL.1 h1).1
  rw[hρP i (some k) (by rw[hkm0,zX (by simpa using hil),fF,h1];rfl)]
  exact hv
 have hrwP:∀(q:Nat) p,rws[q]?=some p→IQ ρ ks rws (ks.length+q)=match p.1 with | some key=>ρ key | none=>some (.slice none 0 0):=fun q p hp=>by
  exact hρP (ks.length+q) p.1 (by rw[hkm0,HD (by simp)];simp[hp])
 have hXsub:∀b,XB (ai st.ae tk) ρ Xc b→XB st.ae ρ Xc b:=fun b hb=>by
  rcases hb with⟨j,hj⟩ | hb
  ·exact .inl ⟨j,XJ hj⟩
  ·exact .inr hb
 have hnb:bl.length=ks.length:=hbl1
 have hpoB:∀i,i<ks.length→po[i]?=(jZ bl (cs.drop (ss.flatMap S1.list).length))[i]?:=fun i hi=>by
  rw[←hpo,zX (by rw[vC];omega)]
 have hpoR:∀q,po[ks.length+q]?=(rws[q]?).map (·.2):=fun q=>by
  rw[←hpo,HD (by rw[vC];omega),vC,hnb,T1,fF]
 have hrowF:∀(q:Nat) p,rws[q]?=some p→∀key,p.1=some key→(ai st.ae tk)[key]?=some p.2:=fun q p hp key hk=>by
  obtain⟨e,n,l,h1,h2,_⟩:=hrows p (mM hp)
  rw[xN tk _ key (fun hm=>?_)]
  ·exact h2 key hk
  ·have:=hdis key (MI.2 ⟨p,mM hp,hk⟩)
   simp[hm] at this
 have hHpo:∀i b,Has po (IQ ρ ks rws) i b→∃k,km0[i]?=some (some k)∧Has (ai st.ae tk) ρ k b:=fun i b ⟨o,v,h1,h2,h3,h4⟩=>by
  by_cases hi:i<ks.length
  ·have hkk:ks[i]?=some ks[i]:=dH hi
   have hkm:km0[i]?=some (some ks[i]):=by rw[hkm0,zX (by simpa using hi),fF,hkk];rfl
   have hbi:i<bl.length:=by omega
   obtain⟨kk,g1,g2⟩:=hbox i _ (dH hbi)
   rw[hkk] at g1
   cases g1
   rw[hρP i _ hkm] at h3
   exact⟨ks[i],hkm,_,v,rW _ _ _ _ g2,rfl,h3,h4⟩
  ·obtain⟨q,rfl⟩:∃q,i=ks.length+q:=⟨i-ks.length,by omega⟩
   rw[hpoR q] at h1
   cases hp:rws[q]? with
   | none=>simp[hp] at h1
   | some p=>
    rw[hrwP q p hp] at h3
    simp only[hp,fA,cG] at h1
    have hkm:km0[ks.length+q]?=some p.1:=by rw[hkm0,HD (by simp)];simp[hp]
    cases hp1:p.1 with
    | none=>rw[hp1] at h3;simp only[cG] at h3;subst h3;have h5:=h4.one rfl;simp[bq] at h5
    | some key=>
     rw[hp1] at h3 hkm
     refine⟨key,hkm,p.2,v,hrowF q p hp key hp1,?_,h3,h4⟩
     rw[h1];exact h2
 have hXs:∀b,XB po (IQ ρ ks rws) (fun b=>XB (ai st.ae tk) ρ Xc b∧¬AZ po (IQ ρ ks rws) b) b→XB (ai st.ae tk) ρ Xc b:=fun b hb=>by
  rcases hb with⟨i,hi⟩ | hb
  ·obtain⟨kk,_,hh⟩:=hHpo i b hi
   exact .inl ⟨kk,hh⟩
  ·exact hb.1
 have hcells:bw w (XB po (IQ ρ ks rws) (fun b=>XB (ai st.ae tk) ρ Xc b∧¬AZ po (IQ ρ ks rws) b)) (IQ ρ ks rws) cs (ys1++ys2):=by
  refine PF h (fun b hb=>hXsub b (hXs b hb)) hidx _ _ _ _ _ _ hhand (fun key hkey b v hv hb hx=>?_) (fun q p hp=>hrwP q p hp) (hy1.append hy2)
  obtain⟨o,hob,hro⟩:=IK _ _ _ _ _ hhand key hkey
  obtain⟨o',f1,f2⟩:=Z5 hob hro (htk▸hkey)
  have hk':=hf.ae key _ f1
  cases o' with
  | row fz e n l=>
   obtain⟨v',e1,e2⟩:=hk'
   rw[hv] at e1
   cases e1
   exact e2.frozen f2 b hb (hXs b hx)
  | mp fz e n l=>
   obtain⟨v',e1,e2⟩:=hk'
   rw[hv] at e1
   cases e1
   exact e2.frozen f2 b hb (hXs b hx)
  | box l=>cases f2
  | cv l=>cases f2
  | rr hole e e2 n l=>cases f2
  | fwd l=>cases f2
  | dead=>cases f2
  | fresh=>cases f2
 have hlen1:ys1.length=(ss.flatMap S1.list).length:=hy1.1
 have hcs2:=hcells.cut
 obtain⟨hc1,hc2⟩:=hcs2
 rw[hlen1] at hc1 hc2
 obtain⟨hbl3,hboxP⟩:=hback2 _ _ _ hc2
 have hcall:=hcon w (fun b=>XB (ai st.ae tk) ρ Xc b∧¬AZ po (IQ ρ ks rws) b) (IQ ρ ks rws) vals (fun i o ho=>by
  by_cases hi:i<ks.length
  ·rw[hpoB i hi] at ho
   obtain⟨l',zs,rfl,⟨kk,v,g,ys,ty,e1,e2,e3,e4,e0,e5⟩,e6⟩:=hboxP i o ho
   rw[H8] at e1 e0
   refine⟨v,?_,g,ys,ty,e3,e4,(HK bl _ (IL _ _ _ _ _ hhand).right i l' ho).head e0,by rw[e5];exact e6⟩
   rw[hρP i (some kk) (by rw[hkm0,zX (by simpa using hi),fF,e1];rfl)]
   exact e2
  ·obtain⟨q,rfl⟩:∃q,i=ks.length+q:=⟨i-ks.length,by omega⟩
   rw[hpoR q] at ho
   cases hp:rws[q]? with
   | none=>simp[hp] at ho
   | some p=>
    simp only[hp,fA,cG] at ho
    subst ho
    obtain⟨e,n,l,h1,h2,h3⟩:=hrows p (mM hp)
    have hr:=hrwP q p hp
    cases hp1:p.1 with
    | none=>
     rw[hp1] at hr
     obtain⟨h1,hn⟩:=h3 hp1
     rw[h1]
     exact⟨_,hr,hn,.nil n,⟨[],rowAt.nil w e n,⟨rfl,fun i t y h1 _=>by simp[flat] at h1⟩⟩,fun hc=>by cases hc⟩
    | some key=>
     rw[hp1] at hr
     have hF:=hrowF q p hp key hp1
     rcases h1 with h1 | h1
     ·rw[h1] at hF ⊢
      obtain⟨v,f1,f2⟩:=hf.ae key _ hF
      exact⟨v,hr.trans f1,f2.1,f2.2.1,by
       obtain⟨xs,f3,f4⟩:=f2.2.2.1
       exact⟨xs,f3,f4.step (.refl (fun _=>False) w) (fun _ hb=>False.elim hb) (fun b hb=>.inl (hXs b hb))⟩,fun hc=>by cases hc⟩
     ·rw[h1] at hF ⊢
      obtain⟨v,f1,q1,g,es,clock,q2,q3,q4,q5⟩:=hf.ae key _ hF
      exact⟨v,hr.trans f1,q1,g,es,clock,q2,q3,q4.step (.refl (fun _=>False) w) (fun _ hb=>False.elim hb) (fun b hb=>.inl (hXs b hb)),fun hc=>by cases hc⟩)
  (fun i j b hi hj=>by
   obtain⟨k1,g1,h1⟩:=hHpo i b hi
   obtain⟨k2,g2,h2⟩:=hHpo j b hj
   have:=hf.sep k1 k2 b h1 h2
   subst this
   exact Sr (SZ hks_nd hrk (fun key hk hk2=>by
    obtain⟨p,hp,hpk⟩:=MI.1 hk2
    obtain⟨i,hi,hie⟩:=B7 hk
    have hbi:i<bl.length:=by omega
    obtain⟨kk,g1,g2⟩:=hbox i _ (dH hbi)
    rw[dH hi,hie] at g1
    cases g1
    obtain⟨e,n,l,q1,q2,_⟩:=hrows p hp
    have:=q2 key hpk
    rcases q1 with q1 | q1 <;> (rw[g2,q1] at this;cases this))) g1 g2)
  (fun b hb=>by
   rcases hb.1 with hm | hx
   ·exact hf.lt hm
   ·exact KX (hf.jm b hx) hf.frame.size)
  (fun b hb hx=>hx.2 hb)
  (hG.call h.frame fun b ⟨i,hi⟩=>by
   obtain⟨kk,_,hh⟩:=hHpo i b hi
   exact hf.own b ⟨kk,hh⟩)
  (hback1 _ _ _ _ hcells)
 refine hcall.mono fun e w' ⟨v,ρ',he,hs,hρ',hle,hok,hsep,hnew,hres⟩=>?_
 split at hk1
 ·rename_i hb
  simp only[cS,K5] at hb
  obtain⟨⟨hb1,hb2⟩,hb3⟩:=hb
  have hno:∀b,¬AZ po (IQ ρ ks rws) b:=fun b ⟨i,o,_,h1,_⟩=>by rw[hb1] at h1;simp at h1
  exact⟨v,ρ,st,JK rs,he,h.world (hs.mono fun b hb _=>(hno b hb).elim),Jr hres hb3,hk1⟩
 ·split at hk1
  ·cases hk1
  rename_i nk hnk
  split at hk1
  case isFalse=>cases hk1
  rename_i hcond2
  simp only[cS,bE] at hcond2
  obtain⟨hnkd,_⟩:=hcond2
  split at hk1
  case h_2=>cases hk1
  rename_i po2 rs' hpo2 hrs'
  obtain⟨hnl,hnf⟩:=LN hnk
  obtain⟨hp2l,hp2⟩:=xV hpo2
  have hpl:po.length=km0.length:=by
   rw[←hpo,hkm0,tL,vC,tL,dM,dM,dM,hnb]
  have hkml:(km0++nk.map some).length=po'.length:=by rw[tL,dM,hnl];omega
  let ρ'':nP:=fun j=>match IH nk j with | some i=>ρ' (po.length+i) | none=>ρ j
  have hρn:∀(i k:Nat),nk[i]?=some k→ρ'' k=ρ' (po.length+i):=fun i k hi=>by
   cases hq:IH nk k with
   | none=>exact((List.idxOf?_eq_none_iff.1 hq) (mM hi)).elim
   | some q=>
    have:=GM hnkd (SY hq) hi
    subst this
    simp only[ρ'',hq]
  have hρo:∀k,k∉nk→ρ'' k=ρ k:=fun k hk=>by
   have:IH nk k=none:=List.idxOf?_eq_none_iff.2 hk
   simp only[ρ'',this]
  have hkmF:∀(i k:Nat),km0[i]?=some (some k)→∃o,(ai st.ae tk)[k]?=some o∧o≠.fresh:=fun i k hi=>by
   rw[hkm0] at hi
   by_cases hik:i<ks.length
   ·rw[zX (by simpa using hik),fF] at hi
    have hkk:ks[i]?=some k:=by
     cases hq:ks[i]? with
     | none=>simp[hq] at hi
     | some k'=>simp only[hq,fA,cG] at hi;rw[hi]
    obtain⟨kk,g1,g2⟩:=hbox i _ (dH (show i<bl.length by omega))
    rw[hkk] at g1
    cases g1
    exact⟨_,rW _ _ _ _ g2,fun e=>by cases e⟩
   ·rw[HD (by simpa using Nat.le_of_not_lt hik)] at hi
    simp only[dM,fF] at hi
    cases hp:rws[i-ks.length]? with
    | none=>simp[hp] at hi
    | some p=>
     simp only[hp,fA,cG] at hi
     obtain⟨e,n,l,q1,_,_⟩:=hrows p (mM hp)
     exact⟨p.2,hrowF _ p hp k hi,fun e=>by rcases q1 with q1 | q1 <;> (rw[q1] at e;cases e)⟩
  have hkmn:∀(i k:Nat),km0[i]?=some (some k)→k∉nk:=fun i k hi hm=>by
   obtain⟨o,h1,h2⟩:=hkmF i k hi
   rw[(hnf k hm).1] at h1
   cases h1
   exact h2 rfl
  have hkmc:∀(i:Nat) m,(km0++nk.map some)[i]?=some m→(i<po.length∧km0[i]?=some m)∨∃q k,i=po.length+q∧nk[q]?=some k∧m=some k:=fun i m hi=>by
   rw[rR] at hi
   split at hi
   ·rename_i hlt;exact .inl ⟨by omega,hi⟩
   ·rename_i hlt
    rw[fF] at hi
    cases hq:nk[i-km0.length]? with
    | none=>simp[hq] at hi
    | some k=>simp only[hq,fA,cG] at hi;exact .inr ⟨i-km0.length,k,by omega,hq,hi.symm⟩
  have hkmA:∀(i k:Nat),(km0++nk.map some)[i]?=some (some k)→ρ'' k=ρ' i:=fun i k hi=>by
   rcases hkmc i _ hi with⟨h1,h2⟩ | ⟨q,k',h1,h2,h3⟩
   ·rw[hρo k (hkmn i k h2),hρ' i h1,hρP i _ h2]
   ·cases h3;rw[h1];exact hρn q k h2
  have hKm:Jo (km0++nk.map some) ρ' ρ'':=fun i m hi v hv=>by
   cases m with
   | some k=>exact(hkmA i k hi).trans hv
   | none=>
    rcases hkmc i _ hi with⟨h1,h2⟩ | ⟨q,k',h1,h2,h3⟩
    ·rw[hρ' i h1,hρP i _ h2] at hv
     simp only[cG] at hv
     exact hv.symm
    ·cases h3
  have hkmN:((km0++nk.map some).filterMap id).Nodup:=by
   rw[List.filterMap_append,ZU]
   have e1:nk.filterMap (id ∘ some)=nk:=Cr nk
   rw[e1]
   refine pU.2 ⟨SZ hks_nd hrk (fun key hk hk2=>?_),hnkd,fun a ha b hb e=>?_⟩
   ·obtain⟨p,hp,hpk⟩:=MI.1 hk2
    obtain⟨i,hi,hie⟩:=B7 hk
    obtain⟨kk,g1,g2⟩:=hbox i _ (dH (show i<bl.length by omega))
    rw[dH hi,hie] at g1
    cases g1
    obtain⟨e,n,l,q1,q2,_⟩:=hrows p hp
    have:=q2 key hpk
    rcases q1 with q1 | q1 <;> (rw[g2,q1] at this;cases this)
   ·subst e
    obtain⟨m,hm,hme⟩:=MI.1 ha
    simp only[K7] at hme
    subst hme
    obtain⟨i,hi,hie⟩:=B7 hm
    exact hkmn i a (by rw[dH hi,hie]) hb
  have hmem:∀j,some j∈km0++nk.map some→∃i,(km0++nk.map some)[i]?=some (some j):=fun j hj=>by
   obtain⟨i,hi,e⟩:=B7 hj
   exact⟨i,by rw[dH hi,e]⟩
  have hlt:∀(i k:Nat),(km0++nk.map some)[i]?=some (some k)→k<(ai st.ae tk).length:=fun i k hi=>by
   rcases hkmc i _ hi with⟨_,h2⟩ | ⟨q,k',_,h2,h3⟩
   ·obtain⟨o,h4,_⟩:=hkmF i k h2
    exact(dL.1 h4).1
   ·cases h3
    exact(dL.1 (hnf k (mM h2)).1).1
  have hXF:∀b,AZ po (IQ ρ ks rws) b→∃k,some k∈km0++nk.map some∧Has (ai st.ae tk) ρ k b:=fun b ⟨i,hi⟩=>by
   obtain⟨k,h1,h2⟩:=hHpo i b hi
   exact⟨k,fL.2 (.inl (mM h1)),h2⟩
  have hobj:∀(i k:Nat) o,(km0++nk.map some)[i]?=some (some k)→po2[i]?=some o→(II (ai st.ae tk) (km0++nk.map some) po2)[k]?=some o:=fun i k o h1 h2=>
   U4 _ _ _ i k o hkmN h1 h2 (hlt i k h1)
  have hobj':∀(i k:Nat),(km0++nk.map some)[i]?=some (some k)→∃o o2,po'[i]?=some o∧E9 (km0++nk.map some) o=some o2∧(II (ai st.ae tk) (km0++nk.map some) po2)[k]?=some o2:=fun i k hi=>by
   have hil:i<po'.length:=by rw[←hkml];exact(dL.1 hi).1
   obtain⟨o2,g1,g2⟩:=hp2 i _ (dH hil)
   exact⟨_,o2,dH hil,g2,hobj i k o2 hi g1⟩
  have hlive:∀o o2,E9 (km0++nk.map some) o=some o2→o2.live=o.live:=fun o o2 ho=>by
   cases o with
   | box l=>
    simp only[E9] at ho
    cases hq:rT (l.map (AF (km0++nk.map some))) with
    | none=>simp[hq] at ho
    | some l'=>simp only[hq,fA,cG] at ho;subst ho;rfl
   | row fz e n l=>simp only[E9,cG] at ho;subst ho;rfl
   | mp fz e n l=>simp only[E9,cG] at ho;subst ho;rfl
   | cv l=>cases ho
   | rr hole e e2 n l=>cases ho
   | fwd l=>cases ho
   | dead=>simp only[E9,cG] at ho;subst ho;rfl
   | fresh=>cases ho
  have hH2:∀(i k b:Nat),(km0++nk.map some)[i]?=some (some k)→Has (II (ai st.ae tk) (km0++nk.map some) po2) ρ'' k b→Has po' ρ' i b:=fun i k b hi ⟨o,v,h1,h2,h3,h4⟩=>by
   obtain⟨o0,o2,g1,g2,g3⟩:=hobj' i k hi
   rw[g3] at h1
   cases h1
   exact⟨o0,v,g1,by rw[←hlive _ _ g2];exact h2,by rw[←hkmA i k hi];exact h3,h4⟩
  have hXX:∀b,XB (II (ai st.ae tk) (km0++nk.map some) po2) ρ'' Xc b→XB po' ρ' (fun b=>XB (ai st.ae tk) ρ Xc b∧¬AZ po (IQ ρ ks rws) b) b:=fun b hb=>by
   rcases hb with⟨j,hj⟩ | hb
   ·by_cases hK:some j∈km0++nk.map some
    ·obtain⟨i,hi⟩:=hmem j hK
     exact .inl ⟨i,hH2 i j b hi hj⟩
    ·have hj':Has (ai st.ae tk) ρ j b:=by
      obtain⟨o,v,h1,h2,h3,h4⟩:=hj
      rw[uH _ _ _ j hK] at h1
      rw[hρo j (fun hm=>hK (fL.2 (.inr (kZ.2 ⟨j,hm,rfl⟩))))] at h3
      exact⟨o,v,h1,h2,h3,h4⟩
     refine .inr ⟨.inl ⟨j,hj'⟩,fun hm=>?_⟩
     obtain⟨k,hk,hh⟩:=hXF b hm
     have:=hf.sep j k b hj' hh
     exact hK (this▸hk)
   ·refine .inr ⟨.inr hb,fun hm=>?_⟩
    obtain⟨k,_,hh⟩:=hXF b hm
    exact hf.xc b ⟨k,hh⟩ hb
  have hsame:cg (fun _=>False) w' w':=.refl _ w'
  refine⟨v,ρ'',_,JK rs',he,hf.change (II (ai st.ae tk) (km0++nk.map some) po2) ρ'' (fun j=>some j∈km0++nk.map some) hs (fun j hj=>?_) (fun j v hv=>?_) hXF (fun j b hj hb=>?_) (fun j j' b hj hj' hb hb'=>?_) (fun hX j o hj ho=>?_) (fun j hj=>?_),So hXX hKm hres hrs',hk1⟩
  ·exact⟨uH _ _ _ j hj,hρo j (fun hm=>hj (fL.2 (.inr (kZ.2 ⟨j,hm,rfl⟩))))⟩
  ·by_cases hm:j∈nk
   ·have:ρ j=none:=hf.ae j _ (hnf j hm).1
    rw[this] at hv;cases hv
   ·rw[hρo j hm];exact hv
  ·obtain⟨i,hi⟩:=hmem j hj
   rcases hnew i b (hH2 i j b hi hb) with⟨k',hk'⟩ | hge
   ·exact .inl (hXF b ⟨k',hk'⟩)
   ·exact .inr hge
  ·obtain⟨i,hi⟩:=hmem j hj
   obtain⟨i',hi'⟩:=hmem j' hj'
   have:=hsep i i' b (hH2 i j b hi hb) (hH2 i' j' b hi' hb')
   subst this
   rw[hi] at hi'
   cases hi'
   rfl
  ·obtain⟨i,hi⟩:=hmem j hj
   obtain⟨o0,o2,g1,g2,g3⟩:=hobj' i j hi
   have ho':(II (ai st.ae tk) (km0++nk.map some) po2)[j]?=some o:=ho
   rw[g3] at ho'
   cases ho'
   have hk0:=hok i o0 g1
   cases o0 with
   | dead=>simp only[E9,cG] at g2;subst g2;trivial
   | fresh=>cases g2
   | rr hole e e2 n l=>cases g2
   | fwd l=>cases g2
   | cv l=>cases g2
   | row fz e n l=>
    simp only[E9,cG] at g2
    subst g2
    obtain⟨v,f1,f2⟩:=hk0
    exact⟨v,(hkmA i j hi).trans f1,f2.1,f2.2.1,(by
     obtain⟨xs,f3,f4⟩:=f2.2.2.1
     exact⟨xs,f3,f4.step hsame (fun _ hb=>False.elim hb) (fun b hb=>.inl (hXX b hb))⟩),fun hz b hb hx=>f2.2.2.2 hz b hb (hXX b hx)⟩
   | mp fz e n l=>
    simp only[E9,cG] at g2
    subst g2
    obtain⟨v,f1,q1,g,es,clock,q2,q3,q4,q5⟩:=hk0
    exact⟨v,(hkmA i j hi).trans f1,q1,g,es,clock,q2,q3,q4.step hsame (fun _ hb=>False.elim hb) (fun b hb=>.inl (hXX b hb)),fun hz hx=>q5 hz (hXX g hx)⟩
   | box l=>
    simp only[E9] at g2
    cases hq:rT (l.map (AF (km0++nk.map some))) with
    | none=>simp[hq] at g2
    | some l'=>
     simp only[hq,fA,cG] at g2
     subst g2
     obtain⟨v,f1,g,ys,ty,f2,f3,f0,f4⟩:=hk0
     exact⟨v,(hkmA i j hi).trans f1,g,ys,ty,f2,f3,(Ad hq).head f0,XE hXX hKm f4 hq⟩
  ·exact hρo j (fun hm=>by have h7:st.np≤j:=(hnf j hm).2;have h8:j<st.np:=hj;omega)
end
@[irreducible] def R5(mx:Bool)(a b:Int):Int:=if mx then max a b else min a b
@[irreducible] def Yf(mx:Bool)(a b:ByteArray):ByteArray:=if mx then (if !Og a b then a else b) else (if Og a b||Od a b then a else b)
section
variable {R:Type} (P:Program) (Γ:FuncId→Option Callee)
def PO(mx:Bool)(t:TypeId)(x y:D)(k:D→Option R):Option R:=match P.underlying t with
 | some (.int kd)=>RV kd x fun a=>RV kd y fun b=>k (dI kd (R5 mx a b))
 | some .string=>RR x fun a=>RR y fun b=>k (dS (Yf mx a b))
 | _=>none
def JO(st:St)(dst:Option Nat)(ty:TypeId)(b:Builtin)(args:List D)(ts:List TypeId)(k:St→D→Option R):Option R:=match b,args,ts with
 | .len,[x],[t]=>EM P st t x fun d=>k st d
 | .append,[s,x],[t,u]=>y0 P st dst t u s x k
 | .copy,[s,x],[t,_]=>SS P st t s x k
 | .min,[x,y],[t,_]=>PO P false t x y fun d=>k st d
 | .max,[x,y],[t,_]=>PO P true t x y fun d=>k st d
 | _,_,_=>none
def Ct(caps:List (Nat×Nat)):List D:=caps.map fun p=>.s (.c (.box p.1 p.2))
def vE:Value→Option FuncId
 | .func (.func g) first captured=>if first.isEmpty&&captured.isEmpty then some g else none
 | _=>none
def mW(st:St)(dst:Option Nat)(f:D)(args:List D)(k:St→D→Option R):Option R:=zN f fun c=>match c with
 | .t (.v v)=>match vE v with
  | some g=>match Γ g with
   | some A=>match A.ext with
    | some I=>I.go args fun d=>k st d
    | none=>yV A st dst args k
   | none=>none
  | none=>none
 | .fn g caps=>match Γ g with
  | some A=>match A.ext with
   | some _=>none
   | none=>yV A st dst (args++Ct caps) k
  | none=>none
 | _=>none
def EN:List Nat:=match Γ 2000000 with
 | some A=>A.quiet
 | none=>[]
def FB(B:List Nat):D→Bool
 | .s (.c (.box k _))=>B.contains k
 | .s (.c (.pe _ _ _))=>true
 | _=>false
def oS:Option O→Bool
 | some (.box _)=>true
 | _=>false
def WP(B:List Nat)(o o':List O):Bool:=B.all fun k=>oS o[k]?||!oS o'[k]?
def S0:D→List Nat
 | .s s=>s.list.flatMap C.ks
 | .eg l=>l.flatMap fun s=>s.list.flatMap C.ks
def Aj(B:List Nat)(ds:List D):Bool:=ds.all fun d=>(S0 d).all fun k=>!B.contains k
def gN:List Nat:=match Γ 2000000 with
 | some A=>A.loose
 | none=>[]
def vF(l:List Nat):Option Nat→Bool
 | some s=>l.contains s
 | none=>false
def U5:D→Bool
 | .s (.c (.box _ _))=>true
 | .s (.c (.pe _ _ _))=>true
 | .s (.c (.t _))=>true
 | _=>false
def wU(st:St):D→Bool
 | .s (.c (.box k _))=>oS st.ae[k]?
 | _=>true
def tA(P:Program)(st:St)(dst:Option Nat)(t:TypeId)(d:D)(k:D→Option R):Option R:=match EN Γ with
 | []=>uZ P st t d k
 | B=>if ((FB B d&&wU st d)||vF (gN Γ) dst)=true then uZ P st t d k else none
def vG(P:Program)(st:St)(dst:Option Nat)(t:TypeId)(x ix:D)(k:D→Option R):Option R:=match EN Γ with
 | []=>kE P st t x ix k
 | _=>if (U5 x||vF (gN Γ) dst)=true then kE P st t x ix k else none
def NA(st:St)(dst:Option Nat):Bool:=(gN Γ).contains 8999999||match dst with
 | some d=>match st.ae[st.np+d]? with
  | some .fresh=>true
  | _=>false
 | none=>false
def U6(P:Program)(st:St)(dst:Option Nat)(t:TypeId)(k:St→D→Option R):Option R:=match EN Γ with
 | []=>uE P st dst t k
 | B=>if NA Γ st dst=true then uE P st dst t fun s d=>if (WP B st.ae s.ae||vF (gN Γ) dst)=true then k s d else none else none
def IR:List Nat:=match Γ 2000002 with
 | some A=>A.quiet
 | none=>[]
def uI:List Nat:=match Γ 2000002 with
 | some A=>A.loose
 | none=>[]
def Yg:List Nat:=(uI Γ).filterMap fun g=>if 5000000≤g then some (g-5000000) else none
def Su:D→List C
 | .s s=>s.list
 | .eg l=>l.flatMap S1.list
def Ri(o:Option O):List Nat:=match o with
 | some (.box l)=>l.flatMap C.rs
 | _=>[]
def Ak(ae:List O)(k:Nat)(ds:List D):Bool:=ds.all fun d=>(Su d).all fun c=>!c.rs.contains k&&c.ks.all fun k'=>k' != k&&!(Ri ae[k']?).contains k
def Sv:Option O→Bool
 | some .fresh=>false
 | some _=>true
 | none=>false
def Xi(ae:List O)(ds:List D):Bool:=(Yg Γ).all fun k=>Sv ae[k]?&&Ak ae k ds
def XK(ae:List O)(dst:Option Nat)(ds:List D):Bool:=match dst with
 | some s=>!(uI Γ).contains (2000000+s)||((gN Γ).contains (10000000+s)&&Xi Γ ae ds)
 | none=>true
def Js:D→Bool
 | .s (.c (.t _))=>true
 | .s (.c (.row k))=>(uI Γ).contains (5000000+k)
 | _=>false
def Vh(dst:Option Nat)(x:D):Bool:=match dst with
 | some s=>!(uI Γ).contains (3000000+s)||Js Γ x
 | none=>true
def Al(st:St)(dst:Option Nat)(f:D)(args:List D)(k:St→Option R):Option R:=match EN Γ with
 | []=>mW Γ st dst f args fun st d=>k (st.put dst d)
 | B=>if vF (gN Γ) dst=true then mW Γ st dst f args fun st d=>k (st.put dst d) else if Aj B (f::args)=true then mW Γ st dst f args fun st' d=>(fun s:St=>if WP B st.ae s.ae=true then k s else none) (st'.put dst d) else none
def Cu(st:St)(dst:Option Nat)(f:D)(args:List D)(k:St→Option R):Option R:=if XK Γ st.ae dst (f::args)=true then Al Γ st dst f args k else none
def Ga(x:D)(k:D→Option R):Option R:=zN x fun c=>match c with
 | .box _ _=>k x
 | .ic _ _ _ _=>k x
 | .pe _ _ _=>k x
 | _=>none
def PP:D→Bool
 | .s (.c (.t _))=>true
 | _=>false
def PQ(dst:Option Nat)(x:D):Bool:=match EN Γ with
 | []=>true
 | _=>PP x||vF (gN Γ) dst
def Xj(dst:Option Nat):Bool:=match dst with
 | some s=>(uI Γ).contains (4000000+s)
 | none=>false
def Cv(dst:Option Nat)(x:D):Bool:=!Xj Γ dst||Js Γ x
def Sw:D→Bool
 | .s (.c (.t _))=>true
 | .s (.c (.row k))=>!(uI Γ).contains (5000000+k)
 | _=>false
def XL(ae:List O)(dst:Option Nat):Bool:=!Xj Γ dst||(Yg Γ).all fun k=>Sv ae[k]?
def Vi(ae:List O)(dst:Option Nat)(s:D):Bool:=XL Γ ae dst&&(!Xj Γ dst||Sw Γ s)
def HN(ae:List O)(dst:Option Nat)(bi:Builtin)(args:List D):Bool:=match bi with
 | .len=>args.all fun x=>PQ Γ dst x&&Vh Γ dst x
 | .append=>match args with
  | s::_=>Vi Γ ae dst s
  | []=>true
 | _=>true
def Jt(t:TypeId)(x:D):Bool:=match EN Γ with
 | []=>true
 | B=>(gN Γ).contains 8999999||(gN Γ).contains (60000000+t)||match x with
  | .s (.c (.box k _))=>!B.contains k
  | .s (.c (.ic _ _ _ _))=>true
  | _=>false
def Am:D→Bool
 | .s (.c (.ic _ _ _ _))=>true
 | _=>false
def LO:D→Bool
 | .s (.c (.box _ _))=>true
 | _=>false
def Ju:D→Bool
 | .s (.c (.box k _))=>(uI Γ).contains (5000000+k)
 | _=>false
def An:D→Bool
 | .s (.c (.box k _))=>!(uI Γ).contains (5000000+k)
 | _=>false
def XM(t:TypeId)(x:D):Bool:=((!(IR Γ).contains t||Am x)&&(!(IR Γ).contains (1000000+t)||LO x))&&(!(IR Γ).contains (2000000+t)||An Γ x)
def EB(dst:Option Nat)(x:D):Bool:=match dst with
 | some s=>(!(uI Γ).contains s||LO x)&&(!(uI Γ).contains (1000000+s)||Ju Γ x)
 | none=>true
def Xk:List Nat:=match Γ 2000001 with
 | some A=>A.loose
 | none=>[]
def Vj(dst:Option Nat):Bool:=match dst with
 | some s=>(Xk Γ).contains s
 | none=>false
def jJ(P:Program)(st:St)(dst:Option Nat)(t:TypeId)(l c:D)(k:St→D→Option R):Option R:=if Vj Γ dst=true then A9 P st dst t l c k else rV P st dst t l c k
def mX(P:Program)(st:St)(dst:Option Nat)(t:TypeId)(l c:D)(k:St→D→Option R):Option R:=match EN Γ with
 | []=>jJ Γ P st dst t l c k
 | _=>if NA Γ st dst=true then jJ Γ P st dst t l c k else none
def Sx(o:Oper)(st:St)(k:St→Option R):Option R:=match o.op with
 | .move x=>k (st.put o.dst (ev st x))
 | .assign x=>k (st.put o.dst (ev st x))
 | .pick c x y=>RW (ev st c) fun q=>bif q then k (st.put o.dst (ev st x)) else k (st.put o.dst (ev st y))
 | .alloc e=>U6 Γ P st o.dst e fun st d=>k (st.put o.dst d)
 | .box _ x=>W5 st o.dst (ev st x) fun st d=>k (st.put o.dst d)
 | .build t parts=>IF P t (parts.toList.map fun p=>(p.1,ev st p.2)) fun d=>k (st.put o.dst d)
 | .buildSlice t len parts=>if XL Γ st.ae o.dst=true then kN P st o.dst t len (parts.toList.map fun p=>(p.1,ev st p.2)) fun st d=>k (st.put o.dst d) else none
 | .load t x=>if EB Γ o.dst (ev st x)=true then tA Γ P st o.dst t (ev st x) fun d=>k (st.put o.dst d) else none
 | .store t x v=>if (Jt Γ t (ev st x)&&XM Γ t (ev st x))=true then AA P st t (ev st x) (ev st v) fun st=>k (st.put o.dst D.top) else none
 | .nilCheck x=>Ga (ev st x) fun d=>k (st.put o.dst d)
 | .binOp op t x y yt=>R4 P st op t yt (ev st x) (ev st y) fun d=>k (st.put o.dst d)
 | .unOp op t x=>Se (P:=P) op t (ev st x) fun d=>k (st.put o.dst d)
 | .convert s t x=>SX P st s t (ev st x) fun d=>k (st.put o.dst d)
 | .makeFunc fn f c=>wS fn (f.toList.map (ev st)) (c.toList.map (ev st)) fun d=>k (st.put o.dst d)
 | .makeSlice t l c=>mX Γ P st o.dst t (ev st l) (ev st c) fun st d=>k (st.put o.dst d)
 | .slice t x lo hi mx=>if (PQ Γ o.dst (ev st x)&&Cv Γ o.dst (ev st x))=true then AD P st t (ev st x) (lo.map (ev st)) (hi.map (ev st)) (mx.map (ev st)) fun st d=>k (st.put o.dst d) else none
 | .fieldAddr t x f=>uF P t (ev st x) f fun d=>k (st.put o.dst d)
 | .field t x f=>LF P t (ev st x) f fun d=>k (st.put o.dst d)
 | .indexAddr t x ix=>vG Γ P st o.dst t (ev st x) (ev st ix) fun d=>k (st.put o.dst d)
 | .index t x ix=>LG P t (ev st x) (ev st ix) fun d=>k (st.put o.dst d)
 | .extract x i=>AE (ev st x) i fun d=>k (st.put o.dst d)
 | .call { callee:=.builtin b,args,argTypes }=>if HN Γ st.ae o.dst b (args.toList.map (ev st))=true then JO P st o.dst o.type b (args.toList.map (ev st)) argTypes.toList fun st d=>k (st.put o.dst d) else none
 | .call { callee:=.value f,args,.. }=>Cu Γ st o.dst (ev st f) (args.toList.map (ev st)) k
 | .makeMap t none=>AH P st o.dst t fun st d=>k (st.put o.dst d)
 | .lookup t x ix ok=>GN P st t (ev st x) (ev st ix) ok fun d=>k (st.put o.dst d)
 | .mapUpdate t m q v=>zB P st t (ev st m) (ev st q) (ev st v) fun st=>k (st.put o.dst D.top)
 | .insert t m q v=>zB P st t (ev st m) (ev st q) (ev st v) fun st=>k (st.put o.dst D.top)
 | .mapEntry t m q=>GO P st t (ev st m) (ev st q) fun st d=>k (st.put o.dst d)
 | .entryStore t m q v=>zP P st t (ev st m) (ev st q) (ev st v) fun st=>k (st.put o.dst D.top)
 | _=>none
def R6:D:=.eg []
def Gb(d:D)(x y:Option R):Option R:=match d with
 | .eg []=>x
 | _=>y
def JP(ops:Array Oper):List Nat→St→(St→Option R)→Option R
 | [],st,k=>k st
 | i::rest,st,k=>match ops[i]? with
  | none=>JP ops rest st k
  | some o=>match o.guard with
   | none=>Sx P Γ o st fun st=>JP ops rest st k
   | some (j,want)=>match (ops[j]?).bind (·.dst) with
    | none=>none
    | some t=>Gb (st.env.getD t D.top) (JP ops rest (st.put o.dst R6) k) <| RW (st.env.getD t D.top) fun b=>
     bif b then
      (if want then Sx P Γ o (st.put (some t) (dB true)) fun st=>JP ops rest st k else JP ops rest ((st.put (some t) (dB true)).put o.dst R6) k)
     else
      (if want then JP ops rest ((st.put (some t) (dB false)).put o.dst R6) k else Sx P Γ o (st.put (some t) (dB false)) fun st=>JP ops rest st k)
end
section
variable {R:Type} {P:Program} {Γ:FuncId→Option Callee} {w0 w:World} {F Xc:Nat→Prop} {ρ0:cq} {ρ:nP} {st:St} {a:Act} {r:R} {Q:Exit→Act→World→Prop}
theorem Sy{o:Oper}{next:Act→World→Prop}{y:Value}{w':World}(h:(execOp a.eval o).run P w=.ok (.value y) w')(hn:next (a.put o.dst y) w'):o.wp P a w next Q:=by
 unfold Oper.wp
 rw[h]
 exact hn
theorem iO{o:Oper}{next:Act→World→Prop}{y:Value}{w':World}{ρ':nP}{st':St}{d:D}{k:St→Option R}(hrun:(execOp a.eval o).run P w=.ok (.value y) w')(hR:Rel w0 F Xc ρ0 ρ' st' a w')
 (hd:bc w' (XB st'.ae ρ' Xc) ρ' d y) (hk:k (st'.put o.dst d)=some r) (hn:∀ρ' st' a' w',Rel w0 F Xc ρ0 ρ' st' a' w'→k st'=some r→next a' w'):o.wp P a w next Q:=
 Sy hrun (hn ρ' _ _ _ (hR.put o.dst hd) hk)
theorem NX(h:Rel w0 F Xc ρ0 ρ st a w)(l:List Operand):∀(i:Nat) d v,(l.map (ev st))[i]?=some d→(l.map a.eval)[i]?=some v→bc w (XB st.ae ρ Xc) ρ d v:=fun i d v h1 h2=>by
 rw[fF] at h1 h2
 cases hx:l[i]? with
 | none=>simp[hx] at h1
 | some x=>simp only[hx,fA,cG] at h1 h2;subst h1;subst h2;exact h.ev x
theorem Ao(h:Rel w0 F Xc ρ0 ρ st a w)(o:Option Operand):MR w (XB st.ae ρ Xc) ρ (o.map (ev st)) (o.map a.eval):=by
 cases o with
 | none=>trivial
 | some x=>exact h.ev x
theorem XN(h:Rel w0 F Xc ρ0 ρ st a w)(parts:Array (Nat×Operand)):
 (parts.toList.map fun p=>(p.1,ev st p.2)).length=(parts.map fun(i,x)=>(i,a.eval x)).toList.length ∧
 ∀(i:Nat) p q,(parts.toList.map fun p=>(p.1,ev st p.2))[i]?=some p→(parts.map fun(i,x)=>(i,a.eval x)).toList[i]?=some q→p.1=q.1∧bc w (XB st.ae ρ Xc) ρ p.2 q.2:=by
 refine⟨by simp,fun i p q h1 h2=>?_⟩
 rw[Array.toList_map] at h2
 rw[fF] at h1 h2
 cases hx:parts.toList[i]? with
 | none=>simp[hx] at h1
 | some x=>simp only[hx,fA,cG] at h1 h2;subst h1;subst h2;exact⟨rfl,h.ev x.2⟩
theorem JQ{f:FuncId}{args:Array Value}(h:E7 P f):(callFunc f args).run P w=.ok (.enter f args) w:=by
 obtain⟨fn,h1,h2,h3⟩:=h
 unfold callFunc
 simp only[Sem.run_bind,run_program,Result.andThen_ok,h1]
 rw[aA (by rw[h3];simp),aA (by cases hb:fn.body <;> simp[hb] at h2 ⊢)]
 rfl
theorem Cw{o:Oper}{next:Act→World→Prop}{f:FuncId}{vals:List Value}{k:St→D→Option R}{k':St→Option R}(hrun:(execOp a.eval o).run P w=.ok (.enter f vals.toArray) w)
 (hc:Calls P f vals.toArray w fun e w'=>∃v ρ' st' d,e=.returned v∧Rel w0 F Xc ρ0 ρ' st' a w'∧bc w' (XB st'.ae ρ' Xc) ρ' d v∧k st' d=some r)
 (hkk:∀st d,k st d=k' (st.put o.dst d)) (hn:∀ρ' st' a' w',Rel w0 F Xc ρ0 ρ' st' a' w'→k' st'=some r→next a' w'):o.wp P a w next Q:=by
 unfold Oper.wp
 rw[hrun]
 refine hc.mono fun e w' ⟨v,ρ',st',d,he,hR,hd,hk⟩=>?_
 subst he
 exact hn ρ' _ _ _ (hR.put o.dst hd) ((hkk st' d)▸hk)
theorem LP{o:Oper}{c:Call}{f:Operand}{next:Act→World→Prop}{k:St→Option R}(hΓ:jc P Γ)(hG:Good P w0 F)(ho:o.op=.call c)(hc:c.callee=.value f)(h:Rel w0 F Xc ρ0 ρ st a w)
 (hk:mW Γ st o.dst (ev st f) (c.args.toList.map (ev st)) (fun st d=>k (st.put o.dst d))=some r) (hn:∀ρ' st' a' w',Rel w0 F Xc ρ0 ρ' st' a' w'→k st'=some r→next a' w'):o.wp P a w next Q:=by
 unfold mW at hk
 obtain⟨cc,hfe,hcc,hk1⟩:=uX (h.ev f) hk
 have hexec:execOp a.eval o=(do let d ←resolve a.eval c o.type;invoke d.target d.args):=by
  unfold execOp;rw[ho]
 split at hk1
 ·rename_i v
  split at hk1
  case h_2=>cases hk1
  rename_i g hg
  split at hk1
  case h_2=>cases hk1
  rename_i A hA
  obtain⟨hcall,hOK⟩:=hΓ g A hA
  have hv:a.eval f=.func (.func g) #[] #[]:=by
   rcases hcc with hcc | ⟨hcc,_⟩
   ·cases hcc
   ·rw[Rd.cr hcc]
    unfold vE at hg
    split at hg
    ·split at hg
     ·rename_i hemp
      simp only[cS,Array.isEmpty_iff] at hemp
      cases hg
      rw[hemp.1,hemp.2]
     ·cases hg
    ·cases hg
  have hinv:(execOp a.eval o).run P w=(callFunc g (c.args.toList.map a.eval).toArray).run P w:=by
   rw[hexec]
   unfold resolve
   simp only[hc,hv,Deferred.ofValue,Sem.run_bind,Sem.run_pure,Result.andThen_ok,invoke]
   congr 2
   apply ZT
   simp
  split at hk1
  ·rename_i I hI
   obtain⟨y,d,h1,h2,h3⟩:=hOK.2.2 I hI _ _ _ (by simp) (NX h _) hk1
   exact iO (by rw[hinv,h1]) h h2 h3 hn
  rename_i hext
  have hrun:(execOp a.eval o).run P w=.ok (.enter g (c.args.toList.map a.eval).toArray) w:=by rw[hinv,JQ (hcall hext)]
  exact Cw hrun (PL hG hOK h (by simp) (NX h _) hk1) (fun st d=>rfl) hn
 ·rename_i g caps
  split at hk1
  case h_2=>cases hk1
  rename_i A hA
  obtain⟨hcall,hOK⟩:=hΓ g A hA
  split at hk1
  ·cases hk1
  rename_i hext
  replace hcall:=hcall hext
  rcases hcc with hcc | ⟨⟨hs,e1,e2,e3⟩,_⟩
  ·cases hcc
  ·have hrun:(execOp a.eval o).run P w=.ok (.enter g (c.args.toList.map a.eval++hs).toArray) w:=by
    rw[hexec]
    unfold resolve
    simp only[hc,e1,Deferred.ofValue,Sem.run_bind,Sem.run_pure,Result.andThen_ok,invoke]
    rw[JQ hcall]
    congr 2
    apply ZT
    simp
   refine Cw hrun (PL hG hOK h (by simp[Ct,e2]) (fun i d v h1 h2=>?_) hk1) (fun st d=>rfl) hn
   rw[rR] at h1 h2
   simp only[dM] at h1 h2
   split at h1
   ·rename_i hi
    rw[aC hi] at h2
    exact NX h _ i d v h1 h2
   ·rename_i hi
    rw[aA hi] at h2
    simp only[Ct,fF] at h1
    cases hp:caps[i-c.args.toList.length]? with
    | none=>rw[hp] at h1;cases h1
    | some p=>
     simp only[hp,fA,cG] at h1
     subst h1
     obtain⟨hh,f1,f2⟩:=e3 _ p v hp h2
     obtain⟨ba,g1,g2⟩:=f2
     exact .one (c:=.box p.1 p.2) ⟨hh,f1,ba,g1,g2⟩ (by rw[g2];rfl)
 ·cases hk1
theorem Cx{mx:Bool}{t:TypeId}{x y:D}{vx vy:Value}{X:Nat→Prop}{k:D→Option R}(hx:bc w X ρ x vx)(hy:bc w X ρ y vy)(hk:PO P mx t x y k=some r)(ts:Array TypeId)(ty:TypeId):
 ∃v d,(if mx then Builtin.max_ ts ty #[vx,vy] else Builtin.min_ ts ty #[vx,vy]).run P w=.ok v w∧bc w X ρ d v∧k d=some r:=by
 unfold PO at hk
 split at hk
 ·obtain⟨a,rfl,hk1⟩:=zZ hx hk
  obtain⟨b,rfl,hk2⟩:=zZ hy hk1
  refine⟨_,_,?_,.int _ _,hk2⟩
  unfold R5
  cases mx with
  | true=>exact Lib.run_max_ints w ts ty _ _ a b
  | false=>exact Lib.run_min_ints w ts ty _ _ a b
 ·obtain⟨a,rfl,hk1⟩:=BO hx hk
  obtain⟨b,rfl,hk2⟩:=BO hy hk1
  refine⟨_,_,?_,.str _,hk2⟩
  unfold Yf
  cases mx with
  | true=>
   have hb:∀q:Bool,(asBool (.bool q)).run P w=.ok q w:=fun _=>rfl
   simp[Builtin.max_,Builtin.max2,Op.stringOp,Og,hb]
  | false=>
   have hb:∀q:Bool,(asBool (.bool q)).run P w=.ok q w:=fun _=>rfl
   simp[Builtin.min_,Builtin.min2,Op.stringOp,Og,Od,hb]
 ·cases hk
theorem Ap{o:Oper}{k:St→Option R}{next:Act→World→Prop}(hΓ:jc P Γ)(hG:Good P w0 F)(h:Rel w0 F Xc ρ0 ρ st a w)(hk:Sx P Γ o st k=some r)
 (hn:∀ρ' st' a' w',Rel w0 F Xc ρ0 ρ' st' a' w'→k st'=some r→next a' w'):o.wp P a w next Q:=by
 unfold Sx at hk
 split at hk
 ·rename_i x ho
  exact iO (y:=a.eval x) (by unfold execOp;rw[ho];rfl) h (h.ev x) hk hn
 ·rename_i x ho
  exact iO (y:=a.eval x) (by unfold execOp;rw[ho];rfl) h (h.ev x) hk hn
 ·rename_i c x y ho
  obtain⟨b,hb,hk1⟩:=BN (h.ev c) hk
  cases b with
  | true=>exact iO (y:=a.eval x) (by unfold execOp;rw[ho];dsimp only;rw[hb];rfl) h (h.ev x) hk1 hn
  | false=>exact iO (y:=a.eval y) (by unfold execOp;rw[ho];dsimp only;rw[hb];rfl) h (h.ev y) hk1 hn
 ·rename_i e ho
  unfold U6 at hk
  have hk':∃k',uE P st o.dst e k'=some r∧∀s d,k' s d=some r→k (s.put o.dst d)=some r:=by
   split at hk
   ·exact⟨_,hk,fun _ _ h=>h⟩
   ·split at hk
    case isFalse=>cases hk
    exact⟨_,hk,fun s d h=>by
     split at h
     ·exact h
     ·cases h⟩
  obtain⟨k',hk,hkk⟩:=hk'
  obtain⟨y,w',ρ',st',d,h1,h2,h3,h4⟩:=Fi h hk
  have h4:=hkk _ _ h4
  exact iO (by unfold execOp;rw[ho];simp only[Sem.run_bind,h1,Result.andThen_ok];rfl) h2 h3 h4 hn
 ·rename_i e x ho
  obtain⟨y,w',ρ',st',d,h1,h2,h3,h4⟩:=On (P:=P) (e:=e) h (h.ev x) hk
  exact iO (by unfold execOp;rw[ho];simp only[Sem.run_bind,h1,Result.andThen_ok];rfl) h2 h3 h4 hn
 ·rename_i t parts ho
  obtain⟨p1,p2⟩:=XN h parts
  obtain⟨y,d,h1,h3,h4⟩:=Fj p1 p2 hk
  exact iO (by unfold execOp;rw[ho];simp only[Sem.run_bind,h1,Result.andThen_ok];rfl) h h3 h4 hn
 ·rename_i t len parts ho
  split at hk
  case isFalse=>cases hk
  obtain⟨p1,p2⟩:=XN h parts
  obtain⟨y,w',ρ',st',d,h1,h2,h3,h4⟩:=PB h p1 p2 hk
  exact iO (by unfold execOp;rw[ho];simp only[Sem.run_bind,h1,Result.andThen_ok];rfl) h2 h3 h4 hn
 ·rename_i t x ho
  split at hk
  case isFalse=>cases hk
  unfold tA at hk
  have hk:uZ P st t (ev st x) (fun d=>k (st.put o.dst d))=some r:=by
   split at hk
   ·exact hk
   ·split at hk
    ·exact hk
    ·cases hk
  obtain⟨d,y,h1,h3,h4⟩:=WX h (h.ev x) hk
  exact iO (by unfold execOp;rw[ho];simp only[Sem.run_bind,h1,Result.andThen_ok];rfl) h h3 h4 hn
 ·rename_i t x v ho
  split at hk
  case isFalse=>cases hk
  obtain⟨st',w',h1,h2,h3⟩:=Fg h (h.ev x) (h.ev v) hk
  unfold Oper.wp
  have hrun:(execOp a.eval o).run P w=.ok .skip w':=by unfold execOp;rw[ho];simp only[Sem.run_bind,h1,Result.andThen_ok];rfl
  rw[hrun]
  exact hn ρ _ _ _ (h2.put o.dst (.top_ _)) h3
 ·rename_i x ho
  unfold Ga at hk
  obtain⟨c,hx,hc,hk1⟩:=uX (h.ev x) hk
  have hr:=h.ev x
  have key:∀(aa:Addr),a.eval x=.pointer (some aa)→(execOp a.eval o).run P w=.ok (.value (a.eval x)) w:=fun aa e=>by
   unfold execOp;rw[ho];dsimp only;rw[e];rfl
  split at hk1
  ·rcases hc with hc | ⟨⟨v,_,ba,_,e⟩,_⟩
   ·cases hc
   ·exact iO (key _ e) h hr hk1 hn
  ·rcases hc with hc | ⟨⟨v,_,ba,_,e⟩,_⟩
   ·cases hc
   ·exact iO (key _ e) h hr hk1 hn
  ·rcases hc with hc | ⟨⟨ba,e,_⟩,_⟩
   ·cases hc
   ·exact iO (key _ e) h hr hk1 hn
  ·cases hk1
 ·rename_i op t x y yt ho
  obtain⟨d,v,h1,h3,h4⟩:=Oy (xo:=x) (yo:=y) h (h.ev x) (h.ev y) hk
  exact iO (by unfold execOp;rw[ho];simp only[Sem.run_bind] at h1 ⊢;simp only[h1,Result.andThen_ok];rfl) h h3 h4 hn
 ·rename_i op t x ho
  obtain⟨d,v,h1,h3,h4⟩:=Sf (P:=P) (w:=w) (h.ev x) hk
  exact iO (by unfold execOp;rw[ho];simp only[Sem.run_bind,h1,Result.andThen_ok];rfl) h h3 h4 hn
 ·rename_i s t x ho
  obtain⟨y,w',d,h1,h2,h3,h4⟩:=Jk h (h.ev x) hk
  exact iO (by unfold execOp;rw[ho];simp only[Sem.run_bind,h1,Result.andThen_ok];rfl) (h.world h2) h3 h4 hn
 ·rename_i fn f c ho
  obtain⟨y,d,h1,h3,h4⟩:=U1 (P:=P) (w:=w) (X:=XB st.ae ρ Xc) (ρ:=ρ) (vf:=f.map a.eval) (vc:=c.map a.eval) (by simp) (by simp) (fun i d v e1 e2=>by
   rw[Array.toList_map] at e2
   exact NX h _ i d v e1 e2) hk
  exact iO (by unfold execOp;rw[ho];simp only[Sem.run_bind,h1,Result.andThen_ok];rfl) h h3 h4 hn
 ·rename_i t l c ho
  have hk9:∃y w' ρ' st' d,(Instr.makeSlice t (a.eval l) (a.eval c)).run P w=.ok y w'∧Rel w0 F Xc ρ0 ρ' st' a w'∧bc w' (XB st'.ae ρ' Xc) ρ' d y∧(fun st d=>k (st.put o.dst d)) st' d=some r:=by
   have hk8:jJ Γ P st o.dst t (ev st l) (ev st c) (fun st d=>k (st.put o.dst d))=some r:=by
    unfold mX at hk
    split at hk
    ·exact hk
    ·split at hk
     ·exact hk
     ·cases hk
   unfold jJ at hk8
   split at hk8
   ·exact Aa h (h.ev l) (h.ev c) hk8
   ·exact R1 h (h.ev l) (h.ev c) hk8
  obtain⟨y,w',ρ',st',d,h1,h2,h3,h4⟩:=hk9
  exact iO (by unfold execOp;rw[ho];simp only[Sem.run_bind,h1,Result.andThen_ok];rfl) h2 h3 h4 hn
 ·rename_i t x lo hi mx ho
  split at hk
  case isFalse=>cases hk
  obtain⟨y,st',d,h1,h2,h3,h4⟩:=Gi (P:=P) (w:=w) h (h.ev x) (Ao h lo) (Ao h hi) (Ao h mx) hk
  exact iO (by unfold execOp;rw[ho];simp only[Sem.run_bind,h1,Result.andThen_ok];rfl) h2 h3 h4 hn
 ·rename_i t x f ho
  obtain⟨y,d,h1,h3,h4⟩:=RY (P:=P) (h.ev x) hk
  exact iO (by unfold execOp;rw[ho];simp only[Sem.run_bind,h1,Result.andThen_ok];rfl) h h3 h4 hn
 ·rename_i t x f ho
  obtain⟨y,d,h1,h3,h4⟩:=Fk (P:=P) (h.ev x) hk
  exact iO (by unfold execOp;rw[ho];simp only[Sem.run_bind,h1,Result.andThen_ok];rfl) h h3 h4 hn
 ·rename_i t x ix ho
  unfold vG at hk
  have hk:kE P st t (ev st x) (ev st ix) (fun d=>k (st.put o.dst d))=some r:=by
   split at hk
   ·exact hk
   ·split at hk
    ·exact hk
    ·cases hk
  obtain⟨y,d,h1,h3,h4⟩:=RZ h (h.ev x) (h.ev ix) hk
  exact iO (by unfold execOp;rw[ho];simp only[Sem.run_bind,h1,Result.andThen_ok];rfl) h h3 h4 hn
 ·rename_i t x ix ho
  obtain⟨y,d,h1,h3,h4⟩:=Fl (P:=P) (h.ev x) (h.ev ix) hk
  exact iO (by unfold execOp;rw[ho];simp only[Sem.run_bind,h1,Result.andThen_ok];rfl) h h3 h4 hn
 ·rename_i x i ho
  obtain⟨y,d,h1,h3,h4⟩:=W6 (P:=P) (h.ev x) hk
  exact iO (by unfold execOp;rw[ho];simp only[Sem.run_bind,h1,Result.andThen_ok];rfl) h h3 h4 hn
 ·rename_i b args ts ho
  split at hk
  case isFalse=>cases hk
  rename_i hgq
  clear hgq
  unfold JO at hk
  have hexec:execOp a.eval o=builtin b ts o.type (args.map fun | .const _=>true | _=>false) (args.map a.eval):=by
   unfold execOp;rw[ho];rfl
  split at hk
  ·rename_i x t hargs hts
   have e1:∃xo,args=#[xo]∧ev st xo=x:=by
    obtain⟨l⟩:=args
    match l,hargs with
    | [xo],hargs=>simp at hargs;exact⟨xo,rfl,hargs⟩
   obtain⟨xo,rfl,rfl⟩:=e1
   have e2:ts=#[t]:=by obtain⟨l⟩:=ts;simp at hts;rw[hts]
   subst e2
   obtain⟨y,d,h1,h3,h4⟩:=Ot (ty:=o.type) h (h.ev xo) hk
   refine iO (y:=y) ?_ h h3 h4 hn
   rw[hexec]
   simp only[builtin,OX,wO,IA,Sem.run_bind,h1,Result.andThen_ok]
   rfl
  ·rename_i s x t u hargs hts
   have e1:∃so xo,args=#[so,xo]∧ev st so=s∧ev st xo=x:=by
    obtain⟨l⟩:=args
    match l,hargs with
    | [so,xo],hargs=>simp at hargs;exact⟨so,xo,rfl,hargs⟩
   obtain⟨so,xo,rfl,rfl,rfl⟩:=e1
   have e2:ts=#[t,u]:=by obtain⟨l⟩:=ts;simp at hts;rw[hts]
   subst e2
   obtain⟨y,w',ρ',st',d,h1,h2,h3,h4⟩:=Z8 (ty:=o.type) h (h.ev so) (h.ev xo) hk
   refine iO (y:=y) ?_ h2 h3 h4 hn
   rw[hexec]
   simp only[builtin,OX,wO,IA,Sem.run_bind,h1,Result.andThen_ok]
   rfl
  ·rename_i s x t u hargs hts
   have e1:∃so xo,args=#[so,xo]∧ev st so=s∧ev st xo=x:=by
    obtain⟨l⟩:=args
    match l,hargs with
    | [so,xo],hargs=>simp at hargs;exact⟨so,xo,rfl,hargs⟩
   obtain⟨so,xo,rfl,rfl,rfl⟩:=e1
   have e2:ts=#[t,u]:=by obtain⟨l⟩:=ts;simp at hts;rw[hts]
   subst e2
   obtain⟨y,w',st',d,h1,h2,h3,h4⟩:=Iw (u:=u) (ty:=o.type) h (h.ev so) (h.ev xo) hk
   refine iO (y:=y) ?_ h2 h3 h4 hn
   rw[hexec]
   simp only[builtin,OX,wO,IA,Sem.run_bind,h1,Result.andThen_ok]
   rfl
  ·rename_i x y t u hargs hts
   have e1:∃so xo,args=#[so,xo]∧ev st so=x∧ev st xo=y:=by
    obtain⟨l⟩:=args
    match l,hargs with
    | [so,xo],hargs=>simp at hargs;exact⟨so,xo,rfl,hargs⟩
   obtain⟨so,xo,rfl,rfl,rfl⟩:=e1
   obtain⟨v,d,h1,h3,h4⟩:=Cx (h.ev so) (h.ev xo) hk ts o.type
   refine iO (y:=v) ?_ h h3 h4 hn
   rw[hexec]
   simp only[nL,iD] at h1
   simp only[builtin,OX,wO,IA,Sem.run_bind,h1,Result.andThen_ok]
   rfl
  ·rename_i x y t u hargs hts
   have e1:∃so xo,args=#[so,xo]∧ev st so=x∧ev st xo=y:=by
    obtain⟨l⟩:=args
    match l,hargs with
    | [so,xo],hargs=>simp at hargs;exact⟨so,xo,rfl,hargs⟩
   obtain⟨so,xo,rfl,rfl,rfl⟩:=e1
   obtain⟨v,d,h1,h3,h4⟩:=Cx (h.ev so) (h.ev xo) hk ts o.type
   refine iO (y:=v) ?_ h h3 h4 hn
   rw[hexec]
   simp only[eY] at h1
   simp only[builtin,OX,wO,IA,Sem.run_bind,h1,Result.andThen_ok]
   rfl
  ·cases hk
 ·rename_i f args ts ho
  unfold Cu at hk
  split at hk
  case isFalse=>cases hk
  unfold Al at hk
  split at hk
  ·exact LP (f:=f) hΓ hG ho rfl h hk hn
  ·rename_i B _
   split at hk
   ·exact LP (f:=f) hΓ hG ho rfl h hk hn
   split at hk
   ·exact LP (f:=f) (k:=fun s:St=>if WP (EN Γ) st.ae s.ae=true then k s else none) hΓ hG ho rfl h hk fun ρ' st' a' w' hR hk'=>hn ρ' st' a' w' hR (by
     split at hk'
     ·exact hk'
     ·cases hk')
   ·cases hk
 ·rename_i t ho
  obtain⟨y,w',ρ',st',d,h1,h2,h3,h4⟩:=XI h hk
  exact iO (by unfold execOp;rw[ho];simp only[Option.map_none,Sem.run_bind,h1,Result.andThen_ok];rfl) h2 h3 h4 hn
 ·rename_i t x ix ok ho
  obtain⟨y,d,h1,h3,h4⟩:=Af h (h.ev x) (h.ev ix) hk
  exact iO (by unfold execOp;rw[ho];simp only[Sem.run_bind,h1,Result.andThen_ok];rfl) h h3 h4 hn
 ·rename_i t m q v ho
  obtain⟨st',w',h1,h2,h3⟩:=PK h (h.ev m) (h.ev q) (h.ev v) hk
  unfold Oper.wp
  have hrun:(execOp a.eval o).run P w=.ok .skip w':=by unfold execOp;rw[ho];simp only[Sem.run_bind,h1,Result.andThen_ok];rfl
  rw[hrun]
  exact hn ρ _ _ _ (h2.put o.dst (.top_ _)) h3
 ·rename_i t m q v ho
  obtain⟨st',w',h1,h2,h3⟩:=PK h (h.ev m) (h.ev q) (h.ev v) hk
  unfold Oper.wp
  have hrun:(execOp a.eval o).run P w=.ok .skip w':=by unfold execOp;rw[ho];simp only[Sem.run_bind,h1,Result.andThen_ok];rfl
  rw[hrun]
  exact hn ρ _ _ _ (h2.put o.dst (.top_ _)) h3
 ·rename_i t m q ho
  obtain⟨y,st',w',d,h1,h2,h3,h4⟩:=Ag h (h.ev m) (h.ev q) hk
  exact iO (by unfold execOp;rw[ho];simp only[Sem.run_bind,h1,Result.andThen_ok];rfl) h2 h3 h4 hn
 ·rename_i t m q v ho
  obtain⟨st',w',h1,h2,h3⟩:=U3 h (h.ev m) (h.ev q) (h.ev v) hk
  unfold Oper.wp
  have hrun:(execOp a.eval o).run P w=.ok .skip w':=by unfold execOp;rw[ho];simp only[Sem.run_bind,h1,Result.andThen_ok];rfl
  rw[hrun]
  exact hn ρ _ _ _ (h2.put o.dst (.top_ _)) h3
 ·cases hk
end
section
variable {R:Type} {P:Program} {Γ:FuncId→Option Callee} {w0 w:World} {F Xc:Nat→Prop} {ρ0:cq} {ρ:nP} {st:St} {a:Act} {r:R} {Q:Exit→Act→World→Prop}
theorem Rel.slot(h:Rel w0 F Xc ρ0 ρ st a w){t:Nat}{d:D}(hd:∀y,a.tmps[t]?=some y→bc w (XB st.ae ρ Xc) ρ d y):Rel w0 F Xc ρ0 ρ (st.put (some t) d) a w:=by
 refine⟨by simpa[St.put] using h.len,fun i d' y h1 h2=>?_,h.ae,h.sep,h.own,h.par,h.defers,h.frame,h.jm,h.xc,h.ext⟩
 simp only[St.put,qO] at h1
 by_cases hit:t=i
 ·subst hit
  rw[aC rfl] at h1
  split at h1
  ·cases h1;exact hd y h2
  ·cases h1
 ·rw[aA hit] at h1
  exact h.env i d' y h1 h2
theorem Aq{X:Nat→Prop}:bc w X ρ R6 undef:=⟨#[],rfl,rfl,fun i s y h=>by cases h⟩
theorem zC{ops:Array Oper}(hΓ:jc P Γ)(hG:Good P w0 F):∀(l:List Nat) {ρ:nP} {st:St} {a:Act} {w:World} {k:St→Option R},Rel w0 F Xc ρ0 ρ st a w→JP P Γ ops l st k=some r →
 (∀ρ' st' a' w',Rel w0 F Xc ρ0 ρ' st' a' w'→k st'=some r→Q .normal a' w')→wpOps P ops Q l a w
 | [],ρ,st,a,w,k,h,hk,hn=>hn ρ st a w h hk
 | i::rest,ρ,st,a,w,k,h,hk,hn=>by
  simp only[JP] at hk
  simp only[wpOps]
  split at hk
  ·rename_i ho
   simp only[ho]
   exact zC hΓ hG rest h hk hn
  ·rename_i o ho
   simp only[ho]
   split at hk
   ·rename_i hg
    have hw:Region.wanted o (yielded ops a.tmps)=true:=by simp[Region.wanted,hg]
    rw[aC hw]
    exact .inl (Ap hΓ hG h hk fun ρ' st' a' w' hR hk'=>zC hΓ hG rest hR hk' hn)
   ·rename_i j want hg
    split at hk
    case h_1=>cases hk
    rename_i t hdst
    have hr:=h.ev (.tmp t)
    have hev:ev st (.tmp t)=st.env.getD t D.top:=rfl
    rw[hev] at hr
    unfold Gb at hk
    split at hk
    case h_1=>
     rename_i hoff
     rw[hoff] at hr
     obtain⟨vs,hvs,hl,_⟩:=hr
     have hu:a.eval (.tmp t)=.tuple #[]:=by
      rw[hvs]
      have:vs=#[]:=by simpa using hl
      rw[this]
     have hw:Region.wanted o (yielded ops a.tmps)=false:=by
      have hy:yielded ops a.tmps j=none:=by
       simp only[yielded,hdst,tG]
       cases hc:a.tmps[t]? with
       | none=>rfl
       | some y=>
        have:a.eval (.tmp t)=y:=by simp[Act.eval,MJ,hc]
        rw[this] at hu
        subst hu;rfl
      simp[Region.wanted,hg,hy]
     rw[aA (by rw[hw];decide)]
     exact zC hΓ hG rest (h.put o.dst Aq) hk hn
    obtain⟨b,hb,hk1⟩:=BN hr hk
    have hlt:t<a.tmps.size:=by
     apply EW
     intro hge
     have:a.eval (.tmp t)=undef:=by simp[Act.eval,MJ,Array.getElem?_eq_none (Nat.le_of_not_lt hge)]
     rw[this] at hb
     cases hb
    have hat:a.tmps[t]?=some (.bool b):=by
     have:a.eval (.tmp t)=a.tmps[t]:=by simp[Act.eval,MJ,uV hlt]
     rw[uV hlt,←this,hb]
    have hw:Region.wanted o (yielded ops a.tmps)=(b==want):=by
     simp only[Region.wanted,hg,yielded,hdst,tG,hat]
     cases b <;> cases want <;> rfl
    have hslot:Rel w0 F Xc ρ0 ρ (st.put (some t) (dB b)) a w:=h.slot fun y hy=>by
     rw[hat] at hy;cases hy;exact .bool b
    cases b with
    | true=>
     simp only[aN] at hk1
     cases want with
     | true=>
      rw[aC rfl] at hk1
      rw[aC (show Region.wanted o (yielded ops a.tmps)=true from hw)]
      exact .inl (Ap hΓ hG hslot hk1 fun ρ' st' a' w' hR hk'=>zC hΓ hG rest hR hk' hn)
     | false=>
      rw[aA (by decide)] at hk1
      rw[aA (by rw[hw];decide)]
      exact zC hΓ hG rest (hslot.put o.dst Aq) hk1 hn
    | false=>
     simp only[aK] at hk1
     cases want with
     | true=>
      rw[aC rfl] at hk1
      rw[aA (by rw[hw];decide)]
      exact zC hΓ hG rest (hslot.put o.dst Aq) hk1 hn
     | false=>
      rw[aA (by decide)] at hk1
      rw[aC (show Region.wanted o (yielded ops a.tmps)=true from hw)]
      exact .inl (Ap hΓ hG hslot hk1 fun ρ' st' a' w' hR hk'=>zC hΓ hG rest hR hk' hn)
end
inductive Sh where
 | int (k:IntKind)
 | bool
 | str
 | sl (n:Nat)
 | row (e:TypeId) (n:Nat) (key:Nat)
 | rr (e e2:TypeId) (n:Nat) (key:Nat)
 | tree
 | lit (c:C)
def Sh.ty:Sh→Type
 | .int _=>Int
 | .bool=>Bool
 | .str=>ByteArray
 | .sl _=>List T
 | .row _ _ _=>List T
 | .rr _ _ _ _=>List (List T)
 | .tree=>T
 | .lit _=>Unit
def yK:List Sh→Type
 | []=>Unit
 | s::l=>s.ty×yK l
inductive It where
 | slot (i:Nat)
 | av (i n:Nat)
 | box (k n:Nat)
 | cw (i k n:Nat)
structure Hint where
 items:List It
 af:List Sh
def S2(σ:List (Nat×Nat)):List (Nat×Nat)→List (Nat×Nat)→Bool
 | [],[]=>true
 | p::l,q::m=>σ.contains (p.1,q.1)&&p.2==q.2&&S2 σ l m
 | _,_=>false
def C.same(σ:List (Nat×Nat)):C→C→Bool
 | _,.top=>true
 | .box k j,.box k' j'=>σ.contains (k,k')&&j==j'
 | .row k,.row k'=>σ.contains (k,k')
 | .fn f l,.fn f' l'=>f==f'&&S2 σ l l'
 | .self u,.self u'=>u==u'
 | .t (.v v),.t (.v v')=>match vE v,vE v' with
  | some f,some f'=>f==f'
  | _,_=>false
 | _,_=>false
section
variable {R:Type}
@[irreducible] def vH(m:Nat)(l:List (List T)):List T:=l.map (T.sl m)
def JR(σ:List (Nat×Nat))(ae:List O)(s:Sh)(c:C)(f:s.ty→List (Option Nat)→List Nat→Option R):Option R:=match s with
 | .int k=>match c with
  | .t x=>ob (x.int? k) fun n=>f n [] []
  | _=>none
 | .bool=>match c with
  | .t x=>ob x.bool? fun b=>f b [] []
  | _=>none
 | .str=>match c with
  | .t x=>ob x.il fun s=>f s [] []
  | _=>none
 | .sl n=>match c with
  | .t x=>ob (x.im n) fun l=>f l [] []
  | .row key=>match ae[key]? with
   | some (.row _ _ n' es)=>if n'=n then f es [] [key] else none
   | some (.mp _ _ n' es)=>if n'=n then f es [] [key] else none
   | _=>none
  | .cut key m lo len _=>match ae[key]? with
   | some (.row _ _ n' es)=>if n'=n∧m=n then f (oC es lo len) [] [key] else none
   | _=>none
  | .rk k0=>match A2 ae 64 k0 with
   | some K=>match ae[K]? with
    | some (.rr none _ _ m l)=>if n=1 then f (vH m l) [] [K] else none
    | _=>none
   | none=>none
  | _=>none
 | .rr e e2 n _=>match c with
  | .rk k0=>match A2 ae 64 k0 with
   | some K=>match ae[K]? with
    | some (.rr none e' e2' n' l)=>if e'=e∧e2'=e2∧n'=n then f l [some K] [] else none
    | _=>none
   | none=>none
  | _=>none
 | .row e n _=>match c with
  | .t (.v (.slice none 0 0))=>if 0<n∧n<1000000000 then f [] [none] [] else none
  | .row key=>match ae[key]? with
   | some (.row false e' n' es)=>if n<1000000000∧e'=e∧n'=n then f es [some key] [] else none
   | some (.mp false e' n' es)=>if 1000000000≤n∧e'=e∧n'=n then f es [some key] [] else none
   | _=>none
  | _=>none
 | .tree=>match c with
  | .t x=>f x [] []
  | _=>none
 | .lit c'=>if c.same σ c' then f () [] [] else none
def LQ(σ:List (Nat×Nat))(ae:List O):(l:List Sh)→List C→(yK l→List (Option Nat)→List Nat→Option R)→Option R
 | [],[],f=>f () [] []
 | s::l,c::cs,f=>JR σ ae s c fun x rs zs=>LQ σ ae l cs fun t rs' zs'=>f (x,t) (rs++rs') (zs++zs')
 | _,_,_=>none
end
def Oz:(s:Sh)→s.ty→C
 | .int k,n=>.t (.v (.int k n))
 | .bool,b=>.t (.v (.bool b))
 | .str,s=>.t (.v (.string s))
 | .sl n,l=>.t (.sl n l)
 | .row _ _ key,_=>.row key
 | .rr _ _ _ key,_=>.rk key
 | .tree,x=>.t x
 | .lit c,_=>c
def BT:(l:List Sh)→yK l→List C
 | [],_=>[]
 | s::l,t=>Oz s t.1::BT l t.2
def kF:(l:List Sh)→yK l→List (Nat×O)
 | [],_=>[]
 | .row e n key::l,t=>(key,SQ e n t.1)::kF l t.2
 | .rr e e2 n key::l,t=>(key,.rr none e e2 n t.1)::kF l t.2
 | _::l,t=>kF l t.2
def iR(st:St):List It→Option (List C)
 | []=>some []
 | .slot i::l=>match st.env.getD i D.top,iR st l with
  | .s (.c c),some cs=>some (c::cs)
  | _,_=>none
 | .av i n::l=>match st.env.getD i D.top,iR st l with
  | .s (.agg a),some cs=>if a.length=n then some (a++cs) else none
  | _,_=>none
 | .box k n::l=>match st.ae[k]?,iR st l with
  | some (.box a),some cs=>if a.length=n then some (a++cs) else none
  | _,_=>none
 | .cw i _ n::l=>match st.env.getD i D.top,iR st l with
  | .s (.c (.box key 0)),some cs=>match st.ae[key]? with
   | some (.box a)=>if a.length=n then some (a++cs) else none
   | _=>none
  | _,_=>none
def eZ(st:St):List It→List (Nat×Nat)
 | []=>[]
 | .box k _::l=>(k,k)::eZ st l
 | .cw i k _::l=>match st.env.getD i D.top with
  | .s (.c (.box key 0))=>(key,k)::eZ st l
  | _=>eZ st l
 | _::l=>eZ st l
def gH:List Sh→List C→List (Nat×Nat)
 | .row _ _ key::l,.row k::cs=>(k,key)::gH l cs
 | _::l,_::cs=>gH l cs
 | _,_=>[]
def fO:List It→List C→St→St
 | [],_,st=>st
 | .slot i::l,cs,st=>fO l cs.tail { st with env:=st.env.set i (.s (.c (cs.headD .top))) }
 | .av i n::l,cs,st=>fO l (cs.drop n) { st with env:=st.env.set i (.s (.agg (cs.take n))) }
 | .box k n::l,cs,st=>fO l (cs.drop n) { st with ae:=st.ae.set k (.box (cs.take n)) }
 | .cw i k n::l,cs,st=>fO l (cs.drop n) { st with env:=st.env.set i (.s (.c (.box k 0))),ae:=st.ae.set k (.box (cs.take n)) }
def qF(ae:List O):List (Nat×O)→List O
 | []=>ae
 | p::l=>qF (ae.set p.1 p.2) l
def fP:List It→List Nat
 | []=>[]
 | .box k _::l=>k::fP l
 | .cw _ k _::l=>k::fP l
 | _::l=>fP l
def dN:List Sh→List Nat
 | []=>[]
 | .row _ _ key::l=>key::dN l
 | .rr _ _ _ key::l=>key::dN l
 | _::l=>dN l
def mQ(np n m:Nat):St:={ np:=np,env:=List.replicate n D.top,ae:=List.replicate np .dead++List.replicate (m-np) .fresh }
def fS(h:Hint)(np n m:Nat)(t:yK h.af):St:=
 let st:=fO h.items (BT h.af t) (mQ np n m)
 { st with ae:=qF st.ae (kF h.af t) }
def Hint.ok(h:Hint)(m:Nat):Bool:=
 let bs:=fP h.items
 let rs:=dN h.af
 (bs++rs).all (fun k=>k<m)&&decide ((bs++rs).Nodup)
def U7(np:Nat):List Nat→List (Option Nat)→Bool
 | k::ks,s::ss=>(decide (np≤k)||s==some k)&&U7 np ks ss
 | _,_=>true
def HO{R:Type}(h:Hint)(st:St)(f:yK h.af→Option R):Option R:=match iR st h.items with
 | some cs=>let bp:=eZ st h.items
  LQ (bp++gH h.af cs) st.ae h.af cs fun t rs zs=>if h.ok st.ae.length&&U7 st.np (dN h.af) rs&&bp.all (fun p=>p.1==p.2||decide (st.np≤p.2))&&decide ((bp.map (·.1)).Nodup)&&decide (rs.filterMap id).Nodup&&zs.all (fun z=>!rs.contains (some z))&&decide (st.np≤st.ae.length) then f t else none
 | none=>none
section
variable {R:Type} {w0 w:World} {F Xc X'':Nat→Prop} {ρ0:cq} {ρ ρ'':nP} {st:St} {a:Act} {r:R}
def FC:List Nat→List (Option Nat)→Nat→Option (Option Nat)
 | k::ks,s::ss,j=>if k=j then some s else FC ks ss j
 | _,_,_=>none
def Tb:Value:=.slice none 0 0
def Xb(ρ:nP):Option Nat→Option Value
 | some k=>ρ k
 | none=>some Tb
theorem S4:∀(ks:List Nat) (ss:List (Option Nat)) (i:Nat) (k:Nat) (s:Option Nat),ks.Nodup→ks[i]?=some k→ss[i]?=some s→FC ks ss k=some s
 | [],_,i,k,s,_,h,_=>by simp at h
 | k'::ks,[],i,k,s,_,_,h=>by simp at h
 | k'::ks,s'::ss,i,k,s,hn,h1,h2=>by
  obtain⟨hk,hn'⟩:=dC.1 hn
  cases i with
  | zero=>simp at h1 h2;subst h1;subst h2;simp[FC]
  | succ i=>
   simp at h1 h2
   have:k'≠k:=fun e=>hk (e▸mM h1)
   simp only[FC,aA this]
   exact S4 ks ss i k s hn' h1 h2
theorem PS:∀(ks:List Nat) (ss:List (Option Nat)) (k:Nat) (s:Option Nat),FC ks ss k=some s→∃i:Nat,ks[i]?=some k∧ss[i]?=some s
 | [],_,k,s,h=>by simp[FC] at h
 | k'::ks,[],k,s,h=>by simp[FC] at h
 | k'::ks,s'::ss,k,s,h=>by
  simp only[FC] at h
  split at h
  ·rename_i e;cases h;exact⟨0,by simp[e],rfl⟩
  ·obtain⟨i,h1,h2⟩:=PS ks ss k s h
   exact⟨i+1,by simpa using h1,by simpa using h2⟩
structure jt (ρ ρ'':nP) (X X'':Nat→Prop) (ae:List O) (keys:List Nat) (src:List (Option Nat)) (zs:List Nat) (σ:List (Nat×Nat)):Prop where
 sub:∀b,X'' b→X b
 len:keys.length=src.length
 rows:∀(i:Nat) k s,keys[i]?=some k→src[i]?=some s→ρ'' k=Xb ρ s
 trees:∀z∈zs,∀v b,ρ z=some v→df v b→¬X'' b
 lit:∀p∈σ,∀v,ρ p.1=some v→ρ'' p.2=some v
theorem PT{v:Value}{f:FuncId}(h:vE v=some f):v=.func (.func f) #[] #[]:=by
 unfold vE at h
 split at h
 ·split at h
  ·rename_i hemp
   simp only[cS,Array.isEmpty_iff] at hemp
   cases h
   rw[hemp.1,hemp.2]
  ·cases h
 ·cases h
theorem XP{σ:List (Nat×Nat)}(hl:∀p∈σ,∀v,ρ p.1=some v→ρ'' p.2=some v):∀{l m:List (Nat×Nat)} {vs:List Value},S2 σ l m=true→vs.length=l.length →
 (∀(i:Nat) p v,l[i]?=some p→vs[i]?=some v→∃h,ρ p.1=some h∧O2 h p.2 v)→vs.length=m.length∧∀(i:Nat) p v,m[i]?=some p→vs[i]?=some v→∃h,ρ'' p.1=some h∧O2 h p.2 v
 | [],[],vs,_,hv,h=>⟨hv,fun i p v h1 _=>by simp at h1⟩
 | p::l,q::m,[],_,hv,h=>by simp at hv
 | p::l,q::m,v::vs,hc,hv,h=>by
  simp only[S2,cS,zV,OH] at hc
  obtain⟨⟨h1,h2⟩,h3⟩:=hc
  obtain⟨r1,r2⟩:=XP hl h3 (vs:=vs) (by simpa using hv) (fun i p v e1 e2=>h (i+1) p v (by simpa using e1) (by simpa using e2))
  refine⟨by simp[r1],fun i p' v' e1 e2=>?_⟩
  cases i with
  | zero=>
   simp at e1 e2
   subst e1;subst e2
   obtain⟨hh,f1,f2⟩:=h 0 p v rfl rfl
   exact⟨hh,hl _ h1 hh f1,by rw[←h2];exact f2⟩
  | succ i=>exact r2 i p' v' (by simpa using e1) (by simpa using e2)
 | [],_::_,_,hc,_,_=>by simp[S2] at hc
 | _::_,[],_,hc,_,_=>by simp[S2] at hc
theorem Pb{X:Nat→Prop}{σ:List (Nat×Nat)}{c c':C}{y:Value}(hX:∀b,X'' b→X b)(hl:∀p∈σ,∀v,ρ p.1=some v→ρ'' p.2=some v)(hs:c.same σ c'=true)(h:cm w X ρ c y):cm w X'' ρ'' c' y:=by
 unfold C.same at hs
 split at hs
 ·exact .inl rfl
 ·simp only[cS,zV,OH] at hs
  obtain⟨h0,rfl⟩:=hs
  rcases h with h | ⟨⟨v,e1,e2⟩,h1⟩
  ·cases h
  ·exact .inr ⟨⟨v,hl _ h0 v e1,e2⟩,h1⟩
 ·simp only[OH] at hs
  rcases h with h | ⟨h,h1⟩
  ·cases h
  ·exact .inr ⟨hl _ hs _ h,h1⟩
 ·simp only[cS,zV] at hs
  obtain⟨rfl,hc⟩:=hs
  rcases h with h | ⟨⟨vs,e1,e2,e3⟩,h1⟩
  ·cases h
  ·obtain⟨r1,r2⟩:=XP hl hc e2 e3
   exact .inr ⟨⟨vs,e1,r1,r2⟩,h1⟩
 ·rcases h with h | ⟨h,h1⟩
  ·cases h
  ·exact .inr ⟨trivial,h1⟩
 ·split at hs
  ·rename_i f f' e1 e2
   have:=zV.1 hs
   subst this
   rw[PT e1] at h
   rw[PT e2]
   rcases h with h | ⟨h,h1⟩
   ·cases h
   ·exact .inr ⟨by have:=Rd.cr h;subst this;exact .v _,h1⟩
  ·cases hs
 ·cases hs
theorem Pc{X X'':Nat→Prop}{hole:Option Nat}{e e2:TypeId}{n:Nat}{l:List (List T)}{vs:Array Value}{v:Value}(h:iz w X hole e e2 n l (.tuple vs))(hv:vs[0]?=some v)(hX:∀b,X'' b→X b)(hb:∀b,df (.tuple vs) b→¬X'' b)
 (hh:hole=none:=by rfl):Rd w X'' (.sl 1 (vH n l)) v:=by
 subst hh
 obtain⟨h0,ho,hs,xs,g1,g2,g3,g4,g5,g6⟩:=h
 cases g1
 have:ho=v:=by simpa using hv
 subst this
 have hlen:(vH n l).length=l.length:=by unfold vH;simp
 have hget:∀(i:Nat) t,(vH n l)[i]?=some t→∃m,l[i]?=some m∧t=.sl n m:=fun i t hi=>by
  unfold vH at hi
  rw[fF] at hi
  cases hl:l[i]? with
  | none=>simp[hl] at hi
  | some m=>simp only[hl,fA,cG] at hi;exact⟨m,rfl,hi.symm⟩
 have hflat:flat (vH n l)=vH n l:=W3 fun t ht=>by
  obtain⟨i,hi,rfl⟩:=B7 ht
  obtain⟨m,_,e⟩:=hget i _ (dH hi)
  rw[e];rfl
 have huni:dt 1 (vH n l):=fun t ht=>by
  obtain⟨i,hi,rfl⟩:=B7 ht
  obtain⟨m,_,e⟩:=hget i _ (dH hi)
  rw[e];rfl
 have hxl:=g2.1
 rw[HF] at hxl
 have inner:∀(i:Nat) t y,(vH n l)[i]?=some t→xs[i]?=some y→Rd w X'' t y:=fun i t y h1 h2=>by
  obtain⟨m,hm,rfl⟩:=hget i t h1
  have hil:i<l.length:=(dL.1 hm).1
  have hsi:hs[i]?=some hs[i]:=dH (by omega)
  have e1:=(g4 i y _ h2 hsi).2 (by simp)
  rw[←e1] at hsi
  obtain⟨q1,ys,q2,q3⟩:=g5 i m y hm hsi
  exact JI (ρ:=fun _=>none) (X:=X) (fz:=false) (e:=e2) (l:=m) ⟨h0,q1,⟨ys,q2,q3⟩,fun hc=>by cases hc⟩ hX (fun b hyb=>hb b (.inr ⟨_,rfl,y,by simp[mM hsi],hyb⟩))
 rcases g2.2 with⟨hn | ⟨a,hn⟩,hz⟩ | ⟨g,off,cap,jD,hn,z2,z3,z4,z5,z6,z7⟩
 ·have:l=[]:=uK hz
  subst this
  subst hn
  have:vH n []=[]:=by unfold vH;rfl
  rw[this];exact .nil 1 (by omega)
 ·have:l=[]:=uK hz
  subst this
  subst hn
  have:vH n []=[]:=by unfold vH;rfl
  rw[this]
  have key:Rd w X'' (.sl 1 []) (.slice (some a) ([]:List T).length 0):=.sl 1 [] a 0 [] (by omega) (gB _) (by unfold maxLen;omega) (.nil 1) rfl (fun i y h=>by simp at h) (fun i t y h _=>by simp[flat] at h)
  exact key
 ·subst hn
  rw[←hlen]
  refine .sl 1 _ ⟨g,off,none⟩ cap xs (by omega) (by omega) z5 huni (by rw[hflat,hlen,hxl]) (fun i y hi=>?_) (fun i t y h1 h2=>inner i t y (by rw[←hflat];exact h1) h2)
  have hil:i<l.length:=by have:=(dL.1 hi).1;omega
  refine⟨g2.cells rfl i y hi,?_,(g4 i y _ hi (dH (by omega))).1⟩
  exact hb g (.inr ⟨_,rfl,.slice (some ⟨g,off,none⟩) l.length cap,by simp,by simp[bq];omega⟩)
theorem Pd{σ:List (Nat×Nat)}{s:Sh}{c:C}{f:s.ty→List (Option Nat)→List Nat→Option R}(h:Rel w0 F Xc ρ0 ρ st a w)(hf:JR σ st.ae s c f=some r):
 ∃x rs zs,f x rs zs=some r∧rs.length=(dN [s]).length ∧
  (∀(i:Nat) k o,(kF [s] (x,()))[i]?=some (k,o)→(dN [s])[i]?=some k∧∃sr,rs[i]?=some sr∧o.ja=true∧(∀k',sr=some k'→st.ae[k']?=some o)∧(sr=none→∃e n,o=.row false e n []∧(0<n∧n<1000000000))) ∧
  (∀z∈zs,∃o,st.ae[z]?=some o∧o.ny=true)∧(∀p∈gH [s] [c],dN [s]=[p.2]∧rs=[some p.1]) ∧
  ∀(ρ'':nP) (X'':Nat→Prop),jt ρ ρ'' (XB st.ae ρ Xc) X'' st.ae (dN [s]) rs zs σ→∀y,cm w (XB st.ae ρ Xc) ρ c y→cm w X'' ρ'' (Oz s x) y:=by
 have norow:∀{P:Nat→Nat→O→Prop},∀(i:Nat) k o,([]:List (Nat×O))[i]?=some (k,o)→P i k o:=fun i k o h=>by simp at h
 cases s with
 | int kd=>
  simp only[JR] at hf
  split at hf
  ·rename_i x
   obtain⟨n,hn,hf⟩:=bO hf
   refine⟨n,[],[],hf,rfl,norow,by simp,by simp[gH],fun ρ'' X'' _ y hy=>?_⟩
   rcases hy with hy | ⟨hy,h1⟩
   ·cases hy
   ·have:=UP hy hn;subst this;exact .inr ⟨.v _,rfl⟩
  ·cases hf
 | bool=>
  simp only[JR] at hf
  split at hf
  ·rename_i x
   obtain⟨n,hn,hf⟩:=bO hf
   refine⟨n,[],[],hf,rfl,norow,by simp,by simp[gH],fun ρ'' X'' _ y hy=>?_⟩
   rcases hy with hy | ⟨hy,h1⟩
   ·cases hy
   ·have:=UQ hy hn;subst this;exact .inr ⟨.v _,rfl⟩
  ·cases hf
 | str=>
  simp only[JR] at hf
  split at hf
  ·rename_i x
   obtain⟨n,hn,hf⟩:=bO hf
   refine⟨n,[],[],hf,rfl,norow,by simp,by simp[gH],fun ρ'' X'' _ y hy=>?_⟩
   rcases hy with hy | ⟨hy,h1⟩
   ·cases hy
   ·have:=Z3 hy hn;subst this;exact .inr ⟨.v _,rfl⟩
  ·cases hf
 | sl n=>
  simp only[JR] at hf
  split at hf
  ·rename_i x
   obtain⟨l,hl,hf⟩:=bO hf
   refine⟨l,[],[],hf,rfl,norow,by simp,by simp[gH],fun ρ'' X'' ht y hy=>?_⟩
   rcases hy with hy | ⟨hy,h1⟩
   ·cases hy
   ·unfold T.im at hl
    split at hl
    ·split at hl
     case isFalse=>cases hl
     rename_i hnm
     cases hl
     have:=Rd.cr hy
     subst this
     exact .inr ⟨.nil n hnm,rfl⟩
    ·split at hl
     ·rename_i hk
      cases hl;subst hk
      exact .inr ⟨Rd.ij hy ht.sub,h1⟩
     ·cases hl
    ·cases hl
  ·rename_i key
   split at hf
   ·rename_i fz e n' es hob
    split at hf
    ·rename_i hn
     subst hn
     refine⟨es,[],[key],hf,rfl,norow,fun z hz=>by simp at hz;subst hz;exact⟨_,hob,rfl⟩,by simp[gH],fun ρ'' X'' ht y hy=>?_⟩
     rcases hy with hy | ⟨hy,h1⟩
     ·cases hy
     ·obtain⟨v,e1,e2⟩:=h.ae key _ hob
      have hyy:ρ key=some y:=hy
      rw[hyy] at e1
      cases e1
      exact .inr ⟨JI e2 ht.sub (fun b hb=>ht.trees key (by simp) y b hyy (.inl hb)),h1⟩
    ·cases hf
   ·rename_i fz e n' es hob
    split at hf
    ·rename_i hn
     subst hn
     refine⟨es,[],[key],hf,rfl,norow,fun z hz=>by simp at hz;subst hz;exact⟨_,hob,rfl⟩,by simp[gH],fun ρ'' X'' ht y hy=>?_⟩
     rcases hy with hy | ⟨hy,h1⟩
     ·cases hy
     ·obtain⟨v,e1,e2⟩:=h.ae key _ hob
      have hyy:ρ key=some y:=hy
      rw[hyy] at e1
      cases e1
      exact .inr ⟨UT e2 ht.sub (fun b hb=>ht.trees key (by simp) y b hyy (.inl hb)),h1⟩
    ·cases hf
   ·cases hf
  ·rename_i key m lo len tg
   split at hf
   ·rename_i fz e n' es hob
    split at hf
    ·rename_i hn
     obtain⟨rfl,rfl⟩:=hn
     refine⟨_,[],[key],hf,rfl,norow,fun z hz=>by simp at hz;subst hz;exact⟨_,hob,rfl⟩,by simp[gH],fun ρ'' X'' ht y hy=>?_⟩
     rcases hy with hy | ⟨⟨v,q1,q2⟩,h1⟩
     ·cases hy
     ·obtain⟨v',e1,e2⟩:=h.ae key _ hob
      rw[q1] at e1
      cases e1
      exact .inr ⟨O5 e2 q2 ht.sub (fun b hb=>ht.trees key (by simp) v b q1 (.inl hb)),h1⟩
    ·cases hf
   ·cases hf
  ·rename_i k0
   split at hf
   ·rename_i K hK
    split at hf
    ·rename_i m l hob
     split at hf
     ·rename_i hn
      subst hn
      refine⟨_,[],[K],hf,rfl,norow,fun z hz=>by simp at hz;subst hz;exact⟨_,hob,rfl⟩,by simp[gH],fun ρ'' X'' ht y hy=>?_⟩
      rcases hy with hy | ⟨⟨vs,q1,q2⟩,h1⟩
      ·cases hy
      ·obtain⟨hole,_,_,_,_,vs',f1,f2,f3,f4⟩:=CV h hK q1
       rw[hob] at f1
       cases f1
       exact .inr ⟨Pc f4 (f3.trans q2) ht.sub (fun b hb=>ht.trees K (by simp) _ b f2 hb),h1⟩
     ·cases hf
    ·cases hf
   ·cases hf
  ·cases hf
 | rr e e2 n key=>
  simp only[JR] at hf
  split at hf
  ·rename_i k0
   split at hf
   ·rename_i K hK
    split at hf
    ·rename_i e' e2' n' l hob
     split at hf
     ·rename_i hn
      obtain⟨rfl,rfl,rfl⟩:=hn
      refine⟨l,[some K],[],hf,rfl,fun i k o hi=>?_,by simp,by simp[gH],fun ρ'' X'' ht y hy=>?_⟩
      ·cases i with
       | zero=>
        simp only[kF,zY,cG,xR] at hi
        obtain⟨rfl,rfl⟩:=hi
        exact⟨rfl,some K,rfl,rfl,fun k'' hk=>by cases hk;exact hob,by simp⟩
       | succ i=>simp[kF] at hi
      ·rcases hy with hy | ⟨⟨vs,q1,q2⟩,h1⟩
       ·cases hy
       ·obtain⟨hole,_,_,_,_,vs',f1,f2,f3,f4⟩:=CV h hK q1
        exact .inr ⟨⟨vs',(ht.rows 0 key (some K) rfl rfl).trans f2,f3.trans q2⟩,h1⟩
     ·cases hf
    ·cases hf
   ·cases hf
  ·cases hf
 | row e n key=>
  simp only[JR] at hf
  split at hf
  ·split at hf
   ·rename_i hn
    refine⟨[],[none],[],hf,rfl,fun i k o hi=>?_,by simp,by simp[gH],fun ρ'' X'' ht y hy=>?_⟩
    ·cases i with
     | zero=>
      simp only[kF,zY,cG,xR] at hi
      obtain⟨rfl,rfl⟩:=hi
      exact⟨rfl,none,rfl,ID _ _ _,by simp,fun _=>⟨e,n,by unfold SQ;rw[aC hn.2],hn⟩⟩
     | succ i=>simp[kF] at hi
    ·rcases hy with hy | ⟨hy,h1⟩
     ·cases hy
     ·have:=Rd.cr hy
      subst this
      exact .inr ⟨ht.rows 0 key none rfl rfl,rfl⟩
   ·cases hf
  ·rename_i k'
   split at hf
   ·rename_i e' n' es hob
    split at hf
    ·rename_i hc
     obtain⟨hnm,rfl,rfl⟩:=hc
     refine⟨es,[some k'],[],hf,rfl,fun i k o hi=>?_,by simp,fun p hp=>by simp only[gH,OW] at hp;subst hp;exact⟨rfl,rfl⟩,fun ρ'' X'' ht y hy=>?_⟩
     ·cases i with
      | zero=>
       simp only[kF,zY,cG,xR] at hi
       obtain⟨rfl,rfl⟩:=hi
       exact⟨rfl,some k',rfl,ID _ _ _,fun k'' hk=>by cases hk;unfold SQ;rw[aC hnm];exact hob,by simp⟩
      | succ i=>simp[kF] at hi
     ·rcases hy with hy | ⟨hy,h1⟩
      ·cases hy
      ·exact .inr ⟨(ht.rows 0 key (some k') rfl rfl).trans hy,h1⟩
    ·cases hf
   ·rename_i e' n' es hob
    split at hf
    ·rename_i hc
     obtain⟨hnm,rfl,rfl⟩:=hc
     refine⟨es,[some k'],[],hf,rfl,fun i k o hi=>?_,by simp,fun p hp=>by simp only[gH,OW] at hp;subst hp;exact⟨rfl,rfl⟩,fun ρ'' X'' ht y hy=>?_⟩
     ·cases i with
      | zero=>
       simp only[kF,zY,cG,xR] at hi
       obtain⟨rfl,rfl⟩:=hi
       exact⟨rfl,some k',rfl,ID _ _ _,fun k'' hk=>by cases hk;unfold SQ;rw[aA (by omega)];exact hob,by simp⟩
      | succ i=>simp[kF] at hi
     ·rcases hy with hy | ⟨hy,h1⟩
      ·cases hy
      ·exact .inr ⟨(ht.rows 0 key (some k') rfl rfl).trans hy,h1⟩
    ·cases hf
   ·cases hf
  ·cases hf
 | tree=>
  simp only[JR] at hf
  split at hf
  ·rename_i x
   refine⟨x,[],[],hf,rfl,norow,by simp,by simp[gH],fun ρ'' X'' ht y hy=>?_⟩
   rcases hy with hy | ⟨hy,h1⟩
   ·cases hy
   ·exact .inr ⟨Rd.ij hy ht.sub,h1⟩
  ·cases hf
 | lit c'=>
  simp only[JR] at hf
  split at hf
  ·rename_i hs
   refine⟨(),[],[],hf,rfl,norow,by simp,by simp[gH],fun ρ'' X'' ht y hy=>Pb ht.sub ht.lit hs hy⟩
  ·cases hf
theorem zD(s:Sh)(l:List Sh):dN (s::l)=dN [s]++dN l:=by cases s <;> rfl
theorem R7(s:Sh)(l:List Sh)(c:C)(cs:List C):gH (s::l) (c::cs)=gH [s] [c]++gH l cs:=by cases s <;> cases c <;> simp[gH]
theorem XQ(s:Sh)(l:List Sh)(x:s.ty)(t:yK l):kF (s::l) (x,t)=kF [s] (x,())++kF l t:=by cases s <;> rfl
theorem qH:∀(l:List Sh) (t:yK l),(kF l t).length=(dN l).length
 | [],_=>rfl
 | .int _::l,t=>qH l t.2
 | .bool::l,t=>qH l t.2
 | .str::l,t=>qH l t.2
 | .sl _::l,t=>qH l t.2
 | .row _ _ _::l,t=>by simp[kF,dN,qH l t.2]
 | .rr _ _ _ _::l,t=>by simp[kF,dN,qH l t.2]
 | .tree::l,t=>qH l t.2
 | .lit _::l,t=>qH l t.2
theorem Cz{σ:List (Nat×Nat)}(h:Rel w0 F Xc ρ0 ρ st a w):∀(l:List Sh) (cs:List C) (f:yK l→List (Option Nat)→List Nat→Option R),LQ σ st.ae l cs f=some r →
 ∃t rs zs,f t rs zs=some r∧rs.length=(dN l).length ∧
  (∀(i:Nat) k o,(kF l t)[i]?=some (k,o)→(dN l)[i]?=some k∧∃sr,rs[i]?=some sr∧o.ja=true∧(∀k',sr=some k'→st.ae[k']?=some o)∧(sr=none→∃e n,o=.row false e n []∧(0<n∧n<1000000000))) ∧
  (∀z∈zs,∃o,st.ae[z]?=some o∧o.ny=true)∧(∀p∈gH l cs,∃i:Nat,(dN l)[i]?=some p.2∧rs[i]?=some (some p.1)) ∧
  ∀(ρ'':nP) (X'':Nat→Prop),jt ρ ρ'' (XB st.ae ρ Xc) X'' st.ae (dN l) rs zs σ→∀ys,bw w (XB st.ae ρ Xc) ρ cs ys→bw w X'' ρ'' (BT l t) ys
 | [],[],f,hf=>⟨(),[],[],hf,rfl,fun i k o hi=>by simp[kF] at hi,by simp,by simp[gH],fun _ _ _ ys hy=>⟨hy.1,fun i c y h1 _=>by simp[BT] at h1⟩⟩
 | [],_::_,f,hf=>by simp[LQ] at hf
 | _::_,[],f,hf=>by simp[LQ] at hf
 | s::l,c::cs,f,hf=>by
  simp only[LQ] at hf
  obtain⟨x,Ex,zs1,hf1,len1,row1,z1,Xo,turn1⟩:=Pd h hf
  obtain⟨t,WR,zs2,hf2,len2,row2,z2,Xn,turn2⟩:=Cz h l cs _ hf1
  have hlen1:=qH [s] (x,())
  refine⟨(x,t),Ex++WR,zs1++zs2,hf2,by rw[tL,zD,tL,len1,len2],fun i k o hi=>?_,fun z hz=>?_,fun p hp=>?_,fun ρ'' X'' ht ys hy=>?_⟩
  ·rw[XQ,rR] at hi
   rw[zD,rR,rR]
   split at hi
   ·rename_i hlt
    rw[aC (by omega),aC (by omega)]
    exact row1 i k o hi
   ·rename_i hlt
    rw[aA (by omega),aA (by omega),len1]
    rw[hlen1] at hi
    exact row2 _ k o hi
  ·rcases fL.1 hz with hz | hz
   ·exact z1 z hz
   ·exact z2 z hz
  ·rw[R7] at hp
   rw[zD]
   rcases fL.1 hp with hp | hp
   ·obtain⟨e1,e2⟩:=Xo p hp
    exact⟨0,by rw[e1];rfl,by rw[e2];rfl⟩
   ·obtain⟨i,e1,e2⟩:=Xn p hp
    exact⟨i+Ex.length,by rw[rR,aA (by omega),←len1,KW];exact e1,by rw[rR,aA (by omega),KW];exact e2⟩
  ·cases ys with
   | nil=>simp[bw] at hy
   | cons y ys=>
    have hk:=ht.rows
    rw[zD] at hk
    have t1:jt ρ ρ'' (XB st.ae ρ Xc) X'' st.ae (dN [s]) Ex zs1 σ:=
     ⟨ht.sub,len1.symm,fun i k sr h1 h2=>hk i k sr (by rw[rR,aC (dL.1 h1).1];exact h1) (by rw[rR,aC (dL.1 h2).1];exact h2),
      fun z hz=>ht.trees z (fL.2 (.inl hz)),ht.lit⟩
    have t2:jt ρ ρ'' (XB st.ae ρ Xc) X'' st.ae (dN l) WR zs2 σ:=
     ⟨ht.sub,len2.symm,fun i k sr h1 h2=>hk (i+Ex.length) k sr (by rw[rR,aA (by omega),←len1,KW];exact h1) (by rw[rR,aA (by omega),KW];exact h2),
      fun z hz=>ht.trees z (fL.2 (.inr hz)),ht.lit⟩
    have hy2:bw w (XB st.ae ρ Xc) ρ cs ys:=⟨by simpa using hy.1,fun i c y h1 h2=>hy.2 (i+1) c y (by simpa using h1) (by simpa using h2)⟩
    have r2:=turn2 ρ'' X'' t2 ys hy2
    refine⟨by simp[BT,r2.1],fun i c' y' h1 h2=>?_⟩
    cases i with
    | zero=>simp[BT] at h1 h2;subst h1;subst h2;exact turn1 ρ'' X'' t1 _ (hy.2 0 c _ rfl rfl)
    | succ i=>exact r2.2 i c' y' (by simpa[BT] using h1) (by simpa using h2)
theorem pV(h:Rel w0 F Xc ρ0 ρ st a w):∀(items:List It) (cs:List C),iR st items=some cs→∃ys,bw w (XB st.ae ρ Xc) ρ cs ys
 | [],cs,hg=>by simp only[iR,cG] at hg;subst hg;exact⟨[],rfl,fun i c y h1 _=>by simp at h1⟩
 | .slot i::l,cs,hg=>by
  simp only[iR] at hg
  split at hg
  ·rename_i c cs' he hg'
   cases hg
   obtain⟨ys,hy⟩:=pV h l cs' hg'
   have hr:=h.ev (.tmp i)
   have:ev st (.tmp i)=.s (.c c):=he
   rw[this] at hr
   exact⟨_,(bw.one (c:=c) hr).append hy⟩
  ·cases hg
 | .av i n::l,cs,hg=>by
  simp only[iR] at hg
  split at hg
  ·rename_i c cs' he hg'
   split at hg
   ·cases hg
    obtain⟨ys,hy⟩:=pV h l cs' hg'
    have hr:=h.ev (.tmp i)
    have:ev st (.tmp i)=.s (.agg c):=he
    rw[this] at hr
    obtain⟨vs,_,hvs⟩:=hr
    exact⟨_,hvs.append hy⟩
   ·cases hg
  ·cases hg
 | .box k n::l,cs,hg=>by
  simp only[iR] at hg
  split at hg
  ·rename_i c cs' ho hg'
   split at hg
   ·cases hg
    obtain⟨ys,hy⟩:=pV h l cs' hg'
    obtain⟨v,_,g,zs,ty,_,_,_,hz⟩:=h.ae k _ ho
    exact⟨_,hz.append hy⟩
   ·cases hg
  ·cases hg
 | .cw i k n::l,cs,hg=>by
  simp only[iR] at hg
  split at hg
  ·rename_i key cs' he hg'
   split at hg
   ·rename_i c ho
    split at hg
    ·cases hg
     obtain⟨ys,hy⟩:=pV h l cs' hg'
     obtain⟨v,_,g,zs,ty,_,_,_,hz⟩:=h.ae key _ ho
     exact⟨_,hz.append hy⟩
    ·cases hg
   ·cases hg
  ·cases hg
end
section
variable {R:Type} {w0 w:World} {F Xc X X'':Nat→Prop} {ρ0:cq} {ρ ρ'':nP} {st:St} {a:Act} {r:R}
theorem dX{α β γ:Type}(m:Option α)(f:α→Option β)(g:β→Option γ):(ob m f).bind g=ob m fun a=>(f a).bind g:=by cases m <;> rfl
theorem PU{R:Type}{σ:List (Nat×Nat)}{ae:List O}{s:Sh}{c:C}(f:s.ty→List (Option Nat)→List Nat→Option R):JR σ ae s c f=(JR σ ae s c fun x r z=>some (x,r,z)).bind fun p=>f p.1 p.2.1 p.2.2:=by
 cases s <;> simp only[JR] <;> repeat' (first | split | dsimp only)
 all_goals first
  | rfl
  | (simp_all [dX];done)
theorem JS{R:Type}{σ:List (Nat×Nat)}{ae:List O}:∀(l:List Sh) (cs:List C) (f:yK l→List (Option Nat)→List Nat→Option R),LQ σ ae l cs f=(LQ σ ae l cs fun x r z=>some (x,r,z)).bind fun p=>f p.1 p.2.1 p.2.2
 | [],[],f=>rfl
 | [],_::_,f=>rfl
 | _::_,[],f=>rfl
 | s::l,c::cs,f=>by
  simp only[LQ]
  refine(PU _).trans (tP ?_ (fG (fun z:Option (yK (s::l)×List (Option Nat)×List Nat)=>z.bind fun p=>f p.1 p.2.1 p.2.2) (PU _)).symm)
  rw[gD]
  refine fG _ (funext fun p=>?_)
  refine(JS l cs _).trans (tP ?_ (fG (fun z:Option (yK (s::l)×List (Option Nat)×List Nat)=>z.bind fun p=>f p.1 p.2.1 p.2.2) (JS l cs _)).symm)
  rw[gD]
  rfl
theorem Ge{σ:List (Nat×Nat)}{c:C}{t:TypeId}(h:c.same σ (.self t)=true):c=.self t:=by
 unfold C.same at h
 split at h <;> first
  | (rename_i e;cases e;done)
  | (rename_i e1 e2;cases e2;done)
  | skip
 all_goals simp_all
theorem Gf{s:Sh}{x:s.ty}{t:TypeId}(h:Oz s x=.self t):s=.lit (.self t):=by
 cases s <;> simp[Oz] at h
 subst h;rfl
theorem S5{R:Type}{σ:List (Nat×Nat)}{ae:List O}{r:R}:∀(l:List Sh) (cs:List C) {f:yK l→List (Option Nat)→List Nat→Option R},LQ σ ae l cs f=some r→∀t:yK l,cd cs (BT l t)
 | [],[],f,_,t,i,u,hi=>by simp[BT] at hi
 | [],_::_,f,h,_,_,_,_=>by simp[LQ] at h
 | _::_,[],f,h,_,_,_,_=>by simp[LQ] at h
 | s::l,c::cs,f,h,t,i,u,hi=>by
  simp only[LQ] at h
  cases i with
  | zero=>
   simp only[BT,zY,cG] at hi ⊢
   have hs:=Gf hi
   subst hs
   simp only[JR] at h
   split at h
   ·rename_i hc;exact Ge hc
   ·cases h
  | succ i=>
   rw[PU] at h
   obtain⟨p,_,h2⟩:=pS.1 h
   simpa using S5 l cs h2 t.2 i u (by simpa[BT] using hi)
def bn(w:World)(X:Nat→Prop)(ρ:nP)(X'':Nat→Prop)(ρ'':nP)(cs cs':List C):Prop:=(∀ys,bw w X ρ cs ys→bw w X'' ρ'' cs' ys)∧cd cs cs'
theorem bn.right{l m m':List C}(h:bn w X ρ X'' ρ'' (l++m) m'){ys:List Value}(hy:bw w X ρ l ys):bn w X ρ X'' ρ'' m (m'.drop l.length):=⟨fun zs hz=>by
 have:=(h.1 _ (hy.append hz)).drop l.length
 rwa[←hy.1,List.drop_left,hy.1] at this,h.2.right⟩
theorem bn.left{l m m':List C}(h:bn w X ρ X'' ρ'' (l++m) m'){zs:List Value}(hz:bw w X ρ m zs):bn w X ρ X'' ρ'' l (m'.take l.length):=⟨fun ys hy=>by
 have:=(h.1 _ (hy.append hz)).take l.length
 rwa[←hy.1,T8,hy.1] at this,h.2.left⟩
def ez(w:World)(X'':Nat→Prop)(ρ'':nP)(a:Act)(env:List D):Prop:=∀(i:Nat) d y,env[i]?=some d→a.tmps[i]?=some y→bc w X'' ρ'' d y
theorem ez.set{env:List D}(h:ez w X'' ρ'' a env){j:Nat}{d:D}(hd:∀y,a.tmps[j]?=some y→bc w X'' ρ'' d y):ez w X'' ρ'' a (env.set j d):=fun i d' y h1 h2=>by
 rw[qO] at h1
 split at h1
 ·rename_i e
  subst e
  split at h1
  ·cases h1;exact hd y h2
  ·cases h1
 ·exact h i d' y h1 h2
theorem PV{i:Nat}{y:Value}(h:a.tmps[i]?=some y):a.eval (.tmp i)=y:=by
 obtain⟨hlt,rfl⟩:=zW.1 h
 simp[Act.eval,MJ,uV hlt]
theorem xZ(h:Rel w0 F Xc ρ0 ρ st a w):∀(items:List It) (cs cs':List C) (st0:St),(∀p∈eZ st items,ρ'' p.2=ρ p.1)→iR st items=some cs→bn w (XB st.ae ρ Xc) ρ X'' ρ'' cs cs'→ez w X'' ρ'' a st0.env→ez w X'' ρ'' a (fO items cs' st0).env
 | [],_,_,_,_,_,_,he=>he
 | .slot i::l,cs,cs',st0,hbp,hg,hr,he=>by
  simp only[iR] at hg
  split at hg
  ·rename_i c cs1 hc hg'
   cases hg
   obtain⟨ys1,hy1⟩:=pV h l cs1 hg'
   have hev:bc w (XB st.ae ρ Xc) ρ (.s (.c c)) (a.eval (.tmp i)):=by have:=h.ev (.tmp i);rwa[show ev st (.tmp i)=.s (.c c) from hc] at this
   have h1:bw w (XB st.ae ρ Xc) ρ [c] [a.eval (.tmp i)]:=bw.one hev
   simp only[fO]
   refine xZ h l cs1 cs'.tail _ hbp hg' ?_ (he.set fun y hy=>?_)
   ·have:=bn.right (l:=[c]) (m:=cs1) hr h1
    rwa[T7,List.drop_one] at this
   ·have:=(bn.left (l:=[c]) (m:=cs1) hr hy1).1 _ h1
    cases cs' with
    | nil=>simp[bw] at this
    | cons c' cs'=>
     have hh:=this.2 0 c' _ rfl rfl
     rw[PV hy] at hh
     exact hh
  ·cases hg
 | .av i n::l,cs,cs',st0,hbp,hg,hr,he=>by
  simp only[iR] at hg
  split at hg
  ·rename_i c cs1 hc hg'
   split at hg
   ·rename_i hn
    cases hg
    obtain⟨ys1,hy1⟩:=pV h l cs1 hg'
    have hev:bc w (XB st.ae ρ Xc) ρ (.s (.agg c)) (a.eval (.tmp i)):=by have:=h.ev (.tmp i);rwa[show ev st (.tmp i)=.s (.agg c) from hc] at this
    obtain⟨vs,hvs,hl⟩:=hev
    simp only[fO]
    subst hn
    refine xZ h l cs1 _ _ hbp hg' (bn.right hr hl) (he.set fun y hy=>?_)
    rw[PV hy] at hvs
    exact⟨vs,hvs,(bn.left hr hy1).1 _ hl⟩
   ·cases hg
  ·cases hg
 | .box k n::l,cs,cs',st0,hbp,hg,hr,he=>by
  simp only[iR] at hg
  split at hg
  ·rename_i c cs1 hc hg'
   split at hg
   ·rename_i hn
    cases hg
    obtain⟨v,_,g,zs,ty,_,_,_,hz⟩:=h.ae k _ hc
    simp only[fO]
    subst hn
    exact xZ h l cs1 _ _ (fun p hp=>hbp p (by simp only[eZ,cJ];exact .inr hp)) hg' (bn.right hr hz) he
   ·cases hg
  ·cases hg
 | .cw i k n::l,cs,cs',st0,hbp,hg,hr,he=>by
  simp only[iR] at hg
  split at hg
  ·rename_i key cs1 hc hg'
   split at hg
   ·rename_i c ho
    split at hg
    ·rename_i hn
     cases hg
     have hbp0:eZ st (.cw i k n::l)=(key,k)::eZ st l:=by simp only[eZ,hc]
     rw[hbp0] at hbp
     obtain⟨v,_,g,zs,ty,_,_,_,hz⟩:=h.ae key _ ho
     have hev:bc w (XB st.ae ρ Xc) ρ (.s (.c (.box key 0))) (a.eval (.tmp i)):=by have:=h.ev (.tmp i);rwa[show ev st (.tmp i)=.s (.c (.box key 0)) from hc] at this
     simp only[fO]
     subst hn
     refine xZ h l cs1 _ _ (fun p hp=>hbp p (by simp[hp])) hg' (bn.right hr hz) (he.set fun y hy=>?_)
     rw[PV hy] at hev
     rcases hev with hev | ⟨⟨v',e1,e2⟩,h1⟩
     ·cases hev
     ·exact .inr ⟨⟨v',(hbp (key,k) (by simp)).trans e1,e2⟩,h1⟩
    ·cases hg
   ·cases hg
  ·cases hg
theorem qI:∀(items:List It) (cs':List C) (st0:St),(fO items cs' st0).np=st0.np∧(fO items cs' st0).env.length=st0.env.length∧(fO items cs' st0).ae.length=st0.ae.length
 | [],_,_=>⟨rfl,rfl,rfl⟩
 | .slot i::l,cs',st0=>by obtain⟨h1,h2,h3⟩:=qI l cs'.tail { st0 with env:=st0.env.set i (.s (.c (cs'.headD .top))) };exact⟨h1,h2.trans (dP ..),h3⟩
 | .av i n::l,cs',st0=>by obtain⟨h1,h2,h3⟩:=qI l (cs'.drop n) { st0 with env:=st0.env.set i (.s (.agg (cs'.take n))) };exact⟨h1,h2.trans (dP ..),h3⟩
 | .box k n::l,cs',st0=>by obtain⟨h1,h2,h3⟩:=qI l (cs'.drop n) { st0 with ae:=st0.ae.set k (.box (cs'.take n)) };exact⟨h1,h2,h3.trans (dP ..)⟩
 | .cw i k n::l,cs',st0=>by obtain⟨h1,h2,h3⟩:=qI l (cs'.drop n) { st0 with env:=st0.env.set i (.s (.c (.box k 0))),ae:=st0.ae.set k (.box (cs'.take n)) };exact⟨h1,h2.trans (dP ..),h3.trans (dP ..)⟩
theorem vK(h:Rel w0 F Xc ρ0 ρ st a w):∀(items:List It) (cs cs':List C) (st0:St),iR st items=some cs→bn w (XB st.ae ρ Xc) ρ X'' ρ'' cs cs'→(fP items).Nodup→(∀k∈fP items,k<st0.ae.length) →
 ∀k,(k∉fP items→(fO items cs' st0).ae[k]?=st0.ae[k]?) ∧
  (k∈fP items→∃q l l',(q,k)∈eZ st items∧st.ae[q]?=some (.box l)∧(fO items cs' st0).ae[k]?=some (.box l')∧bn w (XB st.ae ρ Xc) ρ X'' ρ'' l l')
 | [],_,_,_,_,_,_,_,k=>⟨fun _=>rfl,fun hk=>by simp[fP] at hk⟩
 | .slot i::l,cs,cs',st0,hg,hr,hn,hb,k=>by
  simp only[iR] at hg
  split at hg
  ·rename_i c cs1 hc hg'
   cases hg
   have hev:bc w (XB st.ae ρ Xc) ρ (.s (.c c)) (a.eval (.tmp i)):=by have:=h.ev (.tmp i);rwa[show ev st (.tmp i)=.s (.c c) from hc] at this
   have h1:bw w (XB st.ae ρ Xc) ρ [c] [a.eval (.tmp i)]:=bw.one hev
   have hr':=bn.right (l:=[c]) (m:=cs1) hr h1
   rw[T7,List.drop_one] at hr'
   exact vK h l cs1 _ { st0 with env:=st0.env.set i (.s (.c (cs'.headD .top))) } hg' hr' hn hb k
  ·cases hg
 | .av i n::l,cs,cs',st0,hg,hr,hn,hb,k=>by
  simp only[iR] at hg
  split at hg
  ·rename_i c cs1 hc hg'
   split at hg
   ·rename_i hnn
    cases hg
    have hev:bc w (XB st.ae ρ Xc) ρ (.s (.agg c)) (a.eval (.tmp i)):=by have:=h.ev (.tmp i);rwa[show ev st (.tmp i)=.s (.agg c) from hc] at this
    obtain⟨vs,hvs,hl⟩:=hev
    subst hnn
    exact vK h l cs1 _ { st0 with env:=st0.env.set i (.s (.agg (cs'.take c.length))) } hg' (bn.right hr hl) hn hb k
   ·cases hg
  ·cases hg
 | .box q n::l,cs,cs',st0,hg,hr,hn,hb,k=>by
  simp only[iR] at hg
  split at hg
  ·rename_i c cs1 hc hg'
   split at hg
   ·rename_i hnn
    cases hg
    obtain⟨v,_,g,zs,ty,_,_,_,hz⟩:=h.ae q _ hc
    subst hnn
    simp only[fP] at hn hb
    obtain⟨hq,hn'⟩:=dC.1 hn
    obtain⟨e1,e2⟩:=vK h l cs1 _ { st0 with ae:=st0.ae.set q (.box (cs'.take c.length)) } hg' (bn.right hr hz) hn' (fun k hk=>by simpa using hb k (by simp[hk])) k
    obtain⟨ys1,hy1⟩:=pV h l cs1 hg'
    simp only[fO,fP,cJ,DW]
    refine⟨fun hk=>?_,fun hk=>?_⟩
    ·rw[e1 hk.2,fK (fun e=>hk.1 e.symm)]
    ·by_cases hkl:k∈fP l
     ·obtain⟨q',l1,l2,r1,r2,r3,r4⟩:=e2 hkl
      exact⟨q',l1,l2,by simp only[eZ,cJ];exact .inr r1,r2,r3,r4⟩
     ·have hkq:k=q:=hk.resolve_right hkl
      subst hkq
      refine⟨k,c,cs'.take c.length,by simp[eZ],hc,?_,bn.left hr hy1⟩
      rw[e1 hkl,iJ (hb k (by simp))]
   ·cases hg
  ·cases hg
 | .cw i q n::l,cs,cs',st0,hg,hr,hn,hb,k=>by
  simp only[iR] at hg
  split at hg
  ·rename_i key cs1 hc hg'
   split at hg
   ·rename_i c ho
    split at hg
    ·rename_i hnn
     cases hg
     have hbp0:eZ st (.cw i q n::l)=(key,q)::eZ st l:=by simp only[eZ,hc]
     obtain⟨v,_,g,zs,ty,_,_,_,hz⟩:=h.ae key _ ho
     subst hnn
     simp only[fP] at hn hb
     obtain⟨hq,hn'⟩:=dC.1 hn
     obtain⟨e1,e2⟩:=vK h l cs1 _ { st0 with env:=st0.env.set i (.s (.c (.box q 0))),ae:=st0.ae.set q (.box (cs'.take c.length)) } hg' (bn.right hr hz) hn' (fun k hk=>by simpa using hb k (by simp[hk])) k
     obtain⟨ys1,hy1⟩:=pV h l cs1 hg'
     simp only[fO,fP,cJ,DW]
     refine⟨fun hk=>?_,fun hk=>?_⟩
     ·rw[e1 hk.2,fK (fun e=>hk.1 e.symm)]
     ·by_cases hkl:k∈fP l
      ·obtain⟨q',l1,l2,r1,r2,r3,r4⟩:=e2 hkl
       exact⟨q',l1,l2,by rw[hbp0];simp[r1],r2,r3,r4⟩
      ·have hkq:k=q:=hk.resolve_right hkl
       subst hkq
       refine⟨key,c,cs'.take c.length,by rw[hbp0];simp,ho,?_,bn.left hr hy1⟩
       rw[e1 hkl,iJ (hb k (by simp))]
    ·cases hg
   ·cases hg
  ·cases hg
theorem tQ:∀(l:List (Nat×O)) (ae:List O) (k:Nat),k∉l.map (·.1)→(qF ae l)[k]?=ae[k]?
 | [],_,_,_=>rfl
 | p::l,ae,k,h=>by
  simp only[qF]
  rw[tQ l _ k (fun hm=>h (by simp at hm ⊢;exact .inr hm)),fK (fun e=>h (by simp[e]))]
theorem PW:∀(l:List (Nat×O)) (ae:List O) (i k:Nat) (o:O),(l.map (·.1)).Nodup→l[i]?=some (k,o)→k<ae.length→(qF ae l)[k]?=some o
 | [],_,i,k,o,_,h,_=>by simp at h
 | p::l,ae,i,k,o,hn,h,hk=>by
  simp only[qF]
  simp only[wO] at hn
  obtain⟨hp,hn'⟩:=dC.1 hn
  cases i with
  | zero=>
   simp at h
   subst h
   rw[tQ l _ k hp,iJ hk]
  | succ i=>exact PW l _ i k o hn' (by simpa using h) (by simpa using hk)
theorem MW:∀(l:List (Nat×O)) (ae:List O),(qF ae l).length=ae.length
 | [],_=>rfl
 | p::l,ae=>by simp only[qF];rw[MW l];simp
theorem Gg(np n m:Nat)(a:Act):ez w X'' ρ'' a (mQ np n m).env:=fun i d y h1 _=>by
 simp only[mQ,KZ] at h1
 split at h1
 ·cases h1;exact .top_ y
 ·cases h1
theorem AK{np n m k:Nat}(hm:np≤m):(mQ np n m).ae[k]?=if k<np then some .dead else if k<m then some .fresh else none:=by
 simp only[mQ,rR,KZ,OU]
 by_cases h1:k<np
 ·simp[h1]
 ·by_cases h2:k<m
  ·simp[h1,h2];omega
  ·simp[h1,h2];omega
theorem iT:∀(l:List Sh) (t:yK l),(kF l t).map (·.1)=dN l
 | [],_=>rfl
 | .int _::l,t=>iT l t.2
 | .bool::l,t=>iT l t.2
 | .str::l,t=>iT l t.2
 | .sl _::l,t=>iT l t.2
 | .row _ _ _::l,t=>by simp[kF,dN,iT l t.2]
 | .rr _ _ _ _::l,t=>by simp[kF,dN,iT l t.2]
 | .tree::l,t=>iT l t.2
 | .lit _::l,t=>iT l t.2
theorem rX:∀(items:List It) (cs:List C),iR st items=some cs→∀p∈eZ st items,∃l,st.ae[p.1]?=some (.box l)
 | [],_,_,p,hk=>by simp[eZ] at hk
 | .slot i::l,cs,hg,p,hk=>by
  simp only[iR] at hg
  split at hg
  ·rename_i hg';exact rX l _ hg' p hk
  ·cases hg
 | .av i n::l,cs,hg,p,hk=>by
  simp only[iR] at hg
  split at hg
  ·rename_i hg';exact rX l _ hg' p hk
  ·cases hg
 | .box q n::l,cs,hg,p,hk=>by
  simp only[iR] at hg
  split at hg
  ·rename_i c cs1 hc hg'
   simp only[eZ,cJ] at hk
   rcases hk with rfl | hk
   ·exact⟨c,hc⟩
   ·exact rX l _ hg' p hk
  ·cases hg
 | .cw i q n::l,cs,hg,p,hk=>by
  simp only[iR] at hg
  split at hg
  ·rename_i key cs1 hc hg'
   split at hg
   ·rename_i c ho
    simp only[eZ,hc,cJ] at hk
    rcases hk with rfl | hk
    ·exact⟨c,ho⟩
    ·exact rX l _ hg' p hk
   ·cases hg
  ·cases hg
theorem tS:∀(items:List It) (cs:List C),iR st items=some cs→(eZ st items).map (·.2)=fP items
 | [],_,_=>rfl
 | .slot i::l,cs,hg=>by
  simp only[iR] at hg
  split at hg
  ·rename_i hg';exact tS l _ hg'
  ·cases hg
 | .av i n::l,cs,hg=>by
  simp only[iR] at hg
  split at hg
  ·rename_i hg';exact tS l _ hg'
  ·cases hg
 | .box q n::l,cs,hg=>by
  simp only[iR] at hg
  split at hg
  ·rename_i c cs1 hc hg'
   simp only[eZ,fP,wO,tS l _ hg']
  ·cases hg
 | .cw i q n::l,cs,hg=>by
  simp only[iR] at hg
  split at hg
  ·rename_i key cs1 hc hg'
   simp only[eZ,hc,fP,wO,tS l _ hg']
  ·cases hg
theorem sM:∀(items:List It) (cs':List C) (st0:St) (k:Nat),k∉fP items→(fO items cs' st0).ae[k]?=st0.ae[k]?
 | [],_,_,_,_=>rfl
 | .slot i::l,cs',st0,k,hk=>sM l _ { st0 with env:=st0.env.set i (.s (.c (cs'.headD .top))) } k hk
 | .av i n::l,cs',st0,k,hk=>sM l _ { st0 with env:=st0.env.set i (.s (.agg (cs'.take n))) } k hk
 | .box q n::l,cs',st0,k,hk=>by
  simp only[fP,cJ,DW] at hk
  simp only[fO]
  rw[sM l _ _ k hk.2,fK (fun e=>hk.1 e.symm)]
 | .cw i q n::l,cs',st0,k,hk=>by
  simp only[fP,cJ,DW] at hk
  simp only[fO]
  rw[sM l _ _ k hk.2,fK (fun e=>hk.1 e.symm)]
theorem R8{rs:List (Option Nat)}(h:(rs.filterMap id).Nodup){i j k:Nat}(h1:rs[i]?=some (some k))(h2:rs[j]?=some (some k)):i=j:=by
 induction rs generalizing i j with
 | nil=>simp at h1
 | cons s rs ih=>
  have key:∀q,rs[q]?=some (some k)→s=some k→False:=fun q hq e=>by
   subst e
   simp only[K6,K7] at h
   have:=(dC.1 h).1
   exact this (MI.2 ⟨some k,mM hq,rfl⟩)
  have hnd:(rs.filterMap id).Nodup:=by
   cases s with
   | none=>simpa using h
   | some v=>simp only[K6,K7] at h;exact(dC.1 h).2
  cases i with
  | zero=>
   cases j with
   | zero=>rfl
   | succ j=>simp at h1 h2;exact(key j h2 h1).elim
  | succ i=>
   cases j with
   | zero=>simp at h1 h2;exact(key i h1 h2).elim
   | succ j=>simp at h1 h2;rw[ih hnd h1 h2]
def IS:List (Nat×Nat)→Nat→Option Nat
 | [],_=>none
 | p::l,k=>if p.2=k then some p.1 else IS l k
theorem PX:∀{l:List (Nat×Nat)} {p:Nat×Nat},(l.map (·.2)).Nodup→p∈l→IS l p.2=some p.1
 | [],p,_,h=>by cases h
 | q::l,p,hn,h=>by
  simp only[wO] at hn
  obtain⟨h1,h2⟩:=dC.1 hn
  unfold IS
  rcases cJ.1 h with rfl | h
  ·rw[aC rfl]
  ·have hne:¬q.2=p.2:=fun e=>h1 (e▸kZ.2 ⟨p,h,rfl⟩)
   rw[aA hne,PX h2 h]
theorem MX:∀{l:List (Nat×Nat)} {k:Nat},k∉l.map (·.2)→IS l k=none
 | [],_,_=>rfl
 | q::l,k,h=>by
  simp only[wO,cJ,DW] at h
  unfold IS
  rw[aA (fun e=>h.1 e.symm),MX h.2]
theorem XR:∀{l:List (Nat×Nat)} {q k k':Nat},(l.map (·.1)).Nodup→(q,k)∈l→(q,k')∈l→k=k'
 | [],_,_,_,_,h,_=>by cases h
 | p::l,q,k,k',hn,h,h'=>by
  simp only[wO] at hn
  obtain⟨h1,h2⟩:=dC.1 hn
  rcases cJ.1 h with e | h <;> rcases cJ.1 h' with e' | h'
  ·rw[←e] at e';cases e';rfl
  ·rw[←e] at h1;exact(h1 (kZ.2 ⟨_,h',rfl⟩)).elim
  ·rw[←e'] at h1;exact(h1 (kZ.2 ⟨_,h,rfl⟩)).elim
  ·exact XR h2 h h'
theorem PY{np:Nat}:∀{ks:List Nat} {ss:List (Option Nat)} {i k:Nat} {s:Option Nat},U7 np ks ss=true→ks[i]?=some k→ss[i]?=some s→np≤k∨s=some k
 | [],_,i,k,s,_,h,_=>by simp at h
 | k'::ks,[],i,k,s,_,_,h=>by simp at h
 | k'::ks,s'::ss,i,k,s,hk,h1,h2=>by
  simp only[U7,cS,oB,bE,zV] at hk
  cases i with
  | zero=>simp at h1 h2;subst h1;subst h2;exact hk.1
  | succ i=>exact PY hk.2 (by simpa using h1) (by simpa using h2)
theorem LR{h:Hint}{f:yK h.af→Option R}(hex:ρ0.ex=[])(hR:Rel w0 F Xc ρ0 ρ st a w)(hf:HO h st f=some r):
 ∃t,f t=some r∧(∀k∈fP h.items++dN h.af,k<st.ae.length)∧∃ρ'',(∀k,st.ae.length≤k→ρ'' k=none)∧Rel w0 F Xc ρ0 ρ'' (fS h st.np st.env.length st.ae.length t) a w:=by
 unfold HO at hf
 split at hf
 case h_2=>cases hf
 rename_i cs hg
 dsimp only at hf
 obtain⟨t,rs,zs,hf1,hlen,hrows,hzs,hpairs,hturn⟩:=Cz hR h.af cs _ hf
 split at hf1
 case isFalse=>cases hf1
 rename_i hc
 simp only[cS,bE] at hc
 obtain⟨⟨⟨⟨⟨⟨hok,hkeep⟩,hbk⟩,hbn⟩,hnd⟩,hz⟩,hnpm⟩:=hc
 unfold Hint.ok at hok
 simp only[cS,bE,jF] at hok
 obtain⟨hk1,hk3⟩:=hok
 have hbpk:=tS h.items cs hg
 have hbd:((eZ st h.items).map (·.2)).Nodup:=by rw[hbpk];exact(pU.1 hk3).1
 obtain⟨hb3,hr3,hdis⟩:=pU.1 hk3
 refine⟨t,hf1,hk1,?_⟩
 let ρ'':nP:=fun k=>match IS (eZ st h.items) k with
  | some q=>ρ q
  | none=>match FC (dN h.af) rs k with
   | some s=>Xb ρ s
   | none=>if k<st.np then ρ k else none
 let objs'':List O:=(fS h st.np st.env.length st.ae.length t).ae
 have hρbox:∀p∈eZ st h.items,ρ'' p.2=ρ p.1:=fun p hp=>by simp only[ρ'',PX hbd hp]
 have hpn:∀k,k∉fP h.items→IS (eZ st h.items) k=none:=fun k hk=>MX (by rw[hbpk];exact hk)
 have hsrc:∀k∈fP h.items,∃q,(q,k)∈eZ st h.items:=fun k hk=>by
  rw[←hbpk] at hk
  obtain⟨p,hp,rfl⟩:=kZ.1 hk
  exact⟨p.1,hp⟩
 have hnotbox:∀k,k∈dN h.af→k∉fP h.items:=fun k hk hb=>hdis k hb k hk rfl
 have hρrow:∀(i:Nat) k s,(dN h.af)[i]?=some k→rs[i]?=some s→ρ'' k=Xb ρ s:=fun i k s h1 h2=>by
  simp only[ρ'',hpn k (hnotbox k (mM h1)),S4 _ _ i k s hr3 h1 h2]
 have hsrcnone:∀k,k∉dN h.af→FC (dN h.af) rs k=none:=fun k hk=>by
  cases hs:FC (dN h.af) rs k with
  | none=>rfl
  | some s=>obtain⟨i,h1,_⟩:=PS _ _ _ _ hs;exact(hk (mM h1)).elim
 have hlenO:(fO h.items (BT h.af t) (mQ st.np st.env.length st.ae.length)).ae.length=st.ae.length:=by
  rw[(qI _ _ _).2.2];simp[mQ];omega
 have hnprow:∀(i:Nat) k o,(kF h.af t)[i]?=some (k,o)→objs''[k]?=some o:=fun i k o hi=>by
  refine PW _ _ i k o (by rw[iT];exact hr3) hi ?_
  rw[hlenO]
  exact hk1 k (fL.2 (.inr (mM (hrows i k o hi).1)))
 have hother:∀k,k∉fP h.items→k∉dN h.af→objs''[k]?=(mQ st.np st.env.length st.ae.length).ae[k]?:=fun k hb hr=>by
  show (qF _ _)[k]?=_
  rw[tQ _ _ k (by rw[iT];exact hr),sM h.items _ _ k hb]
 have hrowi:∀k,k∈dN h.af→∃(i:Nat) (o:O) (sr:Option Nat),(dN h.af)[i]?=some k∧objs''[k]?=some o∧rs[i]?=some sr∧o.ja=true∧(∀k',sr=some k'→st.ae[k']?=some o)∧(sr=none→∃e n,o=.row false e n []∧(0<n∧n<1000000000)):=fun k hk=>by
  rw[←iT h.af t] at hk
  obtain⟨p,hp,rfl⟩:=kZ.1 hk
  obtain⟨i,hi,he⟩:=B7 hp
  have hget:(kF h.af t)[i]?=some (p.1,p.2):=by rw[dH hi,he]
  obtain⟨h1,sr,h2,h3⟩:=hrows i p.1 p.2 hget
  exact⟨i,p.2,sr,h1,hnprow i p.1 p.2 hget,h2,h3⟩
 have hHas:∀k b,Has objs'' ρ'' k b→(∃q,(q,k)∈eZ st h.items∧Has st.ae ρ q b)∨∃i k',(dN h.af)[i]?=some k∧rs[i]?=some (some k')∧Has st.ae ρ k' b∧∃o,st.ae[k']?=some o∧o.ja=true:=fun k b hh=>by
  obtain⟨o,v,h1,h2,h3,h4⟩:=hh
  by_cases hb:k∈fP h.items
  ·obtain⟨q,hq⟩:=hsrc k hb
   obtain⟨l,hl⟩:=rX h.items cs hg _ hq
   exact .inl ⟨q,hq,_,v,hl,rfl,(hρbox _ hq)▸h3,h4⟩
  ·by_cases hr:k∈dN h.af
   ·obtain⟨i,o',sr,q1,q2,q3,q4,q5,q6⟩:=hrowi k hr
    rw[hρrow i k sr q1 q3] at h3
    cases sr with
    | none=>simp only[Xb,cG] at h3;subst h3;have h5:=h4.one rfl;simp[Tb,bq] at h5
    | some k'=>
     refine .inr ⟨i,k',q1,q3,⟨o',v,q5 k' rfl,O.jb q4,h3,h4⟩,o',q5 k' rfl,q4⟩
   ·rw[hother k hb hr,AK hnpm] at h1
    split at h1
    ·cases h1;cases h2
    ·split at h1
     ·cases h1;cases h2
     ·cases h1
 have hXX:∀b,XB objs'' ρ'' Xc b→XB st.ae ρ Xc b:=fun b hb=>by
  rcases hb with⟨k,hk⟩ | hb
  ·rcases hHas k b hk with⟨q,_,hh⟩ | ⟨i,k',_,_,hh,_⟩
   ·exact .inl ⟨q,hh⟩
   ·exact .inl ⟨k',hh⟩
  ·exact .inr hb
 have hT:jt ρ ρ'' (XB st.ae ρ Xc) (XB objs'' ρ'' Xc) st.ae (dN h.af) rs zs (eZ st h.items++gH h.af cs):=by
  refine⟨hXX,hlen.symm,hρrow,fun z hzm v b hv hb hx=>?_,fun p hp v hv=>?_⟩
  ·obtain⟨oz,hzo,hzy⟩:=hzs z hzm
   have hzr:some z∉rs:=fun hm=>by
    have:=jF.1 hz z hzm
    simp[hm] at this
   cases hzf:oz.frozen with
   | true=>
    have hko:=hR.ae z _ hzo
    cases oz with
    | row fz e n l=>
     obtain⟨v',e1,e2⟩:=hko
     rw[hv] at e1
     cases e1
     exact e2.frozen hzf b (hb.one (Oj e2)) (hXX b hx)
    | mp fz e n l=>
     obtain⟨v',e1,e2⟩:=hko
     rw[hv] at e1
     cases e1
     exact e2.frozen hzf b (hb.one (Si e2)) (hXX b hx)
    | box l=>cases hzy
    | cv l=>cases hzy
    | rr hole e e2 n l=>cases hzf
    | fwd l=>cases hzy
    | dead=>cases hzy
    | fresh=>cases hzy
   | false=>
    have hHz:Has st.ae ρ z b:=⟨_,v,hzo,O.jr hzy hzf,hv,hb⟩
    rcases hx with⟨k,hk⟩ | hx
    ·rcases hHas k b hk with⟨q,hkb,hh⟩ | ⟨i,k',_,q,hh,_⟩
     ·have:=hR.sep q z b hh hHz
      subst this
      obtain⟨l',hl'⟩:=rX h.items cs hg _ hkb
      rw[hzo] at hl';cases hl';cases hzy
     ·have:=hR.sep k' z b hh hHz
      subst this
      exact hzr (mM q)
    ·exact hR.xc b hHz.kn hx
  ·rcases fL.1 hp with hp | hp
   ·rw[hρbox p hp];exact hv
   ·obtain⟨i,e1,e2⟩:=hpairs p hp
    rw[hρrow i _ _ e1 e2];exact hv
 have hRef:bn w (XB st.ae ρ Xc) ρ (XB objs'' ρ'' Xc) ρ'' cs (BT h.af t):=⟨hturn ρ'' _ hT,S5 h.af cs hf t⟩
 have hnpE:=qI h.items (BT h.af t) (mQ st.np st.env.length st.ae.length)
 have hbm:∀k∈fP h.items,k<(mQ st.np st.env.length st.ae.length).ae.length:=fun k hk=>by
  have:=hk1 k (fL.2 (.inl hk))
  simp[mQ];omega
 refine⟨ρ'',fun k hk=>?_,by rw[show (fS h st.np st.env.length st.ae.length t).env.length=st.env.length by rw[show (fS h st.np st.env.length st.ae.length t).env.length=_ from hnpE.2.1];simp[mQ]];exact hR.len,
  xZ hR h.items cs _ _ hρbox hg hRef (Gg _ _ _ _),fun k o ho=>?_,fun k k' b hk hk'=>?_,fun b hb=>?_,fun k hk=>?_,hR.defers,hR.frame,hR.jm,fun b hb=>?_,fun p hp=>by rw[hex] at hp;simp at hp⟩
 ·have hb:k∉fP h.items:=fun hb=>by have:=hk1 k (fL.2 (.inl hb));omega
  have hr:k∉dN h.af:=fun hr=>by have:=hk1 k (fL.2 (.inr hr));omega
  show ρ'' k=none
  simp only[ρ'',hpn k hb,hsrcnone k hr]
  rw[aA (by omega)]
 ·-- the objects
  have ho':objs''[k]?=some o:=ho
  by_cases hb:k∈fP h.items
  ·obtain⟨q,l,l',q0,q1,q2,q3⟩:=(vK hR h.items cs _ _ hg hRef hb3 hbm k).2 hb
   have:objs''[k]?=some (.box l'):=by
    show (qF _ _)[k]?=_
    rw[tQ _ _ k (by rw[iT];exact fun hr=>hnotbox k hr hb)]
    exact q2
   rw[this] at ho'
   cases ho'
   obtain⟨v,e1,g,ys,ty,e2,e3,e0,e4⟩:=hR.ae q _ q1
   exact⟨v,(hρbox _ q0).trans e1,g,ys,ty,e2,e3,q3.2.head e0,q3.1 _ e4⟩
  ·by_cases hr:k∈dN h.af
   ·obtain⟨i,o',sr,q1,q2,q3,q4,q5,q6⟩:=hrowi k hr
    rw[q2] at ho'
    cases ho'
    have hρk:=hρrow i k sr q1 q3
    cases sr with
    | none=>
     obtain⟨e,n,rfl,hn⟩:=q6 rfl
     exact⟨Tb,hρk,hn,.nil n,⟨[],rowAt.nil w e n,⟨rfl,fun i t y h1 _=>by simp[flat] at h1⟩⟩,fun hc=>by cases hc⟩
    | some k'=>
     have hk':=q5 k' rfl
     have hko:=hR.ae k' _ hk'
     cases o with
     | row fz e n l=>
      obtain⟨v,e1,e2⟩:=hko
      have e3:=e2.step (X':=XB objs'' ρ'' Xc) (.refl (fun _=>False) w) (fun _ hb=>False.elim hb) (fun b hb=>.inl (hXX b hb)) (.refl ρ) (fun _ _ h=>h)
      exact⟨v,hρk.trans e1,e3⟩
     | mp fz e n l=>
      obtain⟨v,e1,e2⟩:=hko
      have e3:=e2.step (X':=XB objs'' ρ'' Xc) (.refl (fun _=>False) w) (fun _ hb=>False.elim hb) (fun b hb=>.inl (hXX b hb)) (.refl ρ) (fun _ _ h=>h)
      exact⟨v,hρk.trans e1,e3⟩
     | rr hole e e2' n l=>
      obtain⟨v,e1,e2⟩:=hko
      have e3:=iz.step (X':=XB objs'' ρ'' Xc) e2 (.refl (fun _=>False) w) (fun _ hb=>False.elim hb) (fun b hb=>.inl (hXX b hb)) (fun _ _ h=>h)
      exact⟨v,hρk.trans e1,e3⟩
     | fwd l=>cases q4
     | box l=>cases q4
     | cv l=>cases q4
     | dead=>cases q4
     | fresh=>cases q4
   ·rw[hother k hb hr,AK hnpm] at ho'
    split at ho'
    ·cases ho';trivial
    ·split at ho'
     ·cases ho'
      show ρ'' k=none
      simp only[ρ'',hpn k hb,hsrcnone k hr]
      rw[aA (by assumption)]
     ·cases ho'
 ·-- apart
  rcases hHas k b hk with⟨p,hkb,hh⟩ | ⟨i,q,q1,q2,hh,oq,hq,hqf⟩ <;> rcases hHas k' b hk' with⟨p',hkb',hh'⟩ | ⟨i',q',q1',q2',hh',oq',hq',hqf'⟩
  ·have:=hR.sep p p' b hh hh'
   subst this
   exact XR hbn hkb hkb'
  ·have:=hR.sep p q' b hh hh'
   subst this
   obtain⟨l'',hl''⟩:=rX h.items cs hg _ hkb
   rw[hq'] at hl'';cases hl'';cases hqf'
  ·have:=hR.sep q p' b hh hh'
   subst this
   obtain⟨l'',hl''⟩:=rX h.items cs hg _ hkb'
   rw[hq] at hl'';cases hl'';cases hqf
  ·have:=hR.sep q q' b hh hh'
   subst this
   have:=R8 hnd q2 q2'
   subst this
   rw[q1] at q1'
   cases q1'
   rfl
 ·obtain⟨k,hk⟩:=hb
  rcases hHas k b hk with⟨_,_,hh⟩ | ⟨_,k',_,_,hh,_⟩
  ·exact hR.own b hh.kn
  ·exact hR.own b hh.kn
 ·have hk':k<st.np:=by rw[←show (fS h st.np st.env.length st.ae.length t).np=st.np from hnpE.1];exact hk
  rw[←hR.par k hk']
  by_cases hb:k∈fP h.items
  ·obtain⟨q,hq⟩:=hsrc k hb
   have:=jF.1 hbk _ hq
   simp only[oB,zV,bE] at this
   rcases this with this | this
   ·have e:=hρbox _ hq
    rw[←this]
    rw[←this] at e
    exact e
   ·omega
  ·by_cases hr:k∈dN h.af
   ·obtain⟨i,_,sr,q1,_,q3,_⟩:=hrowi k hr
    have:=PY hkeep q1 q3
    rcases this with this | this
    ·omega
    ·subst this
     exact hρrow i k _ q1 q3
   ·show ρ'' k=ρ k
    simp only[ρ'',hpn k hb,hsrcnone k hr,aC hk']
 ·obtain⟨k,hk⟩:=hb
  rcases hHas k b hk with⟨_,_,hh⟩ | ⟨_,k',_,_,hh,_⟩
  ·exact hR.xc b hh.kn
  ·exact hR.xc b hh.kn
theorem Jz{h:Hint}{f:yK h.af→Option R}(hex:ρ0.ex=[])(hR:Rel w0 F Xc ρ0 ρ st a w)(hf:HO h st f=some r):
 ∃t,f t=some r∧∃ρ'',Rel w0 F Xc ρ0 ρ'' (fS h st.np st.env.length st.ae.length t) a w:=by
 obtain⟨t,h1,_,ρ'',_,h2⟩:=LR hex hR hf
 exact⟨t,h1,ρ'',h2⟩
def vL:List It→List Nat
 | []=>[]
 | .slot i::l=>i::vL l
 | .av i _::l=>i::vL l
 | .box _ _::l=>vL l
 | .cw i _ _::l=>i::vL l
theorem kO{α:Type}{l l':List α}{n j:Nat}{d:α}(hl:n≤l.length)(hl':n≤l'.length)(h:∀i,i<n→l[i]?=l'[i]?):∀i,i<n→(l.set j d)[i]?=(l'.set j d)[i]?:=fun i hi=>by
 rw[qO,qO]
 by_cases hj:j=i
 ·rw[aC hj,aC hj,aC (by omega),aC (by omega)]
 ·rw[aA hj,aA hj,h i hi]
theorem vM{n m:Nat}:∀(items:List It) (cs:List C) (s s':St),n≤s.env.length→n≤s'.env.length→m≤s.ae.length→m≤s'.ae.length→(∀i,i<n→s.env[i]?=s'.env[i]?)→(∀i,i<m→s.ae[i]?=s'.ae[i]?) →
 (∀i,i<n→(fO items cs s).env[i]?=(fO items cs s').env[i]?)∧∀i,i<m→(fO items cs s).ae[i]?=(fO items cs s').ae[i]?
 | [],_,s,s',_,_,_,_,h1,h2=>⟨h1,h2⟩
 | .slot i::l,cs,s,s',e1,e2,e3,e4,h1,h2=>vM l _ { s with env:=s.env.set i _ } { s' with env:=s'.env.set i _ } (by simpa using e1) (by simpa using e2) e3 e4 (kO e1 e2 h1) h2
 | .av i n::l,cs,s,s',e1,e2,e3,e4,h1,h2=>vM l _ { s with env:=s.env.set i _ } { s' with env:=s'.env.set i _ } (by simpa using e1) (by simpa using e2) e3 e4 (kO e1 e2 h1) h2
 | .box k n::l,cs,s,s',e1,e2,e3,e4,h1,h2=>vM l _ { s with ae:=s.ae.set k _ } { s' with ae:=s'.ae.set k _ } e1 e2 (by simpa using e3) (by simpa using e4) h1 (kO e3 e4 h2)
 | .cw i k n::l,cs,s,s',e1,e2,e3,e4,h1,h2=>vM l _ { s with env:=s.env.set i _,ae:=s.ae.set k _ } { s' with env:=s'.env.set i _,ae:=s'.ae.set k _ } (by simpa using e1) (by simpa using e2) (by simpa using e3) (by simpa using e4) (kO e1 e2 h1) (kO e3 e4 h2)
theorem JT{m:Nat}:∀(l:List (Nat×O)) (o o':List O),m≤o.length→m≤o'.length→(∀i,i<m→o[i]?=o'[i]?)→∀i,i<m→(qF o l)[i]?=(qF o' l)[i]?
 | [],_,_,_,_,h=>h
 | p::l,o,o',e1,e2,h=>JT l _ _ (by simpa using e1) (by simpa using e2) (kO e1 e2 h)
theorem MY{h:Hint}{np n n' m m':Nat}{t:yK h.af}(hn:n≤n')(hm:m≤m')(hnp:np≤m):
 (∀i,i<n→(fS h np n m t).env[i]?=(fS h np n' m' t).env[i]?)∧∀i,i<m→(fS h np n m t).ae[i]?=(fS h np n' m' t).ae[i]?:=by
 have h1:(mQ np n m).env.length=n:=by simp[mQ]
 have h2:(mQ np n' m').env.length=n':=by simp[mQ]
 have h3:(mQ np n m).ae.length=m:=by simp[mQ];omega
 have h4:(mQ np n' m').ae.length=m':=by simp[mQ];omega
 obtain⟨a1,a2⟩:=vM (n:=n) (m:=m) h.items (BT h.af t) (mQ np n m) (mQ np n' m') (by omega) (by omega) (by omega) (by omega)
  (fun i hi=>by simp only[mQ,KZ];rw[aC hi,aC (by omega)])
  (fun i hi=>by rw[AK hnp,AK (by omega)];by_cases hk:i<np <;> simp[hk,hi];omega)
 refine⟨a1,JT _ _ _ ?_ ?_ a2⟩
 ·rw[(qI _ _ _).2.2,h3];exact gB _
 ·rw[(qI _ _ _).2.2,h4];exact hm
theorem yA:∀(items:List It) (cs:List C) (s:St) (i:Nat),i∉vL items→(fO items cs s).env[i]?=s.env[i]?
 | [],_,_,_,_=>rfl
 | .slot j::l,cs,s,i,h=>by
  simp only[vL,cJ,DW] at h
  simp only[fO]
  rw[yA l _ _ i h.2,fK (fun e=>h.1 e.symm)]
 | .av j n::l,cs,s,i,h=>by
  simp only[vL,cJ,DW] at h
  simp only[fO]
  rw[yA l _ _ i h.2,fK (fun e=>h.1 e.symm)]
 | .box k n::l,cs,s,i,h=>by
  simp only[vL] at h
  simp only[fO]
  rw[yA l _ _ i h]
 | .cw j k n::l,cs,s,i,h=>by
  simp only[vL,cJ,DW] at h
  simp only[fO]
  rw[yA l _ _ i h.2,fK (fun e=>h.1 e.symm)]
theorem C7{h:Hint}{np n m:Nat}{t:yK h.af}(hm:np≤m):(fS h np n m t).np=np∧(fS h np n m t).env.length=n∧(fS h np n m t).ae.length=m:=by
 obtain⟨h1,h2,h3⟩:=qI h.items (BT h.af t) (mQ np n m)
 refine⟨h1,h2.trans (by simp[mQ]),?_⟩
 show (qF _ _).length=_
 rw[MW,h3]
 simp[mQ];omega
theorem GQ{R:Type}{h:Hint}{st:St}(f:yK h.af→Option R):HO h st f=(HO h st some).bind f:=by
 unfold HO
 split
 ·dsimp only
  refine(JS _ _ _).trans (tP ?_ (fG (fun z:Option (yK h.af)=>z.bind f) (JS _ _ _)).symm)
  rw[gD]
  refine fG _ (funext fun p=>?_)
  split <;> rfl
 ·rfl
end
inductive Pos where
 | slot (i:Nat)
 | agg (i j:Nat)
 | box (k j:Nat)
 | cw (i j:Nat)
def Vk:It→List Pos
 | .slot i=>[.slot i]
 | .av i n=>(List.range n).map fun j=>.agg i j
 | .box k n=>(List.range n).map fun j=>.box k j
 | .cw i _ n=>(List.range n).map fun j=>.cw i j
def St.at(st:St):Pos→Option C
 | .slot i=>match st.env[i]? with
  | some (.s (.c c))=>some c
  | _=>none
 | .agg i j=>match st.env[i]? with
  | some (.s (.agg l))=>l[j]?
  | _=>none
 | .box k j=>match st.ae[k]? with
  | some (.box l)=>l[j]?
  | _=>none
 | .cw i j=>match st.env[i]? with
  | some (.s (.c (.box k 0)))=>match st.ae[k]? with
   | some (.box l)=>l[j]?
   | _=>none
  | _=>none
def St.wr(st:St)(c:C):Pos→St
 | .slot i=>{ st with env:=st.env.set i (.s (.c c)) }
 | .agg i j=>match st.env[i]? with
  | some (.s (.agg l))=>{ st with env:=st.env.set i (.s (.agg (l.set j c))) }
  | _=>st
 | .box k j=>match st.ae[k]? with
  | some (.box l)=>{ st with ae:=st.ae.set k (.box (l.set j c)) }
  | _=>st
 | .cw i j=>match st.env[i]? with
  | some (.s (.c (.box k 0)))=>match st.ae[k]? with
   | some (.box l)=>{ st with ae:=st.ae.set k (.box (l.set j c)) }
   | _=>st
  | _=>st
def XS(st:St)(p:Pos)(s:Sh):St:=match s with
 | .row e n _=>match st.at p with
  | some (.cut key m lo len _)=>match st.ae[key]? with
   | some (.row false e' n' es)=>if e'=e∧n'=n∧m=n then match AB st with
    | some K=>St.wr { st with ae:=(st.ae.set key .dead).set K (.row false e n (oC es lo len)) } (.row K) p
    | none=>st
    else st
   | _=>st
  | _=>st
 | _=>st
def NB(st:St):List Pos→List Sh→St
 | p::ps,s::ss=>NB (XS st p s) ps ss
 | _,_=>st
def Gh(h:Hint)(st:St):St:=NB st (h.items.flatMap Vk) h.af
theorem Tc(st:St)(c:C)(p:Pos):(st.wr c p).np=st.np∧(st.wr c p).env.length=st.env.length∧(st.wr c p).ae.length=st.ae.length:=by
 unfold St.wr
 cases p <;> dsimp only <;> repeat' (first | split | exact⟨rfl,rfl,rfl⟩ | exact⟨rfl,dP ..,rfl⟩ | exact⟨rfl,rfl,dP ..⟩)
theorem Ka(st:St)(p:Pos)(s:Sh):(XS st p s).np=st.np∧(XS st p s).env.length=st.env.length∧(XS st p s).ae.length=st.ae.length:=by
 unfold XS
 repeat' (first | split | exact⟨rfl,rfl,rfl⟩)
 obtain⟨h1,h2,h3⟩:=Tc { st with ae:=_ } _ p
 exact⟨h1,h2,by rw[h3];simp⟩
theorem XT:∀(ps:List Pos) (ss:List Sh) (st:St),(NB st ps ss).np=st.np∧(NB st ps ss).env.length=st.env.length∧(NB st ps ss).ae.length=st.ae.length
 | [],_,st=>by unfold NB;exact⟨rfl,rfl,rfl⟩
 | p::ps,[],st=>by unfold NB;exact⟨rfl,rfl,rfl⟩
 | p::ps,s::ss,st=>by
  unfold NB
  obtain⟨h1,h2,h3⟩:=XT ps ss (XS st p s)
  obtain⟨g1,g2,g3⟩:=Ka st p s
  exact⟨h1.trans g1,h2.trans g2,h3.trans g3⟩
theorem XU(h:Hint)(st:St):(Gh h st).np=st.np∧(Gh h st).env.length=st.env.length∧(Gh h st).ae.length=st.ae.length:=XT _ _ st
section
variable {w0 w:World} {F Xc:Nat→Prop} {ρ0:cq} {ρ:nP} {st:St} {a:Act}
theorem bw.set{X:Nat→Prop}{l:List C}{ys:List Value}(h:bw w X ρ l ys){j:Nat}{c:C}(hc:∀y,ys[j]?=some y→cm w X ρ c y):bw w X ρ (l.set j c) ys:=by
 refine⟨by simp[h.1],fun i c' y h1 h2=>?_⟩
 rw[qO] at h1
 split at h1
 ·rename_i e
  subst e
  split at h1
  ·cases h1;exact hc y h2
  ·cases h1
 ·exact h.2 i c' y h1 h2
theorem Rel.oa(h:Rel w0 F Xc ρ0 ρ st a w){k:Nat}{l l':List C}(ho:st.ae[k]?=some (.box l))(hs:cd l l')(hl:∀v g ys ty,ρ k=some v→v=.pointer (some ⟨g,0,none⟩)→w.heap[g]?=some (.cells ys ty (0,0))→bw w (XB st.ae ρ Xc) ρ l ys.toList→bw w (XB st.ae ρ Xc) ρ l' ys.toList):
 Rel w0 F Xc ρ0 ρ { st with ae:=st.ae.set k (.box l') } a w:=by
 have hlt:k<st.ae.length:=(dL.1 ho).1
 obtain⟨v,e1,g,ys,ty,e2,e3,e4,e5⟩:=h.ae k _ ho
 have hH:∀b,Has (st.ae.set k (.box l')) ρ k b→Has st.ae ρ k b:=fun b ⟨o',v',q1,q2,q3,q4⟩=>⟨_,v',ho,rfl,q3,q4⟩
 have hs0:cg (fun _=>False) w w:=.refl _ w
 refine h.change (st.ae.set k (.box l')) ρ (·=k) hs0 (fun j hj=>⟨by rw[fK (fun e=>hj e.symm)],rfl⟩) (.refl _) (fun _ hb=>hb.elim)
  (fun j b hj hh=>?_) (fun j j' b hj hj' _ _=>hj.trans hj'.symm) (fun hX j o' hj hoj=>?_) (fun _ _=>rfl)
 ·subst hj;exact .inl ⟨j,rfl,hH b hh⟩
 ·subst hj
  rw[iJ hlt] at hoj
  cases hoj
  exact⟨v,e1,g,ys,ty,e2,e3,hs.head e4,(hl v g ys ty e1 e2 e3 e5).step hs0 (fun _ h=>h.elim) hX (.refl _)⟩
theorem cd.setRow{l:List C}{j K:Nat}:cd l (l.set j (.row K)):=fun i t hi=>by
 rw[qO] at hi
 split at hi
 ·split at hi <;> cases hi
 ·exact hi
theorem Pe(h:Rel w0 F Xc ρ0 ρ st a w)(p:Pos)(s:Sh):∃ρ',Rel w0 F Xc ρ0 ρ' (XS st p s) a w:=by
 unfold XS
 split
 case h_2=>exact⟨ρ,h⟩
 rename_i e n _
 split
 case h_2=>exact⟨ρ,h⟩
 rename_i key m lo len tg hat
 split
 case h_2=>exact⟨ρ,h⟩
 rename_i e' n' es hob
 split
 case isFalse=>exact⟨ρ,h⟩
 rename_i hcond
 obtain⟨rfl,rfl,rfl⟩:=hcond
 split
 case h_2=>exact⟨ρ,h⟩
 rename_i K hK
 obtain⟨k1,k2⟩:=MN hK
 have hklt:key<st.ae.length:=(dL.1 hob).1
 have hKk:K≠key:=fun e=>by rw[e,hob] at k2;cases k2
 have step:∀y,cm w (XB st.ae ρ Xc) ρ (.cut key m lo len tg) y→∃ρ',Rel w0 F Xc ρ0 ρ' { st with ae:=(st.ae.set key .dead).set K (.row false e' m (oC es lo len)) } a w∧ρ' K=some y∧gj ρ ρ'∧y.oneCell'=true:=by
  intro y hy
  rcases hy with hy | ⟨⟨v,q1,q2⟩,h1⟩
  ·cases hy
  obtain⟨hv,e1,e2⟩:=h.ae key _ hob
  rw[q1] at e1
  cases e1
  obtain⟨hlen,huc,_,_⟩:=GI e2 q2
  obtain⟨h0,hu0,⟨xs,hown0,hr0⟩,_⟩:=e2
  obtain⟨d,rfl⟩:∃d,K=st.np+d:=⟨K-st.np,by omega⟩
  obtain⟨ρ',r1,r2,r3⟩:=O8 h h0 hob q1 (fun b hb=>q2.bq hb) w d (oC es lo len) y _ (by rw[fK (fun e=>hKk e.symm)];exact k2) (by rw[hlen];exact q2.row hown0) huc (World.grownBy.refl w _) (.inl rfl) (by
   have hfl:flat (oC es lo len)=((flat es).drop (lo*m)).take (len*m):=by unfold oC;rw[(hu0.drop lo).de,hu0.ct]
   rw[hfl]
   have hxl:=hr0.1
   refine⟨by simp[hxl],fun i t z h1 h2=>?_⟩
   rw[pT] at h1 h2
   split at h1
   ·rename_i hlt
    rw[aC hlt] at h2
    rw[tO] at h1 h2
    exact hr0.2 _ t z h1 h2
   ·cases h1)
  exact⟨ρ',r1,r2,r3,h1⟩
 have other:∀(k:Nat) (l:List C),st.ae[k]?=some (.box l)→((st.ae.set key .dead).set K (.row false e' m (oC es lo len)))[k]?=some (.box l):=fun k l hk=>by
  have h1:K≠k:=fun e=>by rw[e,hk] at k2;cases k2
  have h2:key≠k:=fun e=>by rw[e,hk] at hob;cases hob
  rw[fK h1,fK h2];exact hk
 have boxcase:∀(k:Nat) (l:List C) (j:Nat),st.ae[k]?=some (.box l)→l[j]?=some (.cut key m lo len tg) →
  ∃ρ',Rel w0 F Xc ρ0 ρ' { st with ae:=((st.ae.set key .dead).set K (.row false e' m (oC es lo len))).set k (.box (l.set j (.row K))) } a w:=by
  intro k l j hk hj
  obtain⟨v,e1,g,ys,ty,e2,e3,e4,e5⟩:=h.ae k _ hk
  have hjl:j<ys.toList.length:=by rw[e5.1];exact(dL.1 hj).1
  obtain⟨ρ',r1,r2,r3,r4⟩:=step _ (e5.2 j _ _ hj (dH hjl))
  refine⟨ρ',r1.oa (other k l hk) cd.setRow fun v' g' ys' ty' f1 f2 f3 f4=>f4.set fun y hy=>?_⟩
  rw[r3 _ _ e1] at f1
  cases f1
  rw[e2] at f2
  cases f2
  rw[e3] at f3
  cases f3
  rw[dH hjl] at hy
  cases hy
  exact .inr ⟨r2,r4⟩
 cases p with
 | slot i=>
  simp only[St.at] at hat
  split at hat
  ·rename_i c hi
   cases hat
   have hil:i<a.tmps.size:=by rw[h.len];exact(dL.1 hi).1
   obtain⟨ρ',r1,r2,r3,r4⟩:=step _ (h.env i _ _ hi (uV hil))
   refine⟨ρ',r1.slot (d:=.s (.c (.row K))) fun y hy=>?_⟩
   rw[uV hil] at hy
   cases hy
   exact .inr ⟨r2,r4⟩
  ·cases hat
 | agg i j=>
  simp only[St.at] at hat
  split at hat
  ·rename_i l hi
   have hil:i<a.tmps.size:=by rw[h.len];exact(dL.1 hi).1
   have hd:=h.env i _ _ hi (uV hil)
   obtain⟨cs,hcs,hl⟩:=hd
   have hjl:j<cs.toList.length:=by rw[hl.1];exact(dL.1 hat).1
   obtain⟨ρ',r1,r2,r3,r4⟩:=step _ (hl.2 j _ _ hat (dH hjl))
   have hd':=r1.env i _ _ hi (uV hil)
   obtain⟨cs',hcs',hl'⟩:=hd'
   rw[hcs] at hcs'
   cases hcs'
   simp only[St.wr,hi]
   refine⟨ρ',r1.slot (d:=.s (.agg (l.set j (.row K)))) fun y hy=>?_⟩
   rw[uV hil] at hy
   cases hy
   refine⟨cs,hcs,hl'.set fun y hy=>?_⟩
   rw[dH hjl] at hy
   cases hy
   exact .inr ⟨r2,r4⟩
  ·cases hat
 | box k j=>
  simp only[St.at] at hat
  split at hat
  ·rename_i l hk
   have ho:=other k l hk
   simp only[St.wr,ho]
   exact boxcase k l j hk hat
  ·cases hat
 | cw i j=>
  simp only[St.at] at hat
  split at hat
  ·rename_i k hi
   split at hat
   ·rename_i l hk
    have ho:=other k l hk
    simp only[St.wr,hi,ho]
    exact boxcase k l j hk hat
   ·cases hat
  ·cases hat
theorem Da:∀(ps:List Pos) (ss:List Sh) {st:St} {ρ:nP},Rel w0 F Xc ρ0 ρ st a w→∃ρ',Rel w0 F Xc ρ0 ρ' (NB st ps ss) a w
 | [],_,st,ρ,h=>by unfold NB;exact⟨ρ,h⟩
 | p::ps,[],st,ρ,h=>by unfold NB;exact⟨ρ,h⟩
 | p::ps,s::ss,st,ρ,h=>by
  unfold NB
  obtain⟨ρ1,h1⟩:=Pe h p s
  exact Da ps ss h1
theorem Db(hh:Hint)(h:Rel w0 F Xc ρ0 ρ st a w):∃ρ',Rel w0 F Xc ρ0 ρ' (Gh hh st) a w:=Da _ _ h
end
inductive ee where
 | normal
 | exit (id:Nat)
 | ret
 deriving DecidableEq
def ee.ex:ee→Exit
 | .normal=>.normal
 | .exit id=>.exit id
 | .ret=>.ret
inductive bj where
 | skip
 | ret
 | exit (id:Nat)
 | region (id:Nat) (ops:Array Oper) (draw:Bool)
 | seq (x y:bj)
 | cond (c:Operand) (x y:bj)
 | block (id:Nat) (x:bj)
 | scope (x:bj)
 | label (l:Nat)
 | loop (h:Hint) (xs:List (ee×Hint)) (x:bj)
 | join (xs:List (ee×Hint)) (x:bj)
 | kr (n:Nat) (x:bj)
def bj.code:bj→Code
 | .skip=>.skip
 | .ret=>.ret
 | .exit id=>.exit id
 | .region id ops draw=>.region id ops draw
 | .seq x y=>.seq x.code y.code
 | .cond c x y=>.cond c x.code y.code
 | .block id x=>.block id x.code
 | .scope x=>.scope x.code
 | .label l=>.label l
 | .loop _ _ x=>.loop x.code
 | .join _ x=>x.code
 | .kr _ x=>.loop x.code
def bj.flat:bj→Bool
 | .seq x y=>x.flat&&y.flat
 | .cond _ x y=>x.flat&&y.flat
 | .block _ x=>x.flat
 | .scope x=>x.flat
 | .loop _ _ _=>false
 | .join _ _=>false
 | .kr _ x=>x.flat
 | _=>true
def C8{S E:Type}(F:S→Option (S⊕E)):Nat→S→Option E
 | 0,_=>none
 | n+1,s=>match F s with
  | some (.inl s')=>C8 F n s'
  | some (.inr e)=>some e
  | none=>none
open Classical in
noncomputable def bU{S E:Type}(F:S→Option (S⊕E))(s:S):Option E:=if h:∃n e,C8 F n s=some e then C8 F (Classical.choose h) s else none
theorem S6{S E:Type}{F:S→Option (S⊕E)}:∀{n:Nat} {s:S} {e:E},C8 F n s=some e→C8 F (n+1) s=some e
 | 0,s,e,h=>by simp[C8] at h
 | n+1,s,e,h=>by
  rw[C8] at h ⊢
  split at h
  ·exact S6 h
  ·exact h
  ·cases h
theorem Dc{S E:Type}{F:S→Option (S⊕E)}{n m:Nat}{s:S}{e:E}(h:C8 F n s=some e)(hm:n≤m):C8 F m s=some e:=by
 obtain⟨d,rfl⟩:=Nat.le.dest hm
 induction d with
 | zero=>exact h
 | succ d ih=>exact S6 (ih (HC _ _))
theorem wV{S E:Type}{F:S→Option (S⊕E)}{s:S}{e:E}:bU F s=some e↔∃n,C8 F n s=some e:=by
 unfold bU
 constructor
 ·intro h
  split at h
  ·exact⟨_,h⟩
  ·cases h
 ·rintro ⟨n,h⟩
  have hex:∃n e,C8 F n s=some e:=⟨n,e,h⟩
  rw[I8 hex]
  obtain⟨e',he'⟩:=I9 hex
  have h1:=Dc he' (Nat.le_max_left (Classical.choose hex) n)
  have h2:=Dc h (Nat.le_max_right (Classical.choose hex) n)
  rw[he']
  rw[h1] at h2
  exact h2
theorem XV{S E:Type}(F:S→Option (S⊕E))(s:S):bU F s=match F s with
 | some (.inl s')=>bU F s'
 | some (.inr e)=>some e
 | none=>none:=by
 cases hF:F s with
 | none=>
  cases hl:bU F s with
  | none=>rfl
  | some e=>
   obtain⟨n,hn⟩:=wV.1 hl
   cases n with
   | zero=>simp[C8] at hn
   | succ n=>simp[C8,hF] at hn
 | some x=>
  cases x with
  | inr e=>exact wV.2 ⟨1,by simp[C8,hF]⟩
  | inl s'=>
   simp only
   cases hl:bU F s' with
   | some e=>
    obtain⟨n,hn⟩:=wV.1 hl
    exact wV.2 ⟨n+1,by simp[C8,hF,hn]⟩
   | none=>
    cases hl2:bU F s with
    | none=>rfl
    | some e=>
     obtain⟨n,hn⟩:=wV.1 hl2
     cases n with
     | zero=>simp[C8] at hn
     | succ n=>
      simp only[C8,hF] at hn
      rw[wV.2 ⟨n,hn⟩] at hl;cases hl
def EP:List (ee×Hint)→Type
 | []=>Empty
 | p::l=>yK p.2.af⊕EP l
section
variable {R:Type}
def S7(np n m:Nat)(h:Hint)(st:St)(f:yK h.af→Option R):Option R:=if st.np=np∧st.env.length=n∧st.ae.length=m then HO h (Gh h st) f else none
def PZ(np n m:Nat):(xs:List (ee×Hint))→ee→St→(EP xs→Option R)→Option R
 | [],_,_,_=>none
 | p::l,x,st,f=>if p.1=x then S7 np n m p.2 st fun t=>f (.inl t) else PZ np n m l x st fun q=>f (.inr q)
def gG{α β:Type}(q:α⊕β)(f:α→Option R)(g:β→Option R):Option R:=match q with
 | .inl t=>f t
 | .inr q=>g q
def iI(_:Empty):Option R:=none
def NY(np n m:Nat):(xs:List (ee×Hint))→EP xs→(ee→St→Option R)→Option R
 | [],q,_=>iI q
 | p::l,q,k=>gG (α:=yK p.2.af) (β:=EP l) q (fun t=>k p.1 (fS p.2 np n m t)) fun q=>NY np n m l q k
end
open Classical in
noncomputable def P0{R:Type}(a b:Option R):Option R:=if a=b then a else none
theorem Ar{R:Type}{a b:Option R}{r:R}(h:P0 a b=some r):a=some r∧b=some r:=by
 unfold P0 at h
 split at h
 ·rename_i e;exact⟨h,e▸h⟩
 ·cases h
def Kb{R:Type}(F:St→(ee→St→Option R)→Option R):Nat→St→(ee→St→Option R)→Option R
 | 0,_,_=>none
 | n+1,st,k=>F st fun e st'=>match e with
  | .normal=>Kb F n st' k
  | e=>k e st'
noncomputable def Kc{R:Type}(fe:Bool)(d:D)(a b:Option R):Option R:=match fe,d with
 | true,.s (.c .fe)=>P0 a b
 | _,d=>RW d fun q=>bif q then a else b
section
variable (P:Program) (Γ:FuncId→Option Callee) (dok:Array Oper→Bool) (np n m:Nat) (fe:Bool)
noncomputable def lQ:bj→(R:Type)→St→(ee→St→Option R)→Option R
 | .skip,_,st,k=>k .normal st
 | .ret,_,st,k=>k .ret st
 | .exit id,_,st,k=>k (.exit id) st
 | .region _ ops draw,_,st,k=>if draw=false∨dok ops=true then JP P Γ ops (List.range ops.size) st fun st=>k .normal st else none
 | .seq x y,R,st,k=>lQ x R st fun e st=>match e with
  | .normal=>lQ y R st k
  | e=>k e st
 | .cond c x y,R,st,k=>Kc fe (ev st c) (lQ x R st k) (lQ y R st k)
 | .block id x,R,st,k=>lQ x R st fun e st=>match e with
  | .exit j=>if j=id then k .normal st else k (.exit j) st
  | e=>k e st
 | .scope x,R,st,k=>lQ x R st k
 | .label _,_,st,k=>k .normal st
 | .loop h xs x,R,st,k=>S7 np n m h st fun s0=>ob (bU (fun s=>lQ x (yK h.af⊕EP xs) (fS h np n m s) fun e st'=>match e with
  | .normal=>S7 np n m h st' fun s'=>some (.inl s')
  | e=>PZ np n m xs e st' fun q=>some (.inr q)) s0) fun q=>NY np n m xs q k
 | .join xs x,R,st,k=>ob (lQ x (EP xs) st fun e st'=>PZ np n m xs e st' some) fun q=>NY np n m xs q k
 | .kr i x,R,st,k=>Kb (fun st k=>lQ x R st k) i st k
end
section
variable {R:Type} {P:Program} {Γ:FuncId→Option Callee} {dok:Array Oper→Bool} {w0:World} {F Xc:Nat→Prop} {ρ0:cq} {r:R}
def U8(P:Program)(Γ:FuncId→Option Callee)(dok:Array Oper→Bool):Prop:=
 ∀(ops:Array Oper),dok ops=true→∀{R:Type} (w0:World) (F Xc:Nat→Prop) (ρ0:cq) (ρ:nP) (st:St) (a:Act) (w:World) (k:St→Option R) (r:R) (Q:Exit→Act→World→Prop) (t:Nat),
  Good P w0 F→Rel w0 F Xc ρ0 ρ st a w→JP P Γ ops (List.range ops.size) st k=some r→(∀ρ' st' a' w',Rel w0 F Xc ρ0 ρ' st' a' w'→k st'=some r→Q .normal a' w') →
  wpOps P ops Q (Region.schedule (P.follows .mixedOrders) ops t) a w
theorem P3{np n m:Nat}{h:Hint}{f:yK h.af→Option R}{st:St}{ρ:nP}{a:Act}{w:World}(hex:ρ0.ex=[])(hR:Rel w0 F Xc ρ0 ρ st a w)(hf:S7 np n m h st f=some r):
 ∃t,f t=some r∧∃ρ'',Rel w0 F Xc ρ0 ρ'' (fS h np n m t) a w:=by
 unfold S7 at hf
 split at hf
 ·rename_i hd
  obtain⟨h1,h2,h3⟩:=hd
  subst h1;subst h2;subst h3
  obtain⟨ρ1,hR1⟩:=Db h hR
  obtain⟨e1,e2,e3⟩:=XU h st
  have:=Jz hex hR1 hf
  rw[e1,e2,e3] at this
  exact this
 ·cases hf
theorem JU{np n m:Nat}(hex:ρ0.ex=[]):∀(xs:List (ee×Hint)) (e:ee) (st:St) (f:EP xs→Option R) {ρ:nP} {a:Act} {w:World},Rel w0 F Xc ρ0 ρ st a w →
 PZ np n m xs e st f=some r→∃q,f q=some r∧∃ρ'' st'',Rel w0 F Xc ρ0 ρ'' st'' a w∧∀{R':Type} (k:ee→St→Option R'),NY np n m xs q k=k e st''
 | [],e,st,f,ρ,a,w,h,hf=>by simp[PZ] at hf
 | p::l,e,st,f,ρ,a,w,h,hf=>by
  simp only[PZ] at hf
  split at hf
  ·rename_i he
   obtain⟨t,ht,ρ'',hR⟩:=P3 hex h hf
   exact⟨.inl t,ht,ρ'',_,hR,fun k=>by subst he;rfl⟩
  ·obtain⟨q,hq,ρ'',st'',hR,hk⟩:=JU hex l e st _ h hf
   exact⟨.inr q,hq,ρ'',st'',hR,fun k=>hk k⟩
theorem pH{np n m:Nat}{fe:Bool}(hΓ:jc P Γ)(hD:U8 P Γ dok)(hG:Good P w0 F):∀(c:bj) (_:ρ0.ex=[]∨c.flat=true) (R:Type) (r:R) {ρ:nP} {st:St} {a:Act} {w:World} {k:ee→St→Option R} {Q:Exit→Act→World→Prop},Rel w0 F Xc ρ0 ρ st a w →
 lQ P Γ dok np n m fe c R st k=some r→(∀ρ' st' a' w' e,Rel w0 F Xc ρ0 ρ' st' a' w'→k e st'=some r→Q e.ex a' w')→c.code.wp P Q a w
 | .skip,hx,R,r,ρ,st,a,w,k,Q,h,hk,hn=>wp_skip (hn ρ st a w .normal h hk)
 | .ret,hx,R,r,ρ,st,a,w,k,Q,h,hk,hn=>wp_ret (hn ρ st a w .ret h hk)
 | .exit id,hx,R,r,ρ,st,a,w,k,Q,h,hk,hn=>wp_exit (hn ρ st a w (.exit id) h hk)
 | .region id ops draw,hx,R,r,ρ,st,a,w,k,Q,h,hk,hn=>by
  simp only[lQ] at hk
  split at hk
  ·rename_i hd
   cases draw with
   | false=>exact wp_region (zC hΓ hG _ h hk fun ρ' st' a' w' hR hk'=>hn ρ' st' a' w' .normal hR hk')
   | true=>
    have hd':dok ops=true:=by rcases hd with hd | hd;cases hd;exact hd
    refine wp_region_draw fun t=>?_
    exact hD ops hd' w0 F Xc ρ0 ρ st a _ (fun st=>k .normal st) r Q t hG (h.world (cg.drew _ w)) hk fun ρ' st' a' w' hR hk'=>hn ρ' st' a' w' .normal hR hk'
  ·cases hk
 | .seq x y,hx,R,r,ρ,st,a,w,k,Q,h,hk,hn=>by
  simp only[lQ] at hk
  refine wp_seq (pH hΓ hD hG x (hx.imp (fun h=>h) fun hf=>(iC.1 (show (x.flat&&y.flat)=true from hf)).1) R r h hk fun ρ' st' a' w' e hR hk'=>?_)
  cases e with
  | normal=>exact pH hΓ hD hG y (hx.imp (fun h=>h) fun hf=>(iC.1 (show (x.flat&&y.flat)=true from hf)).2) R r hR hk' hn
  | exit id=>exact hn ρ' st' a' w' (.exit id) hR hk'
  | ret=>exact hn ρ' st' a' w' .ret hR hk'
 | .cond c x y,hx,R,r,ρ,st,a,w,k,Q,h,hk,hn=>by
  simp only[lQ] at hk
  unfold Kc at hk
  split at hk
  ·rename_i hd
   obtain⟨k1,k2⟩:=Ar hk
   have hc:=h.ev c
   rw[hd] at hc
   rcases hc with hc | ⟨⟨b,hb⟩,_⟩
   ·cases hc
   ·cases b with
    | true=>exact wp_cond_true hb (pH hΓ hD hG x (hx.imp (fun h=>h) fun hf=>(iC.1 (show (x.flat&&y.flat)=true from hf)).1) R r h k1 hn)
    | false=>exact wp_cond_false hb (pH hΓ hD hG y (hx.imp (fun h=>h) fun hf=>(iC.1 (show (x.flat&&y.flat)=true from hf)).2) R r h k2 hn)
  obtain⟨b,hb,hk1⟩:=BN (h.ev c) hk
  cases b with
  | true=>exact wp_cond_true hb (pH hΓ hD hG x (hx.imp (fun h=>h) fun hf=>(iC.1 (show (x.flat&&y.flat)=true from hf)).1) R r h hk1 hn)
  | false=>exact wp_cond_false hb (pH hΓ hD hG y (hx.imp (fun h=>h) fun hf=>(iC.1 (show (x.flat&&y.flat)=true from hf)).2) R r h hk1 hn)
 | .block id x,hx,R,r,ρ,st,a,w,k,Q,h,hk,hn=>by
  simp only[lQ] at hk
  refine wp_block (pH hΓ hD hG x (hx.imp (fun h=>h) fun hf=>(show x.flat=true from hf)) R r h hk fun ρ' st' a' w' e hR hk'=>?_)
  cases e with
  | normal=>exact hn ρ' st' a' w' .normal hR hk'
  | exit j=>
   simp only at hk'
   show if j=id then Q .normal a' w' else Q (.exit j) a' w'
   split
   ·rename_i hj;rw[aC hj] at hk';exact hn ρ' st' a' w' .normal hR hk'
   ·rename_i hj;rw[aA hj] at hk';exact hn ρ' st' a' w' (.exit j) hR hk'
  | ret=>exact hn ρ' st' a' w' .ret hR hk'
 | .scope x,hx,R,r,ρ,st,a,w,k,Q,h,hk,hn=>by
  simp only[lQ] at hk
  exact wp_scope_straight (pH hΓ hD hG x (hx.imp (fun h=>h) fun hf=>(show x.flat=true from hf)) R r h hk fun ρ' st' a' w' e hR hk'=>by
   have:=hn ρ' st' a' w' e hR hk'
   cases e <;> exact this)
 | .label l,hx,R,r,ρ,st,a,w,k,Q,h,hk,hn=>wp_label (hn ρ st a w .normal h hk)
 | .loop hh xs x,hx,R,r,ρ,st,a,w,k,Q,h,hk,hn=>by
  have hex:ρ0.ex=[]:=hx.resolve_right (by simp[bj.flat])
  simp only[lQ] at hk
  obtain⟨s0,hk1,ρ1,h1⟩:=P3 hex h hk
  obtain⟨q,hq,hk2⟩:=bO hk1
  obtain⟨i,hi⟩:=wV.1 hq
  refine wp_loop_rounds i ?_
  clear hk hk1 hq h
  induction i generalizing s0 ρ1 a w with
  | zero=>simp[C8] at hi
  | succ i ih=>
   rw[rounds_succ]
   rw[C8] at hi
   cases hF:(lQ P Γ dok np n m fe x (yK hh.af⊕EP xs) (fS hh np n m s0) fun e st'=>match e with
    | .normal=>S7 np n m hh st' fun s'=>some (.inl s')
    | e=>PZ np n m xs e st' fun q=>some (.inr q)) with
   | none=>rw[hF] at hi;cases hi
   | some res=>
    rw[hF] at hi
    refine pH hΓ hD hG x (.inl hex) _ res h1 hF fun ρ' st' a' w' e hR hk'=>?_
    cases e with
    | normal=>
     obtain⟨s',hs',ρ2,h2⟩:=P3 hex hR hk'
     cases hs'
     exact ih (a:=a') (w:=w') (s0:=s') (ρ1:=ρ2) h2 hi
    | exit id=>
     obtain⟨q',hq',ρ2,st2,h2,hu⟩:=JU hex xs (.exit id) st' _ hR hk'
     cases hq'
     simp only[cG] at hi
     subst hi
     rw[hu] at hk2
     exact hn ρ2 st2 a' w' (.exit id) h2 hk2
    | ret=>
     obtain⟨q',hq',ρ2,st2,h2,hu⟩:=JU hex xs .ret st' _ hR hk'
     cases hq'
     simp only[cG] at hi
     subst hi
     rw[hu] at hk2
     exact hn ρ2 st2 a' w' .ret h2 hk2
 | .join xs x,hx,R,r,ρ,st,a,w,k,Q,h,hk,hn=>by
  have hex:ρ0.ex=[]:=hx.resolve_right (by simp[bj.flat])
  simp only[lQ] at hk
  obtain⟨q,hq,hk2⟩:=bO hk
  refine pH hΓ hD hG x (.inl hex) _ q h hq fun ρ' st' a' w' e hR hk'=>?_
  obtain⟨q',hq',ρ2,st2,h2,hu⟩:=JU hex xs e st' _ hR hk'
  cases hq'
  rw[hu] at hk2
  exact hn ρ2 st2 a' w' e h2 hk2
 | .kr i x,hx,R,r,ρ,st,a,w,k,Q,h,hk,hn=>by
  simp only[lQ] at hk
  refine wp_loop_rounds i ?_
  induction i generalizing st ρ a w with
  | zero=>simp[Kb] at hk
  | succ i ih=>
   rw[rounds_succ]
   simp only[Kb] at hk
   refine pH hΓ hD hG x (hx.imp (fun h=>h) fun hf=>(show x.flat=true from hf)) R r h hk fun ρ' st' a' w' e hR hk'=>?_
   cases e with
   | normal=>exact ih (hx.imp (fun h=>h) fun hf=>(show x.flat=true from hf)) ρ' st' a' w' hR hk'
   | exit id=>exact hn ρ' st' a' w' (.exit id) hR hk'
   | ret=>exact hn ρ' st' a' w' .ret hR hk'
end
structure bt where
 na:Nat
 np:Nat
 gf:Hint
 iq:Nat
 kept:List Nat
 du:Nat
 bx:Hint
 oc:Nat
def bt.no(sg:bt):Nat:=sg.iq+sg.kept.length
def P4:List Sh→List (Option (TypeId×Nat))
 | []=>[]
 | .row e n _::l=>some (e,n)::P4 l
 | _::l=>none::P4 l
section
variable {R:Type} (P:Program) (Γ:FuncId→Option Callee) (dok:Array Oper→Bool)
def JV(st:St):List ResultVar→(List S1→Option R)→Option R
 | [],k=>k []
 | .tmp t::l,k=>match st.env.getD t D.top with
  | .s s=>JV st l fun rs=>k (s::rs)
  | _=>none
 | .cell x t::l,k=>uZ P st t (ev st (.tmp x)) fun d=>match d with
  | .s s=>JV st l fun rs=>k (s::rs)
  | _=>none
def Kd(nt:Nat)(sg:bt)(t:yK sg.gf.af):St:=fS sg.gf sg.np nt (sg.np+sg.oc) t
def Dd(ae:List O)(k:Nat):D:=match ae[k]? with
 | some (.row _ _ _ _)=>.s (.c (.row k))
 | _=>D.top
def P5(sg:bt)(rs:List S1)(ae:List O):St:={ np:=sg.np,env:=rs.map .s++sg.kept.map (Dd ae),ae:=ae }
def Td(rv:List ResultVar)(sg:bt)(st:St):Option (yK sg.bx.af):=if st.np=sg.np then JV P st rv fun rs=>if rs.length=sg.iq∧sg.np+sg.du≤st.ae.length then HO sg.bx (Gh sg.bx (P5 sg rs st.ae)) some else none else none
noncomputable def Kf(code:bj)(rv:List ResultVar)(nt:Nat)(sg:bt)(t:yK sg.gf.af):Option (yK sg.bx.af):=
 lQ P Γ dok sg.np nt (sg.np+sg.oc) true code (yK sg.bx.af) (Kd nt sg t) fun e st=>match e with
  | .exit _=>none
  | _=>Td P rv sg st
end
def XW(sg:bt)(args:List S1)(po:List O):St:={ np:=sg.np,env:=args.map .s,ae:=po }
def aE(sg:bt)(U:yK sg.gf.af→Option (yK sg.bx.af)):Callee where
 rows:=P4 sg.gf.af
 call args po k:=if args.length=sg.na∧po.length=sg.np then HO sg.gf (XW sg args po) fun t=>ob (U t) fun q=>
  match Fr ((fS sg.bx sg.np sg.no (sg.np+sg.du) q).env.take sg.iq) with
  | some rs=>k rs (fS sg.bx sg.np sg.no (sg.np+sg.du) q).ae
  | none=>none
  else none
def bt.ok(sg:bt)(nt:Nat):Bool:=
 decide (sg.na≤nt)&&(vL sg.gf.items).all (fun i=>decide (i<sg.na))&&(fP sg.bx.items++dN sg.bx.af).all (fun k=>decide (k<sg.np+sg.du))&&sg.kept.all (fun k=>decide (k<sg.np))
section
variable {R:Type} {P:Program} {w0 w:World} {F Xc X X'':Nat→Prop} {ρ0:cq} {ρ ρ'':nP} {st:St} {a:Act} {r:R}
theorem Pf(h:Rel w0 F Xc ρ0 ρ st a w)(t:Nat):bc w (XB st.ae ρ Xc) ρ (st.env.getD t D.top) (a.tmps.getD t undef):=by
 rw[jY]
 cases hd:st.env[t]? with
 | none=>exact .inl rfl
 | some d=>
  have hlt:t<a.tmps.size:=by rw[h.len];exact(dL.1 hd).1
  have e1:a.tmps[t]?=some a.tmps[t]:=uV hlt
  rw[MJ,e1]
  exact h.env t d _ hd e1
theorem As{t:TypeId}{v y:Value}{w':World}(h:(Instr.loadAt t v).run P w=.ok y w'):((asAddr v).run P w).andThen (fun a w₁=>(loadVar t a).run P w₁)=.ok y w':=by
 unfold Instr.loadAt at h
 rw[Sem.run_bind] at h
 cases v with
 | pointer p=>
  cases p with
  | none=>have h':Result.halt _ _=Result.ok y w':=h;cases h'
  | some ad=>simpa[Instr.sureAddr,asAddr] using h
 | _=>have h':Result.halt _ _=Result.ok y w':=h;cases h'
theorem NZ(h:Rel w0 F Xc ρ0 ρ st a w):∀(l:List ResultVar) (k:List S1→Option R),JV P st l k=some r →
 ∃rs vs,k rs=some r∧cz w (XB st.ae ρ Xc) ρ rs vs∧rs.length=l.length ∧
  (l.mapM (m:=Sem) fun
   | .tmp t=>pure (a.tmps.getD t undef)
   | .cell x t=>do loadVar t (←asAddr (a.tmps.getD x undef))).run P w=.ok vs w
 | [],k,hk=>⟨[],[],hk,⟨rfl,fun i s y h1 _=>by simp at h1⟩,rfl,rfl⟩
 | .tmp t::l,k,hk=>by
  simp only[JV] at hk
  split at hk
  ·rename_i s hs
   have hd:=Pf h t
   rw[hs] at hd
   obtain⟨rs,vs,q1,q2,q3,q4⟩:=NZ h l _ hk
   refine⟨s::rs,a.tmps.getD t undef::vs,q1,.cons hd q2,by simp[q3],?_⟩
   rw[ZG,Sem.run_bind]
   simp only[Sem.run_pure,Result.andThen_ok]
   rw[Sem.run_bind,q4]
   rfl
  ·cases hk
 | .cell x t::l,k,hk=>by
  simp only[JV] at hk
  have hx:=h.ev (.tmp x)
  obtain⟨d,y,e1,e2,e3⟩:=WX h hx hk
  split at e3
  ·rename_i s
   obtain⟨rs,vs,q1,q2,q3,q4⟩:=NZ h l _ e3
   refine⟨s::rs,y::vs,q1,.cons e2 q2,by simp[q3],?_⟩
   have e4:((asAddr (a.tmps.getD x undef)).run P w).andThen (fun a w₁=>(loadVar t a).run P w₁)=.ok y w:=As e1
   rw[ZG,Sem.run_bind]
   simp only[Sem.run_bind,e4,Result.andThen_ok,q4]
   rfl
  ·cases e3
theorem Rj{rs:List S1}{vs:List Value}(h:cz w X ρ rs vs):ey w X ρ rs (if h:vs.toArray.size=1 then vs.toArray[0] else .tuple vs.toArray):=by
 match rs,vs,h with
 | [],[],h=>exact⟨#[],rfl,h⟩
 | [s],[v],h=>exact h.2 0 s v rfl rfl
 | s::s'::l,v::v'::vl,h=>exact⟨(v::v'::vl).toArray,by simp,h⟩
 | [],_::_,h=>have:=h.1;simp at this
 | _::_,[],h=>have:=h.1;simp at this
 | [_],_::_::_,h=>have:=h.1;simp at this
 | _::_::_,[_],h=>have:=h.1;simp at this
end
section
variable {R:Type} {P:Program} {w0 w:World} {F Xc X X'':Nat→Prop} {ρ0:cq} {ρ ρ'':nP} {st:St} {a:Act} {r:R}
theorem Rel.bare{ae:List O}{env:List D}{vals:List Value}{np:Nat}(hlen:env.length=vals.length)(henv:∀(i:Nat) d y,env[i]?=some d→vals[i]?=some y→bc w (XB ae ρ Xc) ρ d y)
 (hok:∀(k:Nat) o,ae[k]?=some o→Uv w (XB ae ρ Xc) ρ k o) (hsep:Wy ae ρ) (hown:∀b,AZ ae ρ b→w0.heap.size≤b∨F b) (hpar:∀k,k<np→ρ k=ρ0.dw k) (hfr:cg F w0 w)
 (hxl:∀b,Xc b→b<w0.heap.size) (hxc:∀b,AZ ae ρ b→¬Xc b) (hext:∀p∈ρ0.ex,bc w (XB ae ρ Xc) ρ p.1 p.2):Rel w0 F Xc ρ0 ρ { np:=np,env:=env,ae:=ae } { tmps:=vals.toArray,defers:=[] } w:=
 ⟨by simp[hlen],fun i d y h1 h2=>henv i d y h1 (by simpa using h2),hok,hsep,hown,hpar,rfl,hfr,hxl,hxc,hext⟩
theorem Rel.mu{h:Hint}{np n n' m m':Nat}{t:yK h.af}{vals:List Value}(hR:Rel w0 F Xc ρ0 ρ (fS h np n m t) { tmps:=vals.toArray,defers:=[] } w)(hn:n≤n')(hm:m≤m')(hnp:np≤m)(hv:vals.length=n)
 (hs:∀i∈vL h.items,i<n) (hk:∀k∈fP h.items++dN h.af,k<m) (hno:∀k,m≤k→ρ k=none):
 Rel w0 F Xc ρ0 ρ (fS h np n' m' t) { tmps:=vals.toArray++Array.replicate (n'-vals.toArray.size) undef,defers:=[] } w:=by
 obtain⟨e1,e2⟩:=MY (h:=h) (t:=t) hn hm hnp
 obtain⟨l1,l2,l3⟩:=C7 (h:=h) (n:=n) (t:=t) hnp
 obtain⟨L1,L2,L3⟩:=C7 (h:=h) (n:=n') (t:=t) (show np≤m' by omega)
 have bx:∀k,m≤k→(fS h np n' m' t).ae[k]?=some .fresh∨(fS h np n' m' t).ae[k]?=none:=fun k hk'=>by
  have h1:k∉fP h.items:=fun hb=>by have:=hk k (fL.2 (.inl hb));omega
  have h2:k∉dN h.af:=fun hb=>by have:=hk k (fL.2 (.inr hb));omega
  have:(fS h np n' m' t).ae[k]?=(mQ np n' m').ae[k]?:=by
   show (qF _ _)[k]?=_
   rw[tQ _ _ k (by rw[iT];exact h2),sM h.items _ _ k h1]
  rw[this,AK (by omega),aA (by omega)]
  by_cases hkm:k<m'
  ·rw[aC hkm];exact .inl rfl
  ·rw[aA hkm];exact .inr rfl
 have hHas:∀k b,Has (fS h np n' m' t).ae ρ k b↔Has (fS h np n m t).ae ρ k b:=fun k b=>by
  by_cases hkm:k<m
  ·unfold Has;rw[e2 k hkm]
  ·constructor
   ·rintro ⟨o,v,h1,h2,h3,h4⟩
    rw[hno k (by omega)] at h3;cases h3
   ·rintro ⟨o,v,h1,h2,h3,h4⟩
    rw[hno k (by omega)] at h3;cases h3
 have hmut:∀b,AZ (fS h np n' m' t).ae ρ b↔AZ (fS h np n m t).ae ρ b:=fun b=>⟨fun⟨k,hh⟩=>⟨k,(hHas k b).1 hh⟩,fun⟨k,hh⟩=>⟨k,(hHas k b).2 hh⟩⟩
 have hXe:XB (fS h np n' m' t).ae ρ Xc=XB (fS h np n m t).ae ρ Xc:=by funext b;unfold XB;rw[propext (hmut b)]
 refine⟨by simp[L2];omega,fun i d y h1 h2=>?_,fun k o ho=>?_,fun k k' b h1 h2=>hR.sep k k' b ((hHas k b).1 h1) ((hHas k' b).1 h2),fun b hb=>hR.own b ((hmut b).1 hb),fun k hk=>?_,rfl,hR.frame,hR.jm,fun b hb=>hR.xc b ((hmut b).1 hb),fun p hp=>by rw[hXe];exact hR.ext p hp⟩
 ·rw[hXe]
  by_cases hi:i<n
  ·rw[←e1 i hi] at h1
   refine hR.env i d y h1 ?_
   rw[Array.getElem?_append_left (by simp;omega)] at h2
   exact h2
  ·have h3:(fS h np n' m' t).env[i]?=(mQ np n' m').env[i]?:=yA h.items _ _ i (fun hm=>by have:=hs i hm;omega)
   rw[h3] at h1
   simp only[mQ,KZ] at h1
   split at h1
   ·cases h1;exact .top_ y
   ·cases h1
 ·rw[hXe]
  by_cases hkm:k<m
  ·exact hR.ae k o (by rw[e2 k hkm];exact ho)
  ·rcases bx k (by omega) with hh | hh
   ·rw[hh] at ho;cases ho;exact hno k (by omega)
   ·rw[hh] at ho;cases ho
 ·rw[L1] at hk
  exact hR.par k (by rw[l1];exact hk)
theorem XX{Γ:FuncId→Option Callee}{dok:Array Oper→Bool}{f:FuncId}{fn:Func}{code:bj}{rv:List ResultVar}{nt:Nat}{sg:bt}{U:yK sg.gf.af→Option (yK sg.bx.af)}
 (hΓ:jc P Γ) (hD:U8 P Γ dok) (hf:P.funcs[f]?=some fn) (hb:fn.body=some code.code) (hnt:fn.ntmps=nt) (hrv:fn.results.toList=rv) (hs:sg.ok nt=true)
 (hU:∀t q,U t=some q→Kf P Γ dok code rv nt sg t=some q):(aE sg U).OK P f:=by
 refine⟨?_,fun I h=>(by cases h),fun I h=>(by cases h)⟩
 intro R args po k r hk
 simp only[aE] at hk
 split at hk
 case isFalse=>cases hk
 rename_i hlens
 obtain⟨hna,hnp⟩:=hlens
 unfold bt.ok at hs
 simp only[cS,bE,jF] at hs
 obtain⟨⟨⟨hs1,hs2⟩,hs3⟩,hs4⟩:=hs
 rw[GQ] at hk
 cases hpk:HO sg.gf (XW sg args po) some with
 | none=>rw[hpk] at hk;cases hk
 | some t=>
 rw[hpk] at hk
 simp only[tG] at hk
 obtain⟨q,hq,hk1⟩:=bO hk
 split at hk1
 case h_2=>cases hk1
 rename_i rs hrs
 refine⟨rs,_,hk1,?_⟩
 have hs1s:=LL hrs
 intro w Xc ρ vals hok hsep hxl hxc hgood hargs
 have hvl:vals.length=sg.na:=by rw[←hargs.1] at hna;rw[←hna,hargs.1]
 have hR0:Rel w (AZ po ρ) Xc ⟨ρ,[]⟩ ρ (XW sg args po) { tmps:=vals.toArray,defers:=[] } w:=
  Rel.bare (by rw[dM];exact hargs.1.symm) (fun i d y h1 h2=>by
   rw[fF] at h1
   cases ha:args[i]? with
   | none=>simp[ha] at h1
   | some s=>
    simp only[ha,fA,cG] at h1
    subst h1
    exact hargs.2 i s y ha h2) hok hsep (fun b hb=>.inr hb) (fun _ _=>rfl) (.refl _ _) hxl hxc (fun p hp=>by simp at hp)
 obtain⟨t',ht',hkk,ρ1,hno,hR1⟩:=LR rfl hR0 hpk
 cases ht'
 have hRel:=Rel.mu (n':=nt) (m':=sg.np+sg.oc) hR1 (by simp only[XW,dM];omega) (by simp only[XW];omega) (by simp only[XW];omega) (by simp only[XW,dM];omega)
  (fun i hi=>by have:=hs2 i hi;simp only[XW,dM];omega) hkk hno
 have hbody:=hU t q hq
 unfold Kf Kd at hbody
 rw[←hnt] at hRel hbody
 refine calls_of_wp hf hb (pH hΓ hD hgood code (.inl rfl) _ q hRel hbody fun ρ' st' a' w' e hR hk3=>?_)
 have key:Td P rv sg st'=some q→a'.defers=[]∧∃v,(results fn a'.tmps).run P w'=.ok v w'∧Ve w Xc ρ po rs (fS sg.bx sg.np sg.no (sg.np+sg.du) q).ae (.returned v) w':=by
  intro hk4
  refine⟨hR.defers,?_⟩
  unfold Td at hk4
  split at hk4
  case isFalse=>cases hk4
  rename_i hnp'
  obtain⟨Ex,vs,p1,p2,p3,p4⟩:=NZ hR rv _ hk4
  split at p1
  case isFalse=>cases p1
  rename_i hrl0
  obtain⟨hrl,hmM⟩:=hrl0
  have hkv:∀k:Nat,∃v,bc w' (XB st'.ae ρ' Xc) ρ' (Dd st'.ae k) v:=fun k=>by
   unfold Dd
   split
   ·rename_i fz e n l ho
    obtain⟨v,e1,e2⟩:=hR.ae k _ ho
    obtain⟨_,_,⟨xs,hown,_⟩,_⟩:=e2
    exact⟨v,.one (c:=.row k) e1 hown.one⟩
   ·exact⟨undef,.top_ _⟩
  have hkvs:∃kv:List Value,kv.length=sg.kept.length∧∀(i:Nat) d y,(sg.kept.map (Dd st'.ae))[i]?=some d→kv[i]?=some y→bc w' (XB st'.ae ρ' Xc) ρ' d y:=by
   refine⟨sg.kept.map fun k=>Classical.choose (hkv k),by simp,fun i d y h1 h2=>?_⟩
   rw[fF] at h1 h2
   cases hk:sg.kept[i]? with
   | none=>simp[hk] at h1
   | some k=>
    simp only[hk,fA,cG] at h1 h2
    subst h1;subst h2
    exact I9 (hkv k)
  obtain⟨kv,hkl,hkd⟩:=hkvs
  have hR2:Rel w (AZ po ρ) Xc ⟨ρ,[]⟩ ρ' (P5 sg Ex st'.ae) { tmps:=(vs++kv).toArray,defers:=[] } w':=
   Rel.bare (by simp[p2.1,hkl]) (fun i d y h1 h2=>by
    rw[rR] at h1 h2
    rw[dM] at h1
    rw[p2.1] at h2
    split at h1
    ·rename_i hi
     rw[aC hi] at h2
     rw[fF] at h1
     cases ha:Ex[i]? with
     | none=>simp[ha] at h1
     | some s=>
      simp only[ha,fA,cG] at h1
      subst h1
      exact p2.2 i s y ha h2
    ·rename_i hi
     rw[aA hi] at h2
     exact hkd _ d y h1 h2) hR.ae hR.sep hR.own (fun k hk=>hR.par k (by rw[hnp'];exact hk)) hR.frame hR.jm hR.xc (fun p hp=>by simp at hp)
  obtain⟨ρm,hR2m⟩:=Db sg.bx hR2
  obtain⟨m1,m2,m3⟩:=XU sg.bx (P5 sg Ex st'.ae)
  obtain⟨q',hq',_,ρ2,_,hR3⟩:=LR rfl hR2m p1
  cases hq'
  rw[m1,m2,m3] at hR3
  have hel:(P5 sg Ex st'.ae).env.length=sg.no:=by simp[P5,bt.no,hrl]
  rw[hel] at hR3
  have hm0:(P5 sg Ex st'.ae).ae.length=st'.ae.length:=rfl
  have hn0:(P5 sg Ex st'.ae).np=sg.np:=rfl
  rw[hm0,hn0] at hR3
  obtain⟨e1,e2⟩:=MY (h:=sg.bx) (t:=q) (np:=sg.np) (n:=sg.no) (n':=sg.no) (gB _) hmM (HC _ _)
  obtain⟨l1,l2,l3⟩:=C7 (h:=sg.bx) (t:=q) (n:=sg.no) (show sg.np≤sg.np+sg.du from HC _ _)
  obtain⟨L1,L2,L3⟩:=C7 (h:=sg.bx) (t:=q) (n:=sg.no) (show sg.np≤st'.ae.length by omega)
  have hHas:∀k b,Has (fS sg.bx sg.np sg.no (sg.np+sg.du) q).ae ρ2 k b→Has (fS sg.bx sg.np sg.no st'.ae.length q).ae ρ2 k b:=fun k b ⟨o,v,h1,h2,h3,h4⟩=>by
   have hk:k<sg.np+sg.du:=by rw[←l3];exact(dL.1 h1).1
   exact⟨o,v,by rw[←e2 k hk];exact h1,h2,h3,h4⟩
  have hX:∀b,XB (fS sg.bx sg.np sg.no (sg.np+sg.du) q).ae ρ2 Xc b→XB (fS sg.bx sg.np sg.no st'.ae.length q).ae ρ2 Xc b:=fun b hb=>by
   rcases hb with⟨k,hk⟩ | hb
   ·exact .inl ⟨k,hHas k b hk⟩
   ·exact .inr hb
  have hsame:cg (fun _=>False) w' w':=.refl _ w'
  refine⟨(if h:vs.toArray.size=1 then vs.toArray[0] else .tuple vs.toArray),?_,_,ρ2,rfl,hR3.frame,fun k hk=>?_,?_,fun k o ho=>?_,fun k k' b h1 h2=>hR3.sep k k' b (hHas k b h1) (hHas k' b h2),fun k b hb=>?_,Rj ?_⟩
  ·unfold results
   rw[Sem.run_bind,ZN,hrv,Sem.run_map]
   exact fG (fun z:Result (List Value)=>(z.andThen fun l w'=>(Result.ok l.toArray w':Result (Array Value))).andThen fun vs w'=>
    (pure (if h:vs.size=1 then vs[0] else .tuple vs):Sem Value).run P w') p4
  ·exact hR3.par k (by rw[L1];omega)
  ·rw[l3];omega
  ·have hk:k<sg.np+sg.du:=by rw[←l3];exact(dL.1 ho).1
   have:=hR3.ae k o (by rw[←e2 k hk];exact ho)
   cases o with
   | dead=>trivial
   | fresh=>exact this
   | box l=>obtain⟨v,f1,f2⟩:=this;exact⟨v,f1,f2.step hsame (fun _ h=>h.elim) (fun b hb=>.inl (hX b hb)) (.refl _) (fun _ _ h=>h)⟩
   | row fz e n l=>obtain⟨v,f1,f2⟩:=this;exact⟨v,f1,f2.step hsame (fun _ h=>h.elim) (fun b hb=>.inl (hX b hb)) (.refl _) (fun _ _ h=>h)⟩
   | mp fz e n l=>obtain⟨v,f1,f2⟩:=this;exact⟨v,f1,f2.step hsame (fun _ h=>h.elim) (fun b hb=>.inl (hX b hb)) (.refl _) (fun _ _ h=>h)⟩
   | cv l=>obtain⟨v,f1,f2⟩:=this;exact⟨v,f1,f2.step hsame (fun _ h=>h.elim) (fun b hb=>.inl (hX b hb)) (.refl _) (fun _ _ h=>h)⟩
   | rr hole e e2 n l=>obtain⟨v,f1,f2⟩:=this;exact⟨v,f1,cu.step (o:=.rr hole e _ n l) (ρ:=ρ2) f2 hsame (fun _ h=>h.elim) (fun b hb=>.inl (hX b hb)) (.refl _) (fun _ _ h=>h)⟩
   | fwd l=>exact this
  ·rcases hR3.own b ⟨k,hHas k b hb⟩ with h' | ⟨k',h'⟩
   ·exact .inr h'
   ·exact .inl ⟨k',h'⟩
  ·have hrsl:rs.length=sg.iq:=by
    have:=fG List.length hs1s
    rw[nM,l2,dM] at this
    simp only[bt.no] at this
    omega
   refine⟨by rw[p2.1,hrl,hrsl],fun i s y h1 h2=>?_⟩
   have hi:i<sg.iq:=by rw[←hrsl];exact(dL.1 h1).1
   have h3:(fS sg.bx sg.np sg.no (sg.np+sg.du) q).env[i]?=some (.s s):=by
    have:=fG (fun z=>z[i]?) hs1s
    simp only[pT,hi,eY,fF,h1,fA] at this
    exact this
   rw[e1 i (by simp only[bt.no];omega)] at h3
   have h4:=hR3.env i (.s s) y h3 (by
    have hvi:i<vs.length:=(dL.1 h2).1
    simp only[KY,rR,hvi,eY]
    exact h2)
   exact en.step h4 hsame (fun _ h=>h.elim) (fun b hb=>.inl (hX b hb)) (.refl _)
 cases e with
 | normal=>exact key hk3
 | ret=>exact key hk3
 | exit id=>cases hk3
end
inductive HT where
 | leaf
 | seq (x y:HT)
 | one (x:HT)
 | cond (x y:HT)
 | loop (h:Hint) (xs:List (ee×Hint)) (x:HT)
 | join (xs:List (ee×Hint)) (x:HT)
 | kr (n:Nat) (x:HT)
def wW:Code→Option bj
 | .skip=>some .skip
 | .region id ops draw=>some (.region id ops draw)
 | .seq x y=>match wW x,wW y with
  | some a,some b=>some (.seq a b)
  | _,_=>none
 | .cond c x y=>match wW x,wW y with
  | some a,some b=>some (.cond c a b)
  | _,_=>none
 | .block id x=>match wW x with
  | some a=>some (.block id a)
  | none=>none
 | .scope x=>match wW x with
  | some a=>some (.scope a)
  | none=>none
 | .label l=>some (.label l)
 | .exit id=>some (.exit id)
 | .ret=>some .ret
 | _=>none
def MZ:HT→Code→Option bj
 | .leaf,c=>wW c
 | .seq hx hy,.seq x y=>match MZ hx x,MZ hy y with
  | some a,some b=>some (.seq a b)
  | _,_=>none
 | .cond hx hy,.cond c x y=>match MZ hx x,MZ hy y with
  | some a,some b=>some (.cond c a b)
  | _,_=>none
 | .one hx,.block id x=>match MZ hx x with
  | some a=>some (.block id a)
  | none=>none
 | .one hx,.scope x=>match MZ hx x with
  | some a=>some (.scope a)
  | none=>none
 | .loop h xs hx,.loop x=>match MZ hx x with
  | some a=>some (.loop h xs a)
  | none=>none
 | .join xs hx,c=>match MZ hx c with
  | some a=>some (.join xs a)
  | none=>none
 | .kr n hx,.loop x=>match MZ hx x with
  | some a=>some (.kr n a)
  | none=>none
 | _,_=>none
theorem XY:∀{c:Code} {a:bj},wW c=some a→a.code=c:=by
 intro c
 induction c with
 | skip=>intro a h;cases h;rfl
 | region id ops draw=>intro a h;cases h;rfl
 | exit id=>intro a h;cases h;rfl
 | ret=>intro a h;cases h;rfl
 | seq x y ihx ihy=>
  intro a h
  simp only[wW] at h
  split at h
  ·rename_i h1 h2;cases h;simp only[bj.code,ihx h1,ihy h2]
  ·cases h
 | cond c x y ihx ihy=>
  intro a h
  simp only[wW] at h
  split at h
  ·rename_i h1 h2;cases h;simp only[bj.code,ihx h1,ihy h2]
  ·cases h
 | block id x ihx=>
  intro a h
  simp only[wW] at h
  split at h
  ·rename_i h1;cases h;simp only[bj.code,ihx h1]
  ·cases h
 | scope x ihx=>
  intro a h
  simp only[wW] at h
  split at h
  ·rename_i h1;cases h;simp only[bj.code,ihx h1]
  ·cases h
 | label l=>intro a h;cases h;rfl
 | _=>intro a h;simp[wW] at h
theorem Kg:∀{t:HT} {c:Code} {a:bj},MZ t c=some a→a.code=c:=by
 intro t
 induction t with
 | leaf=>intro c a h;exact XY (by simpa[MZ] using h)
 | seq hx hy ihx ihy=>
  intro c a h
  cases c with
  | seq x y=>
   simp only[MZ] at h
   split at h
   ·rename_i h1 h2;cases h;simp only[bj.code,ihx h1,ihy h2]
   ·cases h
  | _=>simp[MZ] at h
 | cond hx hy ihx ihy=>
  intro c a h
  cases c with
  | cond c x y=>
   simp only[MZ] at h
   split at h
   ·rename_i h1 h2;cases h;simp only[bj.code,ihx h1,ihy h2]
   ·cases h
  | _=>simp[MZ] at h
 | one hx ihx=>
  intro c a h
  cases c with
  | block id x=>
   simp only[MZ] at h
   split at h
   ·rename_i h1;cases h;simp only[bj.code,ihx h1]
   ·cases h
  | scope x=>
   simp only[MZ] at h
   split at h
   ·rename_i h1;cases h;simp only[bj.code,ihx h1]
   ·cases h
  | _=>simp[MZ] at h
 | loop hd xs hx ihx=>
  intro c a h
  cases c with
  | loop x=>
   simp only[MZ] at h
   split at h
   ·rename_i h1;cases h;simp only[bj.code,ihx h1]
   ·cases h
  | _=>simp[MZ] at h
 | join xs hx ihx=>
  intro c a h
  simp only[MZ] at h
  split at h
  ·rename_i h1;cases h;simp only[bj.code,ihx h1]
  ·cases h
 | kr n hx ihx=>
  intro c a h
  cases c with
  | loop x=>
   simp only[MZ] at h
   split at h
   ·rename_i h1;cases h;simp only[bj.code,ihx h1]
   ·cases h
  | _=>simp[MZ] at h
def VB(t:HT)(fn:Func):bj:=match fn.body with
 | some c=>(MZ t c).getD .skip
 | none=>.skip
def JW(t:HT)(fn:Func):Bool:=match fn.body with
 | some c=>(MZ t c).isSome
 | none=>false
theorem S8{t:HT}{fn:Func}(h:JW t fn=true):fn.body=some (VB t fn).code:=by
 unfold JW at h
 unfold VB
 cases hb:fn.body with
 | none=>simp[hb] at h
 | some c=>
  simp only[hb] at h ⊢
  cases ha:MZ t c with
  | none=>simp[ha] at h
  | some a=>simp only[ha,Option.getD_some,Kg ha]
def rY:List (FuncId×Callee)→FuncId→Option Callee
 | [],_=>none
 | p::l,f=>if p.1=f then some p.2 else rY l f
theorem jc.nil{P:Program}:jc P (rY []):=fun f A h=>by cases h
theorem jc.cons{P:Program}{f:FuncId}{A:Callee}{l:List (FuncId×Callee)}(hc:A.ext=none→E7 P f)(hA:A.OK P f)(hl:jc P (rY l)):jc P (rY ((f,A)::l)):=fun g B h=>by
 simp only[rY] at h
 split at h
 ·rename_i e;cases h;subst e;exact⟨hc,hA⟩
 ·exact hl g B h
def St.bare(st:St):St:={ st with env:=List.replicate st.env.length D.top }
section
variable {R:Type} {P:Program} {Γ:FuncId→Option Callee}
theorem S9(st:St)(dst:Option Nat)(o:O)(k:St→Nat→Option R):qP st dst o k=(qP st.bare dst o fun s key=>some (s.ae,key)).bind fun p=>k { st with ae:=p.1 } p.2:=by
 have hfi:AB st.bare=AB st:=rfl
 have h1:st.bare.ae=st.ae:=rfl
 have h2:st.bare.np=st.np:=rfl
 have h3:st.bare.env.length=st.env.length:=by simp[St.bare]
 cases dst with
 | none=>rfl
 | some d=>
  simp only[qP,hfi,h1,h2,h3]
  split
  ·rfl
  ·split
   ·rfl
   ·split <;> rfl
theorem qJ(st:St)(dst:Option Nat)(o:O)(f:Nat→D)(k:St→D→Option R):qP st dst o (fun s key=>k s (f key))=(qP st.bare dst o fun s key=>some (s.ae,f key)).bind fun p=>k { st with ae:=p.1 } p.2:=by
 have hfi:AB st.bare=AB st:=rfl
 have h1:st.bare.ae=st.ae:=rfl
 have h2:st.bare.np=st.np:=rfl
 have h3:st.bare.env.length=st.env.length:=by simp[St.bare]
 cases dst with
 | none=>rfl
 | some d=>
  simp only[qP,hfi,h1,h2,h3]
  split
  ·rfl
  ·split
   ·rfl
   ·split <;> rfl
theorem P6(st:St)(ae:List O)(dst:Option Nat)(o:O)(f:Nat→D)(k:St→D→Option R):qP { st with ae:=ae } dst o (fun s key=>k s (f key))=(qP { st.bare with ae:=ae } dst o fun s key=>some (s.ae,f key)).bind fun p=>k { st with ae:=p.1 } p.2:=by
 have h:=qJ { st with ae:=ae } dst o f k
 exact h
theorem C9(st:St)(t:TypeId)(d:D)(k:D→Option R):uZ P st t d k=(uZ P st.bare t d some).bind k:=by
 unfold uZ zN St.bare
 repeat' (first | split | dsimp only)
 all_goals first
  | rfl
  | simp_all [dX]
theorem Au{R S:Type}(t:TypeId)(c:C)(f:T→Option R)(g:R→Option S):MM P t c (fun x=>(f x).bind g)=(MM P t c f).bind g:=by
 unfold MM
 split
 ·rw[dX]
 ·rw[dX]
 ·rw[dX]
 ·split
  ·split
   ·rw[dX]
   ·rfl
  ·rfl
 ·split <;> rfl
theorem rZ{R S:Type}:∀(ts:List TypeId) (cs:List C) (f:List T→Option R) (g:R→Option S),oR P ts cs (fun x=>(f x).bind g)=(oR P ts cs f).bind g
 | [],[],_,_=>rfl
 | [],_::_,_,_=>rfl
 | _::_,[],_,_=>rfl
 | t::ts,c::cs,f,g=>by
  simp only[oR]
  rw[←Au]
  congr 1
  funext x
  exact rZ ts cs _ g
theorem XZ(st:St)(t:TypeId)(d v:D)(k:St→Option R):AA P st t d v k=(AA P st.bare t d v fun s=>some s.ae).bind fun p=>k { st with ae:=p }:=by
 have hb:st.bare.ae=st.ae:=rfl
 unfold AA zN
 simp only[hb]
 repeat' (first | split | dsimp only)
 all_goals first
  | rfl
  | (rw[←rZ];simp only[dX,tG,Option.bind_none];done)
  | (rw[←rZ];rfl)
  | simp_all [dX]
theorem VC(op:BinOp)(kd:IntKind)(a b:Int)(k:D→Option R):GH op kd a b k=(GH op kd a b some).bind k:=by
 unfold GH
 repeat' (first | split | dsimp only)
 all_goals first
  | rfl
  | simp_all [dX]
theorem Av(op:BinOp)(kd:IntKind)(a b:Int)(k:D→Option R):uY op kd a b k=(uY op kd a b some).bind k:=by
 unfold uY
 repeat' (first | split | dsimp only)
 all_goals first
  | rfl
  | simp_all [dX]
theorem Aw(op:BinOp)(a b:ByteArray)(k:D→Option R):SR op a b k=(SR op a b some).bind k:=by
 unfold SR
 repeat' (first | split | dsimp only)
 all_goals first
  | rfl
  | simp_all [dX]
theorem Ki(op:UnOp)(t:TypeId)(x:D)(k:D→Option R):Se (P:=P) op t x k=(Se (P:=P) op t x some).bind k:=by
 unfold Se RV RW O3
 repeat' (first | split | dsimp only)
 all_goals first
  | rfl
  | simp_all [dX]
theorem Gj(x:D)(k:D→Option R):Ga x k=(Ga x some).bind k:=by
 unfold Ga zN
 repeat' (first | split | dsimp only)
 all_goals first
  | rfl
  | simp_all [dX]
theorem X1(t:TypeId)(parts:List (Nat×D))(k:D→Option R):IF P t parts k=(IF P t parts some).bind k:=by
 unfold IF
 repeat' (first | split | dsimp only)
 all_goals first
  | rfl
  | simp_all [dX]
theorem P7(fn:Fn)(f c:List D)(k:D→Option R):wS fn f c k=(wS fn f c some).bind k:=by
 unfold wS
 repeat' (first | split | dsimp only)
 all_goals first
  | rfl
  | simp_all [dX]
theorem yB(st:St)(t:TypeId)(x:D)(lo hi mx:Option D)(k:D→Option R):BR P st t x lo hi mx k=(BR P st.bare t x lo hi mx some).bind k:=by
 have hc:∀n c,Z9 st.bare n c=Z9 st n c:=fun _ _=>rfl
 unfold BR C0 qZ RR zN O3
 simp only[hc]
 repeat' (first | split | dsimp only)
 all_goals first
  | rfl
  | simp_all [dX]
theorem NC(t:TypeId)(x:D)(f:Nat)(k:D→Option R):uF P t x f k=(uF P t x f some).bind k:=by
 unfold uF zN
 repeat' (first | split | dsimp only)
 all_goals first
  | rfl
  | simp_all [dX]
theorem X2(t:TypeId)(x:D)(f:Nat)(k:D→Option R):LF P t x f k=(LF P t x f some).bind k:=rfl
theorem Ax(st:St)(s t:TypeId)(x:D)(k:D→Option R):SX P st s t x k=(SX P st.bare s t x some).bind k:=rfl
theorem EC(st:St)(t:TypeId)(x ix:D)(k:D→Option R):kE P st t x ix k=(kE P st.bare t x ix some).bind k:=by
 unfold kE zN qZ O3 St.bare
 repeat' (first | split | dsimp only)
 all_goals first
  | rfl
  | (simp_all [dX];done)
  | (simp only[dX];congr 1;funext i;refine tP ?_ (MQ _ _);congr 1;funext j;split <;> rfl)
theorem X3(t:TypeId)(x ix:D)(k:D→Option R):LG P t x ix k=(LG P t x ix some).bind k:=rfl
theorem R9(x:D)(i:Nat)(k:D→Option R):AE x i k=(AE x i some).bind k:=by
 unfold AE
 repeat' (first | split | dsimp only)
 all_goals first
  | rfl
  | simp_all [dX]
theorem Gk(st:St)(t:TypeId)(x:D)(k:D→Option R):EM P st t x k=(EM P st.bare t x some).bind k:=by
 unfold EM RR zN O3 St.bare
 repeat' (first | split | dsimp only)
 all_goals first
  | rfl
  | simp_all [dX]
theorem Gm(op:BinOp)(t yt:TypeId)(x y:D)(k:D→Option R):Fb P op t yt x y k=(Fb P op t yt x y some).bind k:=by
 unfold Fb RV RR RW O3
 repeat' (first | split | dsimp only)
 all_goals first
  | rfl
  | (simp only[dX,←Av,←VC,←Aw];done)
  | simp_all [dX]
theorem LS{rc:∀{R:Type},TypeId→S1→S1→(Bool→Option R)→Option R}(hrc:∀{R:Type} (t:TypeId) (x y:S1) (k:Bool→Option R),rc t x y k=(rc t x y some).bind k)(cs ds:List C):
 ∀(fs:List Field) {R:Type} (k:Bool→Option R),UU P rc cs ds fs k=(UU P rc cs ds fs some).bind k
 | [],R,k=>rfl
 | f::fs,R,k=>by
  simp only[UU]
  split
  ·rfl
  split
  case h_2=>rfl
  split
  case h_2=>rfl
  rw[hrc,hrc (k:=fun b=>UU P rc cs ds fs fun r=>some (xT b r)),gD]
  congr 1;funext b
  rw[LS hrc cs ds fs,LS hrc cs ds fs (k:=fun r=>some (xT b r)),gD]
  rfl
theorem LT{rc:∀{R:Type},TypeId→S1→S1→(Bool→Option R)→Option R}(hrc:∀{R:Type} (t:TypeId) (x y:S1) (k:Bool→Option R),rc t x y k=(rc t x y some).bind k)(e:TypeId)(n:Nat)(ag:Bool)(cs ds:List C):
 ∀(is:List Nat) {R:Type} (k:Bool→Option R),UV rc e n ag cs ds is k=(UV rc e n ag cs ds is some).bind k
 | [],R,k=>rfl
 | i::is,R,k=>by
  simp only[UV]
  split
  case h_2=>rfl
  rw[hrc,hrc (k:=fun b=>UV rc e n ag cs ds is fun r=>some (xT b r)),gD]
  congr 1;funext b
  rw[LT hrc e n ag cs ds is,LT hrc e n ag cs ds is (k:=fun r=>some (xT b r)),gD]
  rfl
theorem zQ:∀(d:Nat) {R:Type} (t:TypeId) (x y:S1) (k:Bool→Option R),IC P d t x y k=(IC P d t x y some).bind k
 | 0,R,t,x,y,k=>rfl
 | d+1,R,t,x,y,k=>by
  simp only[IC]
  split
  ·unfold RV O3;repeat' (first | split | dsimp only)
   all_goals first
    | rfl
    | (simp only[dX];done)
    | simp_all [dX]
  ·unfold RW O3;repeat' (first | split | dsimp only)
   all_goals first
    | rfl
    | (simp only[dX];done)
    | simp_all [dX]
  ·unfold RR O3;repeat' (first | split | dsimp only)
   all_goals first
    | rfl
    | (simp only[dX];done)
    | simp_all [dX]
  ·split
   ·rfl
   split
   case h_2=>rfl
   exact LS (zQ d) _ _ _ k
  ·split
   case h_2=>rfl
   exact LT (zQ d) _ _ _ _ _ _ k
  ·rfl
theorem Gn(op:BinOp)(t yt:TypeId)(x y:D)(k:D→Option R):Ff P op t yt x y k=(Ff P op t yt x y some).bind k:=by
 unfold Ff
 split
 ·split
  ·rfl
  unfold Ok
  split
  ·split
   ·split
    ·dsimp only;rw[zQ,zQ (k:=fun b=>some (dB b)),gD];rfl
    ·split
     ·dsimp only;rw[zQ,zQ (k:=fun b=>some (dB (!b))),gD];rfl
     ·rfl
   ·rfl
  ·rfl
 ·exact Gm op t yt x y k
theorem TA(st:St)(eq:Bool)(c:C)(k:D→Option R):Ai st eq c k=(Ai st.bare eq c some).bind k:=by
 have hb:st.bare.ae=st.ae:=rfl
 have hbif:∀(q:Bool) (d d':D),(bif q then k d else k d')=(bif q then some d else some d').bind k:=fun q d d'=>by cases q <;> rfl
 unfold Ai
 rw[hb]
 split
 ·rfl
 ·split
  ·exact hbif _ _ _
  ·rfl
 ·split
  ·exact hbif _ _ _
  ·rfl
 ·rfl
theorem Gp(st:St)(op:BinOp)(t yt:TypeId)(x y:D)(k:D→Option R):R4 P st op t yt x y k=(R4 P st.bare op t yt x y some).bind k:=by
 unfold R4 zN
 split
 ·split
  ·split
   ·split
    ·exact TA _ _ _ _
    ·split
     ·exact TA _ _ _ _
     ·rfl
   ·rfl
  ·rfl
 ·exact Gn op t yt x y k
theorem M1(st:St)(dst:Option Nat)(e:TypeId)(k:St→D→Option R):uE P st dst e k=(uE P st.bare dst e fun s d=>some (s.ae,d)).bind fun p=>k { st with ae:=p.1 } p.2:=by
 unfold uE
 repeat' (first | split | dsimp only)
 all_goals first
  | rfl
  | exact qJ st dst _ (fun key=>.s (.c (.box key 0))) k
  | simp_all
theorem Gq(st:St)(dst:Option Nat)(v:D)(k:St→D→Option R):W5 st dst v k=(W5 st.bare dst v fun s d=>some (s.ae,d)).bind fun p=>k { st with ae:=p.1 } p.2:=by
 unfold W5
 repeat' (first | split | dsimp only)
 all_goals first
  | rfl
  | exact qJ st dst _ (fun key=>.s (.c (.box key 0))) k
  | simp_all
theorem ND(st:St)(dst:Option Nat)(t:TypeId)(l c:D)(k:St→D→Option R):rV P st dst t l c k=(rV P st.bare dst t l c fun s d=>some (s.ae,d)).bind fun p=>k { st with ae:=p.1 } p.2:=by
 unfold rV qZ O3
 repeat' (first | split | dsimp only)
 all_goals first
  | rfl
  | (simp only[dX];congr 1;funext i;congr 1;funext j;congr 1;funext q;exact qJ st dst _ (fun key=>.s (.c (.row key))) k)
  | simp_all [dX]
theorem VD(st:St)(dst:Option Nat)(t:TypeId)(l c:D)(k:St→D→Option R):A9 P st dst t l c k=(A9 P st.bare dst t l c fun s d=>some (s.ae,d)).bind fun p=>k { st with ae:=p.1 } p.2:=by
 unfold A9 qZ O3
 repeat' (first | split | dsimp only)
 all_goals first
  | rfl
  | (simp only[dX];congr 1;funext i;congr 1;funext j;congr 1;funext q;exact qJ st dst _ (fun key=>.s (.c (.rk key))) k)
  | simp_all [dX]
theorem JX(st:St)(dst:Option Nat)(t:TypeId)(n:Nat)(parts:List (Nat×D))(k:St→D→Option R):oD P st dst t n parts k=(oD P st.bare dst t n parts fun s d=>some (s.ae,d)).bind fun p=>k { st with ae:=p.1 } p.2:=by
 have hb:st.bare.ae=st.ae:=rfl
 unfold oD
 simp only[hb]
 repeat' (first | split | dsimp only)
 all_goals first
  | rfl
  | exact P6 st _ dst _ (fun key=>.s (.c (.row key))) k
  | (rw[←rZ];congr 1;funext ts;exact P6 st _ dst _ (fun key=>.s (.c (.row key))) k)
  | simp_all [dX]
theorem LU(st:St)(dst:Option Nat)(t:TypeId)(n:Nat)(parts:List (Nat×D))(k:St→D→Option R):kN P st dst t n parts k=(kN P st.bare dst t n parts fun s d=>some (s.ae,d)).bind fun p=>k { st with ae:=p.1 } p.2:=by
 unfold kN
 split
 ·split
  ·split
   ·split
    ·exact qJ st dst _ (fun key=>.s (.c (.row key))) k
    ·rfl
   ·rfl
  ·rfl
 ·exact JX st dst t n parts k
theorem BB(st:St)(n:Nat)(c:C)(k:List T→Option R):yI st n c k=(yI st.bare n c some).bind k:=by
 have hb:st.bare.ae=st.ae:=rfl
 cases c with
 | t x=>simp only[yI,dX];rfl
 | row key=>
  simp only[yI,hb]
  cases st.ae[key]? with
  | none=>rfl
  | some o=>cases o with
   | row fz e n' es=>by_cases h:n'=n <;> simp[h]
   | _=>rfl
 | cut key m lo len tg=>
  simp only[yI,hb]
  cases st.ae[key]? with
  | none=>rfl
  | some o=>cases o with
   | row fz e n' es=>by_cases h:n'=n∧m=n <;> simp[h]
   | _=>rfl
 | _=>rfl
theorem TB(st:St)(e:TypeId)(n:Nat)(c:C)(k:St→List T→Option R):M7 st e n c k=(M7 st.bare e n c fun s l=>some (s.ae,l)).bind fun p=>k { st with ae:=p.1 } p.2:=by
 unfold M7 St.bare
 repeat' (first | split | dsimp only)
 all_goals first
  | rfl
  | simp_all [dX]
theorem TC(mx:Bool)(t:TypeId)(x y:D)(k:D→Option R):PO P mx t x y k=(PO P mx t x y some).bind k:=by
 unfold PO RV RR O3
 repeat' (first | split | dsimp only)
 all_goals first
  | rfl
  | simp_all [dX]
theorem Ay(st:St)(t:TypeId)(s x:D)(k:St→D→Option R):SS P st t s x k=(SS P st.bare t s x fun s d=>some (s.ae,d)).bind fun p=>k { st with ae:=p.1 } p.2:=rfl
theorem VE(st:St)(dst:Option Nat)(t u:TypeId)(s x:D)(k:St→D→Option R):A8 P st dst t u s x k=(A8 P st.bare dst t u s x fun s d=>some (s.ae,d)).bind fun p=>k { st with ae:=p.1 } p.2:=by
 have fin:∀(e:TypeId) (n:Nat) (c:C) (m:List T) (b:Nat),(M7 st e n c fun st' l=>ob (qE l m b) fun q=>qP st' dst (.row false e n q) fun st key=>k st (.s (.c (.row key)))) =
  (M7 st.bare e n c fun st' l=>ob (qE l m b) fun q=>qP st' dst (.row false e n q) fun s key=>some (s.ae,.s (.c (.row key)))).bind fun p=>k { st with ae:=p.1 } p.2:=fun e n c m b=>by
  rw[TB,TB st.bare e n c (fun st' l=>ob (qE l m b) fun q=>qP st' dst (.row false e n q) fun s key=>(some (s.ae,D.s (.c (.row key))):Option (List O×D)))]
  have hbb:st.bare.bare=st.bare:=by simp[St.bare]
  rw[hbb,gD]
  congr 1
  funext p
  rw[dX]
  congr 1
  funext q
  rw[qJ { st with ae:=p.1 } dst _ (fun key=>.s (.c (.row key))) k,qJ { st.bare with ae:=p.1 } dst _ (fun key=>.s (.c (.row key))) (fun s d=>some (s.ae,d)),gD]
  have h3:(St.bare { st.bare with ae:=p.1 })=St.bare { st with ae:=p.1 }:=by simp[St.bare]
  rw[h3]
  rfl
 unfold A8
 split
 ·split
  ·split
   ·split
    ·unfold zN
     split
     ·dsimp only
      split
      ·split
       ·have hbb:st.bare.bare=st.bare:=by simp[St.bare]
        refine(BB st _ _ _).trans (tP ?_ (fG (fun z:Option (List O×D)=>z.bind fun p=>k { st with ae:=p.1 } p.2) (BB st.bare _ _ _)).symm)
        rw[hbb,gD]
        exact fG _ (funext fun m=>fin _ _ _ _ _)
       ·rfl
      ·split
       ·unfold RR O3
        split
        ·simp only[dX]
         exact fG _ (funext fun m=>fin _ _ _ _ _)
        ·rfl
       ·rfl
     ·rfl
    ·rfl
   ·rfl
  ·rfl
 ·rfl
theorem Az(st:St)(dst:Option Nat)(t u:TypeId)(key i:Nat)(x:D)(k:St→D→Option R):MO P st dst t u key i x k=(MO P st.bare dst t u key i x fun s d=>some (s.ae,d)).bind fun p=>k { st with ae:=p.1 } p.2:=by
 have hbo:st.bare.ae=st.ae:=rfl
 have hbb:st.bare.bare=st.bare:=by simp[St.bare]
 have fin:∀(o:O),(qP st dst o fun st' K=>k { st' with ae:=st'.ae.set key (.fwd K) } (.s (.c (.fg K i)))) =
  (qP st.bare dst o fun s K=>some (s.ae.set key (.fwd K),D.s (.c (.fg K i)))).bind fun p=>k { st with ae:=p.1 } p.2:=fun o=>by
  have e1:=S9 st dst o fun st' K=>k { st' with ae:=st'.ae.set key (.fwd K) } (.s (.c (.fg K i)))
  have e2:=S9 st.bare dst o fun s K=>(some (s.ae.set key (.fwd K),D.s (.c (.fg K i))):Option (List O×D))
  refine e1.trans (tP ?_ (fG (fun z:Option (List O×D)=>z.bind fun p=>k { st with ae:=p.1 } p.2) e2).symm)
  rw[hbb,gD]
  rfl
 unfold MO
 split
 ·split
  ·split
   ·split
    ·unfold zN
     split
     ·dsimp only
      refine(BB st _ _ _).trans (tP ?_ (fG (fun z:Option (List O×D)=>z.bind fun p=>k { st with ae:=p.1 } p.2) (BB st.bare _ _ _)).symm)
      rw[hbb,gD]
      refine fG _ (funext fun m=>?_)
      simp only[hbo]
      split
      ·split
       ·simp only[dX]
        refine fG _ (funext fun old=>fG _ (funext fun q=>?_))
        exact fin _
       ·rfl
      ·rfl
     ·rfl
    ·rfl
   ·rfl
  ·rfl
 ·rfl
theorem VF(st:St)(dst:Option Nat)(t u:TypeId)(s x:D)(k:St→D→Option R):y0 P st dst t u s x k=(y0 P st.bare dst t u s x fun s d=>some (s.ae,d)).bind fun p=>k { st with ae:=p.1 } p.2:=by
 unfold y0
 split
 ·exact Az _ _ _ _ _ _ _ _
 ·exact VE _ _ _ _ _ _ _
end
theorem X4{R:Type}{P:Program}(st:St)(t:TypeId)(x:D)(lo hi mx:Option D)(k:St→D→Option R):AD P st t x lo hi mx k=(AD P st.bare t x lo hi mx fun s d=>some (s.ae,d)).bind fun p=>k { st with ae:=p.1 } p.2:=by
 have hb:st.bare.ae=st.ae:=rfl
 unfold AD
 split
 ·split
  ·rfl
  ·rfl
 ·have hbb:st.bare.bare=st.bare:=by simp[St.bare]
  have e2:=yB (P:=P) st.bare t x lo hi mx (fun d=>(some (st.bare.ae,d):Option (List O×D)))
  rw[hbb] at e2
  refine(yB st t x lo hi mx fun d=>k st d).trans (tP ?_ (fG (fun z:Option (List O×D)=>z.bind fun p=>k { st with ae:=p.1 } p.2) e2).symm)
  rw[gD]
  rfl
section
variable {R S:Type} {P:Program}
theorem Xm{α:Type}(m:Option α)(f:α→Option R)(g:R→Option S):(ob m f).bind g=ob m fun a=>(f a).bind g:=by cases m <;> rfl
theorem Kj(kd:IntKind)(d:D)(f:Int→Option R)(g:R→Option S):(RV kd d f).bind g=RV kd d fun c=>(f c).bind g:=by
 unfold RV O3
 split
 ·exact Xm _ _ _
 ·rfl
theorem Kk(d:D)(f:ByteArray→Option R)(g:R→Option S):(RR d f).bind g=RR d fun c=>(f c).bind g:=by
 unfold RR O3
 split
 ·exact Xm _ _ _
 ·rfl
theorem P8:∀(cs:List C) (f:List T→Option R) (g:R→Option S),(MU cs f).bind g=MU cs fun c=>(f c).bind g
 | [],_,_=>rfl
 | c::cs,f,g=>by
  cases c with
  | t x=>
   simp only[MU]
   rw[Xm]
   congr 1
   funext a
   exact P8 cs _ _
  | _=>rfl
theorem Gr(c:Nat)(d:D)(f:T→Option R)(g:R→Option S):(Fw c d f).bind g=Fw c d fun t=>(f t).bind g:=by
 match c with
 | 0=>exact Kj _ _ _ _
 | 1=>exact Kk _ _ _
 | m+2=>
  simp only[Fw]
  split
  ·split
   ·exact P8 _ _ _
   ·rfl
  ·rfl
theorem X5(ts:List TypeId)(cs:List C)(f:List T→Option R)(g:R→Option S):(oR P ts cs f).bind g=oR P ts cs fun ts=>(f ts).bind g:=(rZ ts cs f g).symm
theorem VG(st:St)(t:TypeId)(x ix:D)(ok:Bool)(k:D→Option R):GN P st t x ix ok k=(GN P st.bare t x ix ok some).bind k:=rfl
theorem SA(st:St)(dst:Option Nat)(t:TypeId)(k:St→D→Option R):AH P st dst t k=(AH P st.bare dst t fun s d=>some (s.ae,d)).bind fun p=>k { st with ae:=p.1 } p.2:=by
 unfold AH
 repeat' (first | split | dsimp only)
 all_goals first
  | rfl
  | exact qJ st dst _ (fun key=>.s (.c (.row key))) k
theorem JY(st:St)(t:TypeId)(m q v:D)(k:St→Option R):zB P st t m q v k=(zB P st.bare t m q v fun s=>some s.ae).bind fun p=>k { st with ae:=p }:=by
 have hb:st.bare.ae=st.ae:=rfl
 unfold zB
 split
 ·split
  ·rw[Gr]
   congr 1
   funext kk
   simp only[hb]
   split
   ·split
    ·split
     ·split
      ·rw[X5]
       congr 1
       funext ts
       split <;> rfl
      ·rfl
     ·rfl
    ·rfl
   ·rfl
  ·rfl
 ·rfl
theorem VH(st:St)(t:TypeId)(m q:D)(k:St→D→Option R):GO P st t m q k=(GO P st.bare t m q fun s d=>some (s.ae,d)).bind fun p=>k { st with ae:=p.1 } p.2:=rfl
theorem P9(st:St)(t:TypeId)(m q v:D)(k:St→Option R):zP P st t m q v k=(zP P st.bare t m q v fun s=>some s.ae).bind fun p=>k { st with ae:=p }:=rfl
end
def me.Nat(I:me):Prop:=∀{R:Type} (st:St) (dst:Option _root_.Nat) (ds:List D) (k:St→D→Option R),I.go st dst ds k=(I.go st.bare dst ds fun s d=>some (s.ae,d)).bind fun p=>k { st with ae:=p.1 } p.2
def Callee.oe(A:Callee):Prop:=∀{R:Type} (args:List S1) (po:List O) (k:List S1→List O→Option R),A.call args po k=(A.call args po fun rs po'=>some (rs,po')).bind fun p=>k p.1 p.2
def Ext.Nat(I:Ext):Prop:=∀{R:Type} (ds:List D) (k:D→Option R),I.go ds k=(I.go ds some).bind k
def Callee.Nat(A:Callee):Prop:=A.oe∧(∀I,A.inl=some I→I.Nat)∧∀I,A.ext=some I→I.Nat
section
variable {R:Type} {P:Program} {Γ:FuncId→Option Callee}
theorem QA(st:St)(ks:List Nat):∀(cs:List C) (j:Nat) (ms:List (Option (TypeId×Nat))),rI st.bare ks j ms cs=rI st ks j ms cs
 | [],j,ms=>by cases ms <;> rfl
 | c::cs,j,ms=>by
  have h1:∀m,PD st.bare m c=PD st m c:=fun m=>rfl
  have h2:PC st.bare ks c=PC st ks c:=rfl
  simp only[rI,QA st ks cs,h1,h2]
theorem X6(st:St)(ae:List O)(dst:Option Nat)(n:Nat):IJ { st.bare with ae:=ae } dst n=IJ { st with ae:=ae } dst n:=by
 unfold IJ St.bare
 simp only[OU]
theorem IT{A:Callee}(hA:A.Nat)(st:St)(dst:Option Nat)(ds:List D)(k:St→D→Option R):
 yV A st dst ds k=(yV A st.bare dst ds fun s d=>some (s.ae,d)).bind fun p=>k { st with ae:=p.1 } p.2:=by
 have hb:st.bare.ae=st.ae:=rfl
 obtain⟨hA,hAi,_⟩:=hA
 unfold yV
 cases hinl:A.inl with
 | some I=>exact hAi I hinl st dst ds k
 | none=>
 dsimp only
 unfold AG
 cases Fr ds with
 | none=>rfl
 | some ss=>
  dsimp only
  rw[hb]
  cases rT ((xW A.deep st.ae ss).map (CD st.ae)) with
  | none=>rfl
  | some bl=>
   dsimp only
   rw[QA]
   cases rI st (xW A.deep st.ae ss) (xW A.deep st.ae ss).length A.rows (ss.flatMap S1.list++bl.flatten) with
   | none=>rfl
   | some q=>
    obtain⟨cs,rws⟩:=q
    dsimp only
    split
    ·refine(hA _ _ _).trans (tP ?_ (fG (fun z:Option (List O×D)=>z.bind fun p=>k { st with ae:=p.1 } p.2) (hA _ _ _)).symm)
     rw[gD]
     refine fG _ (funext fun p=>?_)
     obtain⟨rs,po'⟩:=p
     dsimp only
     rw[X6]
     split
     ·rfl
     ·split
      ·rfl
      ·split
       ·split <;> rfl
       ·rfl
    ·rfl
theorem FD(hΓ:∀f A,Γ f=some A→A.Nat)(st:St)(dst:Option Nat)(f:D)(args:List D)(k:St→D→Option R):
 mW Γ st dst f args k=(mW Γ st.bare dst f args fun s d=>some (s.ae,d)).bind fun p=>k { st with ae:=p.1 } p.2:=by
 unfold mW zN
 split
 ·dsimp only
  split
  ·split
   ·split
    ·rename_i A hA
     split
     ·rename_i I hI
      refine((hΓ _ A hA).2.2 I hI _ _).trans (tP ?_ (fG (fun z:Option (List O×D)=>z.bind fun p=>k { st with ae:=p.1 } p.2) ((hΓ _ A hA).2.2 I hI _ _)).symm)
      rw[gD]
      rfl
     ·exact IT (hΓ _ A hA) st dst args k
    ·rfl
   ·rfl
  ·split
   ·rename_i A hA
    split
    ·rfl
    ·exact IT (hΓ _ A hA) st dst _ k
   ·rfl
  ·rfl
 ·rfl
end
section
variable {R:Type} (P:Program) (Γ:FuncId→Option Callee)
def jL(b:St)(dst:Option Nat)(ty:TypeId)(bi:Builtin)(args:List D)(ts:List TypeId):Option (List O×D):=match bi,args,ts with
 | .len,[x],[t]=>(EM P b t x some).bind fun d=>some (b.ae,d)
 | .append,[s,x],[t,u]=>y0 P b dst t u s x fun s d=>some (s.ae,d)
 | .copy,[s,x],[t,_]=>SS P b t s x fun s d=>some (s.ae,d)
 | .min,[x,y],[t,_]=>(PO P false t x y some).bind fun d=>some (b.ae,d)
 | .max,[x,y],[t,_]=>(PO P true t x y some).bind fun d=>some (b.ae,d)
 | _,_,_=>none
def QB(b:St)(dst:Option Nat)(f:D)(args:List D):Option (List O×D):=match EN Γ with
 | []=>mW Γ b dst f args fun s d=>some (s.ae,d)
 | B=>if vF (gN Γ) dst=true then mW Γ b dst f args fun s d=>some (s.ae,d) else if Aj B (f::args)=true then (mW Γ b dst f args fun s d=>some (s.ae,d)).bind fun p=>if WP B b.ae p.1=true then some p else none else none
def TD(b:St)(dst:Option Nat)(f:D)(args:List D):Option (List O×D):=if XK Γ b.ae dst (f::args)=true then QB Γ b dst f args else none
def FE(Γ:FuncId→Option Callee)(P:Program)(b:St)(dst:Option Nat)(t:TypeId):Option (List O×D):=match EN Γ with
 | []=>uE P b dst t fun s d=>some (s.ae,d)
 | B=>if NA Γ b dst=true then (uE P b dst t fun s d=>some (s.ae,d)).bind fun p=>if (WP B b.ae p.1||vF (gN Γ) dst)=true then some p else none else none
def LV(o:Oper)(b:St)(e:Operand→D):Option (List O×D):=match o.op with
 | .move x=>some (b.ae,e x)
 | .assign x=>some (b.ae,e x)
 | .pick c x y=>(RW (e c) some).bind fun q=>some (b.ae,bif q then e x else e y)
 | .alloc t=>FE Γ P b o.dst t
 | .box _ x=>W5 b o.dst (e x) fun s d=>some (s.ae,d)
 | .build t parts=>(IF P t (parts.toList.map fun p=>(p.1,e p.2)) some).bind fun d=>some (b.ae,d)
 | .buildSlice t len parts=>if XL Γ b.ae o.dst=true then kN P b o.dst t len (parts.toList.map fun p=>(p.1,e p.2)) fun s d=>some (s.ae,d) else none
 | .load t x=>if EB Γ o.dst (e x)=true then (tA Γ P b o.dst t (e x) some).bind fun d=>some (b.ae,d) else none
 | .store t x v=>if (Jt Γ t (e x)&&XM Γ t (e x))=true then (AA P b t (e x) (e v) fun s=>some s.ae).bind fun q=>some (q,D.top) else none
 | .nilCheck x=>(Ga (e x) some).bind fun d=>some (b.ae,d)
 | .binOp op t x y yt=>(R4 P b op t yt (e x) (e y) some).bind fun d=>some (b.ae,d)
 | .unOp op t x=>(Se (P:=P) op t (e x) some).bind fun d=>some (b.ae,d)
 | .convert s t x=>(SX P b s t (e x) some).bind fun d=>some (b.ae,d)
 | .makeFunc fn f c=>(wS fn (f.toList.map e) (c.toList.map e) some).bind fun d=>some (b.ae,d)
 | .makeSlice t l c=>mX Γ P b o.dst t (e l) (e c) fun s d=>some (s.ae,d)
 | .slice t x lo hi mx=>if (PQ Γ o.dst (e x)&&Cv Γ o.dst (e x))=true then AD P b t (e x) (lo.map e) (hi.map e) (mx.map e) fun s d=>some (s.ae,d) else none
 | .fieldAddr t x f=>(uF P t (e x) f some).bind fun d=>some (b.ae,d)
 | .field t x f=>(LF P t (e x) f some).bind fun d=>some (b.ae,d)
 | .indexAddr t x ix=>(vG Γ P b o.dst t (e x) (e ix) some).bind fun d=>some (b.ae,d)
 | .index t x ix=>(LG P t (e x) (e ix) some).bind fun d=>some (b.ae,d)
 | .extract x i=>(AE (e x) i some).bind fun d=>some (b.ae,d)
 | .call { callee:=.builtin bi,args,argTypes }=>if HN Γ b.ae o.dst bi (args.toList.map e)=true then jL P b o.dst o.type bi (args.toList.map e) argTypes.toList else none
 | .call { callee:=.value f,args,.. }=>TD Γ b o.dst (e f) (args.toList.map e)
 | .makeMap t none=>AH P b o.dst t fun s d=>some (s.ae,d)
 | .lookup t x ix ok=>(GN P b t (e x) (e ix) ok some).bind fun d=>some (b.ae,d)
 | .mapUpdate t m q v=>(zB P b t (e m) (e q) (e v) fun s=>some s.ae).bind fun q=>some (q,D.top)
 | .insert t m q v=>(zB P b t (e m) (e q) (e v) fun s=>some s.ae).bind fun q=>some (q,D.top)
 | .mapEntry t m q=>GO P b t (e m) (e q) fun s d=>some (s.ae,d)
 | .entryStore t m q v=>(zP P b t (e m) (e q) (e v) fun s=>some s.ae).bind fun q=>some (q,D.top)
 | _=>none
end
section
variable {R:Type} {P:Program} {Γ:FuncId→Option Callee}
theorem QC(d:D)(k:Bool→Option R):RW d k=(RW d some).bind k:=by
 unfold RW O3
 split
 ·simp only[dX];rfl
 ·rfl
theorem SB(st:St)(dst:Option Nat)(ty:TypeId)(bi:Builtin)(args:List D)(ts:List TypeId)(k:St→D→Option R):
 JO P st dst ty bi args ts k=(jL P st.bare dst ty bi args ts).bind fun p=>k { st with ae:=p.1 } p.2:=by
 unfold JO
 split
 ·dsimp only[jL]
  rw[Gk,gD];rfl
 ·exact VF st dst _ _ _ _ k
 ·exact Ay st _ _ _ k
 ·dsimp only[jL]
  rw[TC,gD];rfl
 ·dsimp only[jL]
  rw[TC,gD];rfl
 ·rename_i h1 h2 h3 h4 h5
  unfold jL
  split
  ·exact(h1 _ _ rfl rfl rfl).elim
  ·exact(h2 _ _ _ _ rfl rfl rfl).elim
  ·exact(h3 _ _ _ _ rfl rfl rfl).elim
  ·exact(h4 _ _ _ _ rfl rfl rfl).elim
  ·exact(h5 _ _ _ _ rfl rfl rfl).elim
  ·rfl
theorem Ba(st:St)(dst:Option Nat)(t:TypeId)(d:D)(k:D→Option R):tA Γ P st dst t d k=(tA Γ P st.bare dst t d some).bind k:=by
 have hbx:wU st.bare d=wU st d:=rfl
 unfold tA
 rw[hbx]
 split
 ·exact C9 _ _ _ _
 ·split
  ·exact C9 _ _ _ _
  ·rfl
theorem X7(st:St)(dst:Option Nat)(t:TypeId)(x ix:D)(k:D→Option R):vG Γ P st dst t x ix k=(vG Γ P st.bare dst t x ix some).bind k:=by
 unfold vG
 split
 ·exact EC _ _ _ _ _
 ·split
  ·exact EC _ _ _ _ _
  ·rfl
theorem X8(st:St)(dst:Option Nat)(e:TypeId)(k:St→D→Option R):U6 Γ P st dst e k=(FE Γ P st.bare dst e).bind fun p=>k { st with ae:=p.1 } p.2:=by
 unfold U6 FE
 have ho:NA Γ st.bare dst=NA Γ st dst:=rfl
 rw[ho]
 generalize EN Γ=B
 cases B with
 | nil=>exact M1 _ _ _ _
 | cons w B=>
  dsimp only
  split
  case isFalse=>rfl
  refine(M1 _ _ _ _).trans ?_
  rw[gD]
  refine fG _ (funext fun p=>?_)
  have hb:st.bare.ae=st.ae:=rfl
  rw[hb]
  split <;> rfl
theorem ED(Γ:FuncId→Option Callee)(st:St)(dst:Option Nat)(t:TypeId)(l c:D)(k:St→D→Option R):jJ Γ P st dst t l c k=(jJ Γ P st.bare dst t l c fun s d=>some (s.ae,d)).bind fun p=>k { st with ae:=p.1 } p.2:=by
 unfold jJ
 split
 ·exact VD _ _ _ _ _ _
 ·exact ND _ _ _ _ _ _
theorem NE(Γ:FuncId→Option Callee)(st:St)(dst:Option Nat)(t:TypeId)(l c:D)(k:St→D→Option R):mX Γ P st dst t l c k=(mX Γ P st.bare dst t l c fun s d=>some (s.ae,d)).bind fun p=>k { st with ae:=p.1 } p.2:=by
 have hown:NA Γ st.bare dst=NA Γ st dst:=rfl
 unfold mX
 cases EN Γ with
 | nil=>exact ED _ _ _ _ _ _ _
 | cons w B=>
  dsimp only
  rw[hown]
  split
  ·exact ED _ _ _ _ _ _ _
  ·rfl
theorem Kl(st:St)(dst:Option Nat)(d:D):(st.put dst d).ae=st.ae:=by cases dst <;> rfl
theorem Bb(hΓ:∀f A,Γ f=some A→A.Nat)(st:St)(dst:Option Nat)(f:D)(args:List D)(k:St→Option R):
 Cu Γ st dst f args k=(TD Γ st.bare dst f args).bind fun p=>k (({ st with ae:=p.1 }:St).put dst p.2):=by
 unfold Cu TD
 have hb0:st.bare.ae=st.ae:=rfl
 rw[hb0]
 split
 case isFalse=>rfl
 unfold Al QB
 generalize EN Γ=B
 cases B with
 | nil=>exact FD hΓ st dst _ _ fun st d=>k (st.put dst d)
 | cons q B=>
  dsimp only
  split
  ·exact FD hΓ st dst _ _ fun st d=>k (st.put dst d)
  split
  ·refine(FD hΓ st dst _ _ _).trans ?_
   rw[gD]
   refine fG _ (funext fun p=>?_)
   rw[Kl]
   have hb:st.bare.ae=st.ae:=rfl
   rw[hb]
   split <;> rfl
  ·rfl
theorem QD(hΓ:∀f A,Γ f=some A→A.Nat)(o:Oper)(st:St)(k:St→Option R):Sx P Γ o st k=(LV P Γ o st.bare (ev st)).bind fun p=>k (({ st with ae:=p.1 }:St).put o.dst p.2):=by
 obtain⟨dst,op,ty,pos,after,guard⟩:=o
 unfold Sx LV
 cases op with
 | move x=>rfl
 | assign x=>rfl
 | pick c x y=>
  dsimp only
  rw[QC,gD]
  exact fG _ (funext fun q=>by cases q <;> rfl)
 | alloc e=>exact X8 st dst _ fun st d=>k (st.put dst d)
 | box e x=>exact Gq st dst _ fun st d=>k (st.put dst d)
 | build t parts=>dsimp only;rw[X1,gD];rfl
 | buildSlice t n parts=>
  show (if XL Γ st.ae dst=true then _ else _)=Option.bind (if XL Γ st.ae dst=true then _ else _) _
  split
  ·exact LU st dst _ _ _ fun st d=>k (st.put dst d)
  ·rfl
 | load t x=>
  dsimp only
  split
  ·rw[Ba,gD];rfl
  ·rfl
 | store t x v=>
  dsimp only
  split
  ·rw[XZ,gD];rfl
  ·rfl
 | nilCheck x=>dsimp only;rw[Gj,gD];rfl
 | binOp op t x y yt=>dsimp only;rw[Gp,gD];rfl
 | unOp op t x=>dsimp only;rw[Ki,gD];rfl
 | convert s t x=>dsimp only;rw[Ax,gD];rfl
 | makeFunc fn f c=>dsimp only;rw[P7,gD];rfl
 | makeSlice t l c=>exact NE Γ st dst _ _ _ fun st d=>k (st.put dst d)
 | slice t x lo hi mx=>
  dsimp only
  split
  ·exact X4 st t _ _ _ _ fun st d=>k (st.put dst d)
  ·rfl
 | fieldAddr t x f=>dsimp only;rw[NC,gD];rfl
 | field t x f=>dsimp only;rw[X2,gD];rfl
 | indexAddr t x ix=>dsimp only;rw[X7,gD];rfl
 | index t x ix=>dsimp only;rw[X3,gD];rfl
 | extract x i=>dsimp only;rw[R9,gD];rfl
 | call c=>
  obtain⟨callee,args,argTypes⟩:=c
  cases callee with
  | builtin b=>
   have hb0:st.bare.ae=st.ae:=rfl
   dsimp only
   rw[hb0]
   split
   ·exact SB st dst ty b _ _ fun st d=>k (st.put dst d)
   ·rfl
  | value f=>exact Bb hΓ st dst _ _ k
  | _=>rfl
 | makeMap t h=>
  cases h with
  | none=>exact SA st dst t fun st d=>k (st.put dst d)
  | some x=>rfl
 | lookup t x ix ok=>dsimp only;rw[VG,gD];rfl
 | mapUpdate t m q v=>dsimp only;rw[JY,gD];rfl
 | insert t m q v=>dsimp only;rw[JY,gD];rfl
 | mapEntry t m q=>exact VH st t _ _ fun st d=>k (st.put dst d)
 | entryStore t m q v=>dsimp only;rw[P9,gD];rfl
 | _=>rfl
end
section
variable (P:Program) (Γ:FuncId→Option Callee) (ops:Array Oper)
def TE(d:D):Option Bool:=match d with
 | .s (.c (.t (.v (.bool b))))=>some b
 | _=>none
def De(want:Bool)(d:D):Option Bool:=Gb d (some false) ((TE d).map (·==want))
def gd(o:Oper)(st:St):Option Bool:=match o.guard with
 | none=>some true
 | some (j,want)=>match (ops[j]?).bind (·.dst) with
  | none=>none
  | some t=>De want (st.env.getD t D.top)
def qQ(o:Oper)(st:St):Option (List O×D):=(gd ops o st).bind fun w=>bif w then LV P Γ o st.bare (ev st) else some (st.ae,R6)
def St.with(st:St)(dst:Option Nat)(p:List O×D):St:=({ st with ae:=p.1 }:St).put dst p.2
def yW(i:Nat)(st:St):Option St:=match ops[i]? with
 | none=>some st
 | some o=>(qQ P Γ ops o st).map (st.with o.dst)
end
section
variable {R:Type} {P:Program} {Γ:FuncId→Option Callee} {ops:Array Oper}
theorem Gt(d:D)(k:Bool→Option R):RW d k=(TE d).bind k:=by
 cases d with
 | eg l=>rfl
 | s x=>cases x with
  | agg l=>rfl
  | c c=>cases c with
   | t x=>cases x with
    | v y=>cases y <;> rfl
    | _=>rfl
   | _=>rfl
theorem Kn{d:D}{b:Bool}(h:TE d=some b):d=dB b:=by
 unfold TE at h
 split at h
 ·cases h;rfl
 ·cases h
theorem Ko(st:St){t:Nat}{b:Bool}(h:st.env.getD t D.top=dB b):st.put (some t) (dB b)=st:=by
 unfold St.put
 have hlt:t<st.env.length:=by
  apply EW
  intro hge
  rw[jY,tJ (by omega)] at h
  cases h
 have:st.env[t]=dB b:=by rw[jY,dH hlt] at h;exact h
 have h2:st.env.set t (dB b)=st.env:=by rw[←this];exact List.set_getElem_self hlt
 dsimp only
 rw[h2]
theorem zR(hΓ:∀f A,Γ f=some A→A.Nat):∀(l:List Nat) (st:St) (k:St→Option R),JP P Γ ops l st k=(l.foldlM (fun st i=>yW P Γ ops i st) st).bind k
 | [],st,k=>rfl
 | i::l,st,k=>by
  rw[ZV]
  simp only[JP,yW]
  cases ho:ops[i]? with
  | none=>exact zR hΓ l st k
  | some o=>
   dsimp only
   have fin:∀(p:Option (List O×D)),(p.bind fun p=>JP P Γ ops l (({ st with ae:=p.1 }:St).put o.dst p.2) k)=((p.map (st.with o.dst)).bind fun s=>l.foldlM (fun st i=>yW P Γ ops i st) s).bind k:=fun p=>by
    cases p with
    | none=>rfl
    | some p=>exact zR hΓ l _ k
   cases hg:o.guard with
   | none=>
    dsimp only
    rw[QD hΓ]
    have:qQ P Γ ops o st=LV P Γ o st.bare (ev st):=by simp[qQ,gd,hg]
    rw[this]
    exact fin _
   | some g=>
    obtain⟨j,want⟩:=g
    dsimp only
    cases hd:(ops[j]?).bind (·.dst) with
    | none=>simp[qQ,gd,hg,hd]
    | some t=>
     dsimp only
     rw[Gt]
     unfold Gb
     split
     ·rename_i hoff
      have he:qQ P Γ ops o st=some (st.ae,R6):=by
       simp only[qQ,gd,hg,hd,hoff,De,Gb,tG,aK]
      rw[he]
      exact fin (some (st.ae,R6))
     rename_i hoff
     have hbw:De want (st.env.getD t D.top)=(TE (st.env.getD t D.top)).map (·==want):=by
      unfold De Gb
      split
      ·rename_i h;exact(hoff h).elim
      ·rfl
     cases hb:TE (st.env.getD t D.top) with
     | none=>simp only[qQ,gd,hg,hd,hbw,hb];rfl
     | some b=>
      have hs:=Ko st (Kn hb)
      have he:qQ P Γ ops o st=bif b==want then LV P Γ o st.bare (ev st) else some (st.ae,R6):=by
       simp only[qQ,gd,hg,hd,hbw,hb,fA,tG]
      rw[he]
      cases b with
      | true=>
       simp only[tG,aN]
       rw[hs]
       cases want with
       | true=>simp only[eY];rw[QD hΓ];exact fin _
       | false=>exact fin (some (st.ae,R6))
      | false=>
       simp only[tG,aK]
       rw[hs]
       cases want with
       | true=>exact fin (some (st.ae,R6))
       | false=>simp only[nL,iD];rw[QD hΓ];exact fin _
theorem Tf{st:St}{t:Nat}{d:D}{x:Operand}(h:x≠.tmp t):ev (st.put (some t) d) x=ev st x:=by
 cases x with
 | tmp i=>
  have hne:t≠i:=fun e=>h (e▸rfl)
  simp only[ev,St.put,jY]
  rw[fK hne]
 | _=>rfl
theorem Kp(st:St)(dst:Option Nat)(d:D):(st.put dst d).bare=st.bare:=by
 cases dst with
 | none=>rfl
 | some i=>simp[St.put,St.bare]
theorem Gu{e e':Operand→D}(o:Oper)(b:St)(h:∀x∈o.op.operands,e x=e' x):LV P Γ o b e=LV P Γ o b e':=by
 obtain⟨dst,op,type,pos,after,guard⟩:=o
 have pairs:∀ps:Array (Nat×Operand),(∀x∈(ps.toList.map (·.2)).toArray,e x=e' x)→(ps.toList.map fun p=>(p.1,e p.2))=(ps.toList.map fun p=>(p.1,e' p.2)):=fun ps hp=>
  OJ fun p hm=>by rw[hp p.2 (by simp only[List.mem_toArray,kZ];exact⟨p,hm,rfl⟩)]
 have mg:∀l:Array Operand,(∀x∈l,e x=e' x)→l.toList.map e=l.toList.map e':=fun l hl=>OJ fun x hx=>hl x (Array.mem_toList_iff.1 hx)
 cases op <;> simp only[Op.operands] at h <;> unfold LV <;> dsimp only
 case build t ps=>rw[pairs ps h]
 case buildSlice t n ps=>rw[pairs ps h]
 case makeFunc fn first captured=>rw[mg first fun x hx=>h x (by simp[hx]),mg captured fun x hx=>h x (by simp[hx])]
 case slice t x lo hi mx=>cases lo <;> cases hi <;> cases mx <;> simp_all
 case makeMap t q=>cases q <;> rfl
 case call c=>
  obtain⟨callee,args,ats⟩:=c
  have hargs:=mg args fun x hx=>h x (by simp[Call.operands,hx])
  cases callee with
  | builtin bi=>dsimp only;rw[hargs]
  | value f=>dsimp only;rw[hargs,h f (by simp[Call.operands])]
  | _=>rfl
 all_goals first
  | rfl
  | (simp_all;done)
theorem Df{o:Oper}{st:St}{dst:Option Nat}{d:D}(h:∀t,dst=some t→t∉o.looksAt ops):qQ P Γ ops o (st.put dst d)=qQ P Γ ops o st:=by
 cases dst with
 | none=>rfl
 | some t=>
  have ht:=h t rfl
  have h1:LV P Γ o (st.put (some t) d).bare (ev (st.put (some t) d))=LV P Γ o st.bare (ev st):=by
   rw[Kp]
   exact Gu o st.bare fun x hx=>Tf fun e=>ht (by
    subst e
    exact yU _ (MI.2 ⟨.tmp t,by simpa using hx,rfl⟩))
  have h2:gd ops o (st.put (some t) d)=gd ops o st:=by
   unfold gd
   cases hg:o.guard with
   | none=>rfl
   | some g=>
    obtain⟨j,want⟩:=g
    dsimp only
    cases hd:(ops[j]?).bind (·.dst) with
    | none=>rfl
    | some i=>
     have hne:t≠i:=fun e=>ht (by
      subst e
      refine JA _ ?_
      simp[hg,hd])
     dsimp only[St.put]
     rw[jY,jY,fK hne]
  unfold qQ
  rw[h1,h2]
  rfl
end
def Tg(pl:List Nat):Option Nat→Bool
 | some s=>pl.contains (30000000+s)
 | none=>false
def Pi(pl:List Nat)(o:Oper):Bool:=match o.op with
 | .call { callee:=.value (.func f),.. }=>pl.contains (f+1000000)&&!Tg pl o.dst
 | .call { callee:=.builtin .min,.. }=>true
 | .call { callee:=.builtin .max,.. }=>true
 | .move _=>true
 | .assign _=>true
 | .pick _ _ _=>true
 | .build _ _=>true
 | .nilCheck _=>true
 | .unOp _ _ _=>true
 | .makeFunc _ _ _=>true
 | .fieldAddr _ _ _=>true
 | .field _ _ _=>true
 | .index _ _ _=>true
 | .extract _ _=>true
 | .binOp .eql _ _ _ _=>false
 | .binOp .neq _ _ _ _=>false
 | .binOp _ _ _ _ _=>true
 | _=>false
def jd(pl:List Nat)(o:Oper):Bool:=match o.op with
 | .load _ _=>true
 | .convert _ _ _=>true
 | .indexAddr _ _ _=>true
 | .binOp _ _ _ _ _=>true
 | .lookup _ _ _ _=>true
 | .slice _ _ lo hi mx=>lo.isSome||hi.isSome||mx.isSome
 | .call { callee:=.builtin .len,.. }=>true
 | .call { callee:=.builtin .min,.. }=>true
 | .call { callee:=.builtin .max,.. }=>true
 | .call { callee:=.value (.func f),.. }=>pl.contains f||pl.contains (f+1000000)
 | _=>Pi pl o
def Callee.gk(A:Callee):Prop:=(A.inl=none∧A.ext=none)∧∀(args:List S1) (po:List O) (rs:List S1) (po':List O),A.call args po (fun rs po'=>some (rs,po'))=some (rs,po')→po=[]∧po'=[]∧rs.all (fun s=>s.list.all E8)=true
def Callee.Pure(A:Callee):Prop:=A.ext=none∧∀{b:St} {dst:Option _root_.Nat} {ds:List D} {p:List O×D},(yV A b dst ds fun s d=>some (s.ae,d))=some p→p.1=b.ae
def Callee.gl(A:Callee):Prop:=A.ext=none∧∀(b:St) (q:List O) (dst:Option _root_.Nat) (ds:List D),(yV A { b with ae:=q } dst ds fun s d=>some (s.ae,d))=(yV A b dst ds fun s d=>some (s.ae,d)).map fun p=>(q,p.2)
def bk(o o':List O)(k:Nat):Prop:=∀l,o[k]?=some (.box l)↔o'[k]?=some (.box l)
theorem sC{o:List O}{K:Nat}{x:O}{k:Nat}(h1:oS o[K]?=false)(h2:oS (some x)=false):bk o (o.set K x) k:=fun l=>by
 by_cases hk:K=k
 ·subst hk
  constructor
  ·intro h;rw[h] at h1;cases h1
  ·intro h
   rw[qO] at h
   split at h
   ·split at h
    ·cases h;cases h2
    ·cases h
   ·exact h
 ·rw[fK hk]
theorem bk.trans{a b c:List O}{k:Nat}(h1:bk a b k)(h2:bk b c k):bk a c k:=fun l=>(h1 l).trans (h2 l)
theorem bk.refl(a:List O)(k:Nat):bk a a k:=fun _=>DX
theorem AL{α:Type}{st:St}{dst:Option Nat}{o:O}{f:St→Nat→Option α}{r:α}(ho:oS (some o)=false)(h:qP st dst o f=some r):∃K,(∀k,bk st.ae (st.ae.set K o) k)∧f { st with ae:=st.ae.set K o } K=some r:=by
 unfold qP at h
 split at h
 ·split at h
  ·rename_i d _ hf
   exact⟨_,fun k=>sC (by rw[hf];rfl) ho,h⟩
  ·split at h
   ·rename_i hf
    exact⟨_,fun k=>sC (by rw[hf];rfl) ho,h⟩
   ·split at h
    ·rename_i K hK
     have hm:K∈(List.range st.ae.length).filter fun i=>decide (st.np≤i)&&uA st.ae[i]?:=by
      unfold AB at hK
      exact T5 hK
     have h2:=(B8.1 hm).2
     simp only[cS] at h2
     exact⟨_,fun k=>sC (by
      have:=h2.2
      unfold uA at this
      split at this
      ·rename_i e;rw[e];rfl
      ·cases this) ho,h⟩
    ·cases h
 ·cases h
theorem SC{P:Program}{b:St}{dst:Option Nat}{t u:TypeId}{s x:D}{p:List O×D}(h:(A8 P b dst t u s x fun s d=>some (s.ae,d))=some p)(k:Nat):bk b.ae p.1 k:=by
 have own:∀{e:TypeId} {n:Nat} {c:C} {f:St→List T→Option (List O×D)},M7 b e n c f=some p→(∀st l,bk b.ae st.ae k→f st l=some p→bk b.ae p.1 k)→bk b.ae p.1 k:=fun {e n c f} h hf=>by
  unfold M7 at h
  split at h
  ·exact hf _ _ (.refl _ _) h
  ·split at h
   ·rename_i hob
    split at h
    ·exact hf _ _ (sC (by rw[hob];rfl) rfl) h
    ·cases h
   ·cases h
  ·split at h
   ·rename_i hob
    split at h
    ·exact hf _ _ (sC (by rw[hob];rfl) rfl) h
    ·cases h
   ·cases h
  ·cases h
 have tail:∀{st:St} {e n:Nat} {q:List T},bk b.ae st.ae k→(qP st dst (.row false e n q) fun st key=>some (st.ae,D.s (.c (.row key))))=some p→bk b.ae p.1 k:=fun {st e n q} hb h=>by
  obtain⟨K,h1,h2⟩:=AL rfl h
  cases h2
  exact hb.trans (h1 k)
 unfold A8 at h
 split at h
 case h_2=>cases h
 split at h
 case h_2=>cases h
 split at h
 case h_2=>cases h
 split at h
 case isFalse=>cases h
 unfold zN at h
 split at h
 case h_2=>cases h
 split at h
 ·split at h
  case h_2=>cases h
  unfold yI at h
  dsimp only at h
  split at h
  ·obtain⟨l,_,h⟩:=bO h
   exact own h fun st l hb h=>by
    obtain⟨q,_,h⟩:=bO h
    exact tail hb h
  ·split at h
   ·split at h
    ·exact own h fun st l hb h=>by
      obtain⟨q,_,h⟩:=bO h
      exact tail hb h
    ·cases h
   ·cases h
  ·split at h
   ·split at h
    ·exact own h fun st l hb h=>by
      obtain⟨q,_,h⟩:=bO h
      exact tail hb h
    ·cases h
   ·cases h
  ·cases h
 ·split at h
  ·obtain⟨s',h⟩:∃s',(M7 b _ 1 _ fun st l=>ob (qE l (BP s') 1) fun q=>qP st dst (.row false _ 1 q) fun st key=>some (st.ae,D.s (.c (.row key))))=some p:=by
    cases x with
    | eg l=>cases h
    | s sx=>cases sx with
     | agg l=>cases h
     | c cx=>cases cx with
      | t tx=>
       obtain⟨s',_,h⟩:=bO (show ob tx.il _=some p from h)
       exact⟨s',h⟩
      | _=>cases h
   exact own h fun st l hb h=>by
    obtain⟨q,_,h⟩:=bO h
    exact tail hb h
  ·cases h
theorem AM{R:Type}{ix:D}{f:Int→Option R}{r:R}(h:qZ ix f=some r):∃i,f i=some r∧∀{S:Type} (g:Int→Option S),qZ ix g=g i:=by
 unfold qZ O3 at h
 unfold qZ O3
 cases ix with
 | eg l=>cases h
 | s s=>cases s with
  | agg l=>cases h
  | c c=>cases c with
   | t x=>
    dsimp only at h ⊢
    obtain⟨i,h1,h2⟩:=bO h
    exact⟨i,h2,fun g=>by rw[h1];rfl⟩
   | _=>cases h
theorem Bc{R:Type}{st:St}{n:Nat}{c:C}{f:List T→Option R}{r:R}(h:yI st n c f=some r):∃m,f m=some r:=by
 unfold yI at h
 split at h
 ·obtain⟨l,_,h⟩:=bO h
  exact⟨l,h⟩
 ·split at h
  ·split at h
   ·exact⟨_,h⟩
   ·cases h
  ·cases h
 ·split at h
  ·split at h
   ·exact⟨_,h⟩
   ·cases h
  ·cases h
 ·cases h
theorem X9{P:Program}{b:St}{dst:Option Nat}{t u:TypeId}{key i:Nat}{x:D}{p:List O×D}(h:(MO P b dst t u key i x fun s d=>some (s.ae,d))=some p)(k:Nat):bk b.ae p.1 k:=by
 unfold MO at h
 split at h
 case h_2=>cases h
 split at h
 case h_2=>cases h
 split at h
 case h_2=>cases h
 split at h
 case isFalse=>cases h
 unfold zN at h
 split at h
 case h_2=>cases h
 obtain⟨m,h⟩:=Bc h
 split at h
 case h_2=>cases h
 rename_i hob
 split at h
 case isFalse=>cases h
 obtain⟨old,_,h⟩:=bO h
 obtain⟨q,_,h⟩:=bO h
 obtain⟨K,h1,h2⟩:=AL rfl h
 cases h2
 refine(h1 k).trans (sC ?_ rfl)
 rw[qO]
 split
 ·split <;> rfl
 ·rw[hob];rfl
theorem SD{P:Program}{b:St}{dst:Option Nat}{t u:TypeId}{s x:D}{p:List O×D}(h:(y0 P b dst t u s x fun s d=>some (s.ae,d))=some p)(k:Nat):bk b.ae p.1 k:=by
 unfold y0 at h
 split at h
 ·exact X9 h k
 ·exact SC h k
theorem BU(k:Nat):∀(ks:List Nat) (ae:List O),bk ae (ai ae ks) k
 | [],ae=>.refl _ _
 | x::ks,ae=>by
  unfold ai
  split
  ·rename_i o ho
   refine bk.trans (fun l=>?_) (BU k ks _)
   by_cases hk:x=k
   ·subst hk
    have hlt:x<ae.length:=by
     rw[dL] at ho
     exact ho.1
    rw[iJ hlt,ho]
    cases o <;> simp[nH]
   ·rw[fK hk]
  ·exact BU k ks ae
theorem Gv{R:Type}{P:Program}{t:TypeId}{c:C}{k:T→Option R}{r:R}(h:MM P t c k=some r):∃x,k x=some r:=by
 unfold MM at h
 split at h
 ·obtain⟨n,_,h⟩:=bO h;exact⟨_,h⟩
 ·obtain⟨n,_,h⟩:=bO h;exact⟨_,h⟩
 ·obtain⟨n,_,h⟩:=bO h;exact⟨_,h⟩
 ·split at h
  ·split at h
   ·obtain⟨n,_,h⟩:=bO h;exact⟨_,h⟩
   ·cases h
  ·cases h
 ·split at h
  ·exact⟨_,h⟩
  ·cases h
theorem IU{R:Type}{P:Program}{r:R}:∀{ts:List TypeId} {cs:List C} {k:List T→Option R},oR P ts cs k=some r→∃xs,k xs=some r
 | [],[],k,h=>⟨[],h⟩
 | [],_::_,k,h=>by simp[oR] at h
 | _::_,[],k,h=>by simp[oR] at h
 | t::ts,c::cs,k,h=>by
  simp only[oR] at h
  obtain⟨x,h⟩:=Gv h
  obtain⟨xs,h⟩:=IU h
  exact⟨_,h⟩
theorem QE{ae:List O}{cs:List C}{q:List O×List C}(h:RX ae cs=some q)(k:Nat):bk ae q.1 k:=by
 unfold RX at h
 obtain⟨l,_,h⟩:=I4.1 h
 subst h
 exact BU k _ _
theorem JZ{P:Program}{b:St}{dst:Option Nat}{t:TypeId}{n:Nat}{parts:List (Nat×D)}{p:List O×D}(h:(kN P b dst t n parts fun s d=>some (s.ae,d))=some p)(k:Nat):bk b.ae p.1 k:=by
 unfold kN at h
 split at h
 ·split at h
  case h_2=>cases h
  split at h
  case h_2=>cases h
  split at h
  case isFalse=>cases h
  obtain⟨K,h1,h2⟩:=AL rfl h
  cases h2
  exact h1 k
 ·unfold oD at h
  split at h
  case h_2=>cases h
  split at h
  case h_2=>cases h
  split at h
  case h_2=>cases h
  split at h
  case h_2=>cases h
  split at h
  case isFalse=>cases h
  split at h
  case h_2=>cases h
  split at h
  case h_2=>cases h
  rename_i q hq
  split at h
  case h_2=>cases h
  have h:=h
  rw[show ∀(ts:List TypeId) (cs:List C) (f:List T→Option (List O×D)),oR P ts cs f=(oR P ts cs some).bind f from fun ts cs f=>rZ ts cs some f] at h
  obtain⟨ts,_,h⟩:=pS.1 h
  obtain⟨K,h1,h2⟩:=AL rfl h
  cases h2
  exact(QE hq k).trans (h1 k)
theorem N1:∀(l acc:List Nat) (k:Nat),k∈Oe acc l→k∈acc∨k∈l
 | [],acc,k,h=>by simp only[Oe,List.mem_reverse] at h;exact .inl h
 | a::l,acc,k,h=>by
  simp only[Oe] at h
  split at h
  ·rcases N1 l acc k h with h | h
   ·exact .inl h
   ·exact .inr (by simp[h])
  ·rcases N1 l (a::acc) k h with h | h
   ·rcases cJ.1 h with h | h
    ·subst h;exact .inr (by simp)
    ·exact .inl h
   ·exact .inr (by simp[h])
def Callee.dq(A:Callee):Prop:=A.ext=none∧(∀{b:St} {dst:Option _root_.Nat} {ds:List D} {p:List O×D},(yV A b dst ds fun s d=>some (s.ae,d))=some p →
 ∀k l,(∀d∈ds,k∉S0 d)→b.ae[k]?=some (.box l)→p.1[k]?=some (.box l)) ∧
 ∀{b:St} {dst:Option _root_.Nat} {ds:List D} {p:List O×D},(yV A b dst ds fun s d=>some (s.ae,d))=some p→∀k,Sv b.ae[k]?=true→Ak b.ae k ds=true→p.1[k]?=b.ae[k]?
theorem Callee.Pure.ju{A:Callee}(h:A.Pure):A.dq:=⟨h.1,fun hp k l _ hb=>by rw[h.2 hp];exact hb,fun hp k _ _=>by rw[h.2 hp]⟩
theorem DA:∀(cs:List C) (ms:List (Option (TypeId×Nat))) (k:Nat),k∈lP ms cs→∃c∈cs,k∈C.rs c
 | [],ms,k,h=>by cases ms <;> simp[lP] at h
 | c::cs,ms,k,h=>by
  simp only[lP] at h
  split at h
  ·obtain⟨c',h1,h2⟩:=DA cs ms.tail k h
   exact⟨c',dY _ h1,h2⟩
  ·rcases fL.1 h with h | h
   ·exact⟨c,UB ..,h⟩
   ·obtain⟨c',h1,h2⟩:=DA cs ms.tail k h
    exact⟨c',dY _ h1,h2⟩
theorem Gw{st:St}{m:TypeId×Nat}{c:C}{p:Option Nat×O}{k:Nat}(h:PD st m c=some p)(hk:p.1=some k):k∈C.rs c:=by
 unfold PD at h
 split at h
 ·split at h
  ·split at h
   case isFalse=>cases h
   cases h
   cases hk
   simp[C.rs]
  ·split at h
   case isFalse=>cases h
   cases h
   cases hk
   simp[C.rs]
  ·cases h
 ·split at h
  case isFalse=>cases h
  cases h
  cases hk
 ·cases h
theorem LW{st:St}{ks:List Nat}:∀(cs:List C) (j:Nat) (ms:List (Option (TypeId×Nat))) (cs':List C) (rws:List (Option Nat×O)),rI st ks j ms cs=some (cs',rws)→∀p∈rws,∀k,p.1=some k→∃c∈cs,k∈C.rs c
 | [],j,ms,cs',rws,hh,p,hp,k,hk=>by
  cases ms <;> (simp only[rI,cG,xR] at hh;obtain⟨_,rfl⟩:=hh;simp at hp)
 | c::cs,j,ms,cs',rws,hh,p,hp,k,hk=>by
  simp only[rI] at hh
  split at hh
  ·split at hh
   ·rename_i p' q hp' hq
    cases hh
    rcases cJ.1 hp with rfl | hp
    ·exact⟨c,UB ..,Gw hp' hk⟩
    ·obtain⟨c',h1,h2⟩:=LW cs (j+1) ms.tail _ _ hq p hp k hk
     exact⟨c',dY _ h1,h2⟩
   ·cases hh
  ·split at hh
   ·rename_i c' q hp' hq
    cases hh
    obtain⟨c',h1,h2⟩:=LW cs j ms.tail _ _ hq p hp k hk
    exact⟨c',dY _ h1,h2⟩
   ·cases hh
theorem VI{ae:List O}{k:Nat}{ss:List S1}{bl:List (List C)}(h:Ak ae k (ss.map .s)=true)(hbl:rT ((xW false ae ss).map (CD ae))=some bl):(∀c∈ss.flatMap S1.list++bl.flatten,k∉C.rs c)∧k∉xW false ae ss:=by
 have h0:∀s∈ss,∀c∈s.list,k∉C.rs c∧∀k'∈c.ks,k'≠k∧k∉Ri ae[k']?:=fun s hs c hc=>by
  have:=jF.1 (jF.1 h (.s s) (kZ.2 ⟨s,hs,rfl⟩)) c hc
  rw[cS] at this
  refine⟨fun hm=>?_,fun k' hk'=>?_⟩
  ·have h1:=this.1
   rw[OH.2 hm] at h1;cases h1
  ·have:=jF.1 this.2 k' hk'
   rw[cS] at this
   refine⟨fun e=>?_,fun hm=>?_⟩
   ·subst e;have:=this.1;simp at this
   ·have h1:=this.2
    rw[OH.2 hm] at h1;cases h1
 have hk0:∀k'∈xW false ae ss,∃s∈ss,∃c∈s.list,k'∈c.ks:=fun k' hk'=>by
  unfold xW MS at hk'
  dsimp only[cond_false] at hk'
  rcases N1 _ _ _ hk' with h1 | h1
  ·cases h1
  ·obtain⟨s,hs,h1⟩:=I5.1 h1
   obtain⟨c,hc,h1⟩:=I5.1 h1
   exact⟨s,hs,c,hc,h1⟩
 refine⟨fun c hc=>?_,fun hm=>?_⟩
 ·rcases fL.1 hc with hc | hc
  ·obtain⟨s,hs,hc⟩:=I5.1 hc
   exact(h0 s hs c hc).1
  ·obtain⟨l,hl,hc⟩:=List.mem_flatten.1 hc
   have h1:=UX hbl
   have h2:some l∈(xW false ae ss).map (CD ae):=by rw[h1];exact kZ.2 ⟨l,hl,rfl⟩
   obtain⟨k',hk',h3⟩:=kZ.1 h2
   obtain⟨s,hs,c',hc',h4⟩:=hk0 k' hk'
   have h5:=((h0 s hs c' hc').2 k' h4).2
   have h6:ae[k']?=some (.box l):=by
    unfold CD at h3
    split at h3
    ·rename_i l' he
     cases h3
     exact he
    ·cases h3
   rw[h6] at h5
   exact fun hm=>h5 (I5.2 ⟨c,hc,hm⟩)
 ·obtain⟨s,hs,c,hc,h1⟩:=hk0 k hm
  exact((h0 s hs c hc).2 k h1).1 rfl
theorem VJ{A:Callee}(hN:A.Nat)(hi:A.inl=none)(he:A.ext=none)(hd:A.deep=false:=by rfl):A.dq:=by
 refine⟨he,?_,?_⟩
 rotate_left
 ·intro b dst ds p h k ho hoff
  obtain⟨hN,_⟩:=hN
  unfold yV at h
  rw[hi] at h
  dsimp only at h
  unfold AG at h
  split at h
  ·cases h
  rename_i ss hss
  have hds:=LL hss
  rw[hd] at h
  rw[hds] at hoff
  split at h
  ·cases h
  rename_i bl hbl
  obtain⟨hc1,hc2⟩:=VI hoff hbl
  split at h
  ·cases h
  rename_i cs rws hhand
  dsimp only at h
  split at h
  case isFalse=>cases h
  rw[hN] at h
  obtain⟨q,hq,h2⟩:=pS.1 h
  obtain⟨rs,po'⟩:=q
  dsimp only at h2
  split at h2
  ·cases h2;rfl
  split at h2
  ·cases h2
  rename_i nk hnk
  split at h2
  case isFalse=>cases h2
  split at h2
  case h_2=>cases h2
  cases h2
  dsimp only
  have hfz:(ai b.ae (lP A.rows (ss.flatMap S1.list++bl.flatten)))[k]?=b.ae[k]?:=xN _ _ _ fun hm=>by
   obtain⟨c,h1,h2⟩:=DA _ _ _ hm
   exact hc1 c h1 h2
  rw[uH]
  ·exact hfz
  ·intro hm
   rcases fL.1 hm with hm | hm
   ·rcases fL.1 hm with hm | hm
    ·obtain⟨k',hk',e⟩:=kZ.1 hm
     cases e
     exact hc2 hk'
    ·obtain⟨r,hr,e⟩:=kZ.1 hm
     obtain⟨c,h1,h2⟩:=LW _ _ _ _ _ hhand r hr k e
     exact hc1 c h1 h2
   ·obtain⟨k',hk',e⟩:=kZ.1 hm
    cases e
    have:=((LN hnk).2 k hk').1
    rw[hfz] at this
    rw[this] at ho
    cases ho
 intro b dst ds p h k l hk hb
 obtain⟨hN,_⟩:=hN
 unfold yV at h
 rw[hi] at h
 dsimp only at h
 unfold AG at h
 split at h
 ·cases h
 rename_i ss hss
 have hds:=LL hss
 split at h
 ·cases h
 split at h
 ·cases h
 rename_i cs rws hhand
 dsimp only at h
 split at h
 case isFalse=>cases h
 rw[hN] at h
 obtain⟨q,hq,h2⟩:=pS.1 h
 obtain⟨rs,po'⟩:=q
 dsimp only at h2
 split at h2
 ·cases h2;exact hb
 split at h2
 ·cases h2
 rename_i nk hnk
 split at h2
 case isFalse=>cases h2
 split at h2
 case h_2=>cases h2
 cases h2
 dsimp only
 rw[uH]
 ·exact rW _ _ _ _ hb
 ·intro hm
  rcases fL.1 hm with hm | hm
  ·rcases fL.1 hm with hm | hm
   ·obtain⟨k',hk',e⟩:=kZ.1 hm
    cases e
    rw[hd] at hk'
    unfold xW MS at hk'
    dsimp only[cond_false] at hk'
    rcases N1 _ _ _ hk' with h0 | h0
    ·cases h0
    ·obtain⟨s,hs,h1⟩:=I5.1 h0
     exact hk (.s s) (by rw[hds];exact kZ.2 ⟨s,hs,rfl⟩) h1
   ·obtain⟨r,hr,e⟩:=kZ.1 hm
    obtain⟨e',n,l',h1,h3,_⟩:=C3 _ _ _ _ _ hhand r hr
    have:=h3 k e
    rcases h1 with h1 | h1 <;> (rw[hb,h1] at this;cases this)
  ·obtain⟨k',hk',e⟩:=kZ.1 hm
   cases e
   have:=((LN hnk).2 k hk').1
   rw[rW _ _ _ _ hb] at this
   cases this
def Callee.jv(A:Callee):Prop:=∃I,A.ext=some I∧∀{R:Type} (ds:List D) (k:D→Option R),I.go ds k=none
def Kq(fD:D)(g:FuncId):Prop:=(∃v,fD=.s (.c (.t (.v v)))∧vE v=some g)∨∃caps,fD=.s (.c (.fn g caps))
theorem VK{Γ:FuncId→Option Callee}{b:St}{dst:Option Nat}{fD:D}{ds:List D}{p:List O×D}{k:Nat}(hall:∀g A,Γ g=some A→Kq fD g→A.dq∨A.jv)
 (h:(mW Γ b dst fD ds fun s d=>some (s.ae,d))=some p) (hk:∀d∈fD::ds,k∉S0 d) {l:List C} (hl:b.ae[k]?=some (.box l)):p.1[k]?=some (.box l):=by
 unfold mW zN at h
 split at h
 case h_2=>cases h
 rename_i cc
 dsimp only at h
 split at h
 ·rename_i v
  split at h
  case h_2=>cases h
  rename_i g hg
  split at h
  case h_2=>cases h
  rename_i A hA
  rcases hall g A hA (.inl ⟨v,rfl,hg⟩) with hF | ⟨I,hI,hn⟩
  ·rw[hF.1] at h
   exact hF.2.1 h k l (fun d hd=>hk d (dY _ hd)) hl
  ·rw[hI] at h
   dsimp only at h
   rw[hn] at h
   cases h
 ·rename_i g caps
  split at h
  case h_2=>cases h
  rename_i A hA
  rcases hall g A hA (.inr ⟨caps,rfl⟩) with hF | ⟨I,hI,hn⟩
  ·rw[hF.1] at h
   refine hF.2.1 h k l (fun d hd=>?_) hl
   rcases fL.1 hd with hd | hd
   ·exact hk d (dY _ hd)
   ·intro hkd
    unfold Ct at hd
    obtain⟨q,hq,rfl⟩:=kZ.1 hd
    have:k=q.1:=by simpa[S0,S1.list,C.ks] using hkd
    subst this
    refine hk _ (UB ..) ?_
    simp only[S0,S1.list,H9,List.flatMap_nil,ML,C.ks]
    exact kZ.2 ⟨q,hq,rfl⟩
  ·rw[hI] at h
   cases h
 ·cases h
def IV(pl:List Nat):Option Nat→Bool
 | some s=>pl.contains (20000000+s)
 | none=>true
def QF(pl:List Nat):Option Nat→Bool
 | some s=>pl.contains (20000000+s)
 | none=>false
def Bd(pl:List Nat)(o:Oper):Bool:=match o.op with
 | .load _ _=>!IV pl o.dst
 | .indexAddr _ _ _=>!IV pl o.dst
 | .slice _ _ lo hi none=>(lo.isSome||hi.isSome)&&!IV pl o.dst
 | .call { callee:=.builtin .len,.. }=>!IV pl o.dst
 | _=>false
def Pj(pl:List Nat)(o:Oper):Bool:=match o.op with
 | .call { callee:=.builtin .append,.. }=>true
 | .call { callee:=.value (.func f),.. }=>pl.contains (f+4000000)&&!QF pl o.dst
 | .call { callee:=.value _,.. }=>pl.contains 9000002&&!QF pl o.dst
 | .alloc _=>!IV pl o.dst
 | .store t _ _=>!pl.contains 28999999&&!pl.contains (80000000+t)
 | .buildSlice _ _ _=>true
 | .makeSlice _ _ _=>true
 | _=>false
def yL(Γ:FuncId→Option Callee)(pl:List Nat):Prop:=(∀f A,pl.contains f=true→Γ f=some A→A.Pure)∧(∀f A,pl.contains (f+1000000)=true→Γ f=some A→A.gl)∧(∀f A,pl.contains (f+4000000)=true→Γ f=some A→A.dq)∧(pl.contains 9000000=true→EN Γ≠[])∧(∀s,(gN Γ).contains s=true→pl.contains (20000000+s)=true)∧(pl.contains 9000002=true→∀f A,(f==2000000)=false→Γ f=some A→A.dq)∧(∀A,Γ 2000000=some A→A.jv) ∧
 (∀s,pl.contains (90000000+s)=true→(uI Γ).contains s=true)∧∀t,t<8000000→pl.contains (82000000+t)=true→(IR Γ).contains t=true
def Dg(o:Oper):Bool:=match o.op with
 | .load _ _=>true
 | .indexAddr _ _ _=>true
 | .call { callee:=.builtin .len,.. }=>true
 | _=>false
def TF(pl:List Nat)(o:Oper):Bool:=match o.op with
 | .load _ _=>match o.dst with
  | some s=>pl.contains (90000000+s)
  | none=>false
 | _=>false
def Dh(pl:List Nat)(o:Oper):Bool:=match o.op with
 | .store t _ _=>decide (t<8000000)&&pl.contains (82000000+t)
 | .buildSlice _ _ _=>true
 | _=>false
def TG(pl:List Nat)(o:Oper):Bool:=match o.op with
 | .load _ _=>match o.dst with
  | some s=>pl.contains (91000000+s)
  | none=>false
 | _=>false
def Di(pl:List Nat)(o:Oper):Bool:=match o.op with
 | .store t _ _=>decide (t<1000000)&&pl.contains (84000000+t)
 | _=>false
def Pk(o:Oper):Bool:=match o.op with
 | .alloc _=>true
 | .box _ _=>true
 | _=>false
def Pl(o:Oper):Bool:=o.guard.isNone&&match o.op with
 | .alloc _=>true
 | _=>false
def Pm(o:Oper):Bool:=o.guard.isNone&&match o.op with
 | .makeSlice _ _ _=>true
 | _=>false
def Dj(pl:List Nat)(o:Oper):Bool:=match o.op with
 | .store t _ _=>decide (t<1000000)&&pl.contains (83000000+t)
 | _=>false
def TH(o:Oper):Bool:=match o.op with
 | .call { callee:=.builtin .len,.. }=>true
 | _=>false
def TI(ops:Array Oper)(pl:List Nat)(x y:Oper):Bool:=x.apart ops y&&(Pi pl x||Pi pl y||(jd pl x&&jd pl y)||(pl.contains 9000000&&((Bd pl x&&Pj pl y)||(Pj pl x&&Bd pl y)))||(Dg x&&Pk y)||(pl.contains 9000000&&!pl.contains 28999999&&Pl x&&Pl y)||(pl.contains 9000000&&!pl.contains 28999999&&Pm x&&Pm y)||((TF pl x&&Dh pl y)||(Dh pl x&&TF pl y))||((TH x&&Dj pl y)||(Dj pl x&&TH y))||((TG pl x&&Di pl y)||(Di pl x&&TG pl y)))
def Pn(ops:Array Oper)(listed:Array Bool)(i:Nat):Nat→Nat→Bool
 | 0,_=>false
 | fuel+1,j=>match ops[j]? with
  | some oj=>oj.after.any fun e=>Region.binds .any e&&(e.on==i||(!listed.getD e.on true&&Pn ops listed i fuel e.on))
  | none=>false
def Kr(ops:Array Oper)(pl:List Nat)(listed:Array Bool)(i:Nat):Bool:=match ops[i]? with
 | none=>false
 | some oi=>(List.range ops.size).all fun j=>j==i||listed.getD j true||match ops[j]? with
  | some oj=>Pn ops listed i ops.size j||TI ops pl oi oj
  | none=>true
def Ks(ops:Array Oper)(pl:List Nat):Nat→Nat→Array Bool→Bool
 | 0,_,listed=>(Region.ready .any ops listed).isEmpty
 | fuel+1,k,listed=>(Region.ready .any ops listed).contains k&&Kr ops pl listed k&&Ks ops pl fuel (k+1) (listed.setIfInBounds k true)
def Kt(pl:List Nat)(ops:Array Oper):Bool:=Ks ops pl ops.size 0 (Array.replicate ops.size false)
section
variable {R:Type} {P:Program} {Γ:FuncId→Option Callee} {ops:Array Oper} {pl:List Nat}
theorem Gx{op:BinOp}(h1:op≠.eql)(h2:op≠.neq)(b b':St)(t yt:TypeId)(x y:D)(k:D→Option R):R4 P b op t yt x y k=R4 P b' op t yt x y k:=by
 unfold R4
 split
 ·split
  ·unfold zN
   split
   ·first
    | rfl
    | (rw[aA h1,aA h2,aA h1,aA h2])
   ·rfl
  ·rfl
 ·rfl
theorem Vl(hpl:yL Γ pl){o:Oper}(h:Pi pl o=true)(b s0:St)(q:List O):LV P Γ o { b with ae:=q } (ev s0)=(LV P Γ o b (ev s0)).map fun p=>(q,p.2):=by
 obtain⟨dst,op,type,pos,after,guard⟩:=o
 have bm:∀{α:Type} (x:Option α) (f:α→D),(x.bind fun d=>some (q,f d))=(x.bind fun d=>some (b.ae,f d)).map fun p=>(q,p.2):=fun x f=>by cases x <;> rfl
 unfold Pi at h
 unfold LV
 cases op with
 | call c=>
  obtain⟨callee,args,ats⟩:=c
  cases callee with
  | value f=>
   cases f with
   | func f=>
    dsimp only at h ⊢
    have hv:∀ds,(mW Γ { b with ae:=q } dst (ev s0 (.func f)) ds fun s d=>some (s.ae,d))=(mW Γ b dst (ev s0 (.func f)) ds fun s d=>some (s.ae,d)).map fun p=>(q,p.2):=fun ds=>by
     unfold mW zN
     dsimp only[ev]
     have hpf:vE (Value.func (.func f) #[] #[])=some f:=rfl
     rw[hpf]
     dsimp only
     cases hA:Γ f with
     | none=>rfl
     | some A=>
      dsimp only
      obtain⟨he,hq⟩:=hpl.2.1 f A (iC.1 h).1 hA
      rw[he]
      exact hq b q dst _
    have hself:∀ds p,(mW Γ b dst (ev s0 (.func f)) ds fun s d=>some (s.ae,d))=some p→p.1=b.ae:=fun ds p hp=>by
     have h2:=hv ds
     have h3:∀q,(mW Γ { b with ae:=q } dst (ev s0 (.func f)) ds fun s d=>some (s.ae,d))=(mW Γ b dst (ev s0 (.func f)) ds fun s d=>some (s.ae,d)).map fun p=>(q,p.2):=fun q=>by
      unfold mW zN
      dsimp only[ev]
      have hpf:vE (Value.func (.func f) #[] #[])=some f:=rfl
      rw[hpf]
      dsimp only
      cases hA:Γ f with
      | none=>rfl
      | some A=>
       dsimp only
       obtain⟨he,hq⟩:=hpl.2.1 f A (iC.1 h).1 hA
       rw[he]
       exact hq b q dst _
     have h4:=h3 b.ae
     have e:({ b with ae:=b.ae }:St)=b:=rfl
     rw[e,hp] at h4
     simp only[fA,cG] at h4
     rw[h4]
    have okself:∀(B:List Nat) (o:List O),WP B o o=true:=fun B o=>by
     unfold WP
     refine jF.2 fun k _=>?_
     cases oS o[k]? <;> rfl
    have hgt:∀o:List O,∀ds:List D,XK Γ o dst ds=XK Γ b.ae dst ds:=fun o ds=>by
     unfold XK
     cases dst with
     | none=>rfl
     | some s=>
      have h2:(!pl.contains (30000000+s))=true:=(iC.1 h).2
      cases h4:(gN Γ).contains (10000000+s) with
      | false=>simp only[h4,EX,KV]
      | true=>
       have aux:∀n:Nat,20000000+(10000000+n)=30000000+n:=fun n=>by omega
       have h5:pl.contains (20000000+(10000000+s))=true:=hpl.2.2.2.2.1 _ h4
       rw[aux] at h5
       rw[h5] at h2;cases h2
    unfold TD
    rw[hgt]
    split
    case isFalse=>rfl
    unfold QB
    generalize EN Γ=B
    cases B with
    | nil=>exact hv _
    | cons w B=>
     dsimp only
     split
     ·exact hv _
     split
     ·rw[hv]
      cases hp:(mW Γ b dst (ev s0 (.func f)) (List.map (ev s0) args.toList) fun s d=>some (s.ae,d)) with
      | none=>rfl
      | some p=>
       simp only[fA,tG,hself _ p hp,okself,eY]
     ·rfl
   | _=>cases h
  | builtin bi=>
   have hm:∀(mx:Bool) (as:List D) (ts:List TypeId),jL P { b with ae:=q } dst type (if mx=true then Builtin.max else Builtin.min) as ts=(jL P b dst type (if mx=true then Builtin.max else Builtin.min) as ts).map fun p=>(q,p.2):=fun mx as ts=>by
    have h0:∀(x y:D) (t:TypeId),((PO P mx t x y some).bind fun d=>some (q,d))=((PO P mx t x y some).bind fun d=>some (b.ae,d)).map fun p=>(q,p.2):=fun x y t=>bm _ _
    cases mx
    ·match as,ts with
     | [x,y],[t,u]=>exact h0 x y t
     | [],_=>rfl
     | [_],_=>rfl
     | _::_::_::_,_=>rfl
     | [_,_],[]=>rfl
     | [_,_],[_]=>rfl
     | [_,_],_::_::_::_=>rfl
    ·match as,ts with
     | [x,y],[t,u]=>exact h0 x y t
     | [],_=>rfl
     | [_],_=>rfl
     | _::_::_::_,_=>rfl
     | [_,_],[]=>rfl
     | [_,_],[_]=>rfl
     | [_,_],_::_::_::_=>rfl
   cases bi with
   | min=>exact hm false _ _
   | max=>exact hm true _ _
   | _=>cases h
  | _=>cases h
 | binOp op t x y yt=>
  have hop:op≠.eql∧op≠.neq:=by
   constructor <;> (intro e;subst e;cases h)
  dsimp only
  rw[Gx hop.1 hop.2 { b with ae:=q } b]
  exact bm _ _
 | _=>first
  | rfl
  | exact bm _ _
  | (cases h;done)
theorem Rm(hpl:yL Γ pl){o:Oper}(h:Pi pl o=true)(st:St)(q:List O):qQ P Γ ops o { st with ae:=q }=(qQ P Γ ops o st).map fun p=>(q,p.2):=by
 have h1:gd ops o { st with ae:=q }=gd ops o st:=rfl
 have h2:LV P Γ o (St.bare { st with ae:=q }) (ev { st with ae:=q })=(LV P Γ o st.bare (ev st)).map fun p=>(q,p.2):=Vl hpl h st.bare st q
 unfold qQ
 rw[h1,h2]
 cases gd ops o st with
 | none=>rfl
 | some w=>cases w <;> rfl
theorem Be{A:Callee}(hN:A.Nat)(hP:A.gk){b:St}{dst:Option Nat}{ds:List D}{p:List O×D}(h:(yV A b dst ds fun s d=>some (s.ae,d))=some p):p.1=b.ae:=by
 obtain⟨⟨hP0,_⟩,hP⟩:=hP
 obtain⟨hN,_⟩:=hN
 unfold yV at h
 rw[hP0] at h
 dsimp only at h
 unfold AG at h
 split at h
 ·cases h
 ·split at h
  ·cases h
  ·split at h
   ·cases h
   ·dsimp only at h
    split at h
    ·rw[hN] at h
     obtain⟨q,hq,h2⟩:=pS.1 h
     obtain⟨rs,po'⟩:=q
     obtain⟨e1,e2,e3⟩:=hP _ _ rs po' hq
     rw[e1,e2,e3] at h2
     cases h2
     rfl
    ·cases h
theorem Callee.gk.pure{A:Callee}(hN:A.Nat)(hP:A.gk):A.Pure:=⟨hP.1.2,fun h=>Be hN hP h⟩
theorem Callee.gl.pure{A:Callee}(h:A.gl):A.Pure:=⟨h.1,fun {b dst ds p} hp=>by
 have:=h.2 b b.ae dst ds
 have e:({ b with ae:=b.ae }:St)=b:=rfl
 rw[e,hp] at this
 simp only[fA,cG] at this
 rw[this]⟩
theorem Po(hN:∀f A,Γ f=some A→A.Nat)(hpl:yL Γ pl){o:Oper}(h:jd pl o=true){b st:St}{p:List O×D}(hp:LV P Γ o b (ev st)=some p):p.1=b.ae:=by
 obtain⟨dst,op,type,pos,after,guard⟩:=o
 have bm:∀{α:Type} (x:Option α) (f:α→D),(x.bind fun d=>some (b.ae,f d))=some p→p.1=b.ae:=fun x f hx=>by
  cases x with
  | none=>cases hx
  | some a=>cases hx;rfl
 unfold jd at h
 unfold LV at hp
 cases op with
 | call c=>
  obtain⟨callee,args,ats⟩:=c
  cases callee with
  | builtin bi=>
   dsimp only at hp h
   split at hp
   case isFalse=>cases hp
   unfold jL at hp
   split at hp
   ·exact bm _ _ hp
   ·cases h
   ·cases h
   ·exact bm _ _ hp
   ·exact bm _ _ hp
   ·cases hp
  | value f=>
   cases f with
   | func f=>
    dsimp only at hp h
    have hp:(mW Γ b dst (ev st (.func f)) (List.map (ev st) args.toList) fun s d=>some (s.ae,d))=some p:=by
     unfold TD at hp
     split at hp
     case isFalse=>cases hp
     unfold QB at hp
     split at hp
     ·exact hp
     split at hp
     ·exact hp
     ·split at hp
      ·obtain⟨p',h1,h2⟩:=pS.1 hp
       split at h2
       ·cases h2;exact h1
       ·cases h2
      ·cases hp
    unfold mW zN at hp
    dsimp only[ev] at hp
    have hpf:vE (Value.func (.func f) #[] #[])=some f:=rfl
    rw[hpf] at hp
    dsimp only at hp
    split at hp
    ·rename_i A hA
     have hpp:A.Pure:=by
      rcases Bool.or_eq_true_iff.1 h with h | h
      ·exact hpl.1 f A h hA
      ·exact(hpl.2.1 f A h hA).pure
     rw[hpp.1] at hp
     exact hpp.2 hp
    ·cases hp
   | _=>cases h
  | _=>cases h
 | move x=>cases hp;rfl
 | assign x=>cases hp;rfl
 | slice t x lo hi mx=>
  dsimp only at hp h
  split at hp
  case isFalse=>cases hp
  unfold AD at hp
  split at hp
  ·split at hp
   ·rename_i hn
    obtain⟨h1,h2,h3⟩:=hn
    cases lo <;> cases hi <;> cases mx <;> first
     | (cases h;done)
     | (cases h1;done)
     | (cases h2;done)
     | (cases h3;done)
   ·cases hp
  ·rw[yB] at hp
   exact bm _ id hp
 | load t x=>
  dsimp only at hp
  split at hp
  ·exact bm _ _ hp
  ·cases hp
 | _=>first
  | exact bm _ _ hp
  | (cases h;done)
theorem xO(hN:∀f A,Γ f=some A→A.Nat)(hpl:yL Γ pl){o:Oper}(h:jd pl o=true){st:St}{p:List O×D}(hp:qQ P Γ ops o st=some p):p.1=st.ae:=by
 unfold qQ at hp
 cases hg:gd ops o st with
 | none=>rw[hg] at hp;cases hp
 | some w=>
  rw[hg] at hp
  cases w with
  | true=>exact Po hN hpl h (b:=st.bare) hp
  | false=>cases hp;rfl
theorem QG{o:Oper}(h:Pi pl o=true):jd pl o=true:=by
 obtain⟨dst,op,type,pos,after,guard⟩:=o
 unfold Pi at h
 unfold jd Pi
 cases op with
 | call c=>
  obtain⟨callee,args,ats⟩:=c
  cases callee with
  | value f=>
   cases f with
   | func f=>exact Bool.or_eq_true_iff.2 (.inr (iC.1 h).1)
   | _=>cases h
  | builtin bi=>cases bi <;> first | rfl | (cases h;done)
  | _=>cases h
 | _=>first
  | rfl
  | (cases h;done)
theorem Gy(st:St){x y:Option Nat}(d e:D)(h:∀t,x=some t→y≠some t):(st.put x d).put y e=(st.put y e).put x d:=by
 cases x with
 | none=>rfl
 | some i=>
  cases y with
  | none=>rfl
  | some j=>
   have hne:i≠j:=fun he=>h i rfl (he▸rfl)
   simp only[St.put,UC _ _ hne]
theorem Gz{o:Oper}(h:Bd pl o=true):jd pl o=true:=by
 obtain⟨dst,op,type,pos,after,guard⟩:=o
 unfold Bd at h
 unfold jd
 split at h
 ·rename_i e;dsimp only at e;subst e;rfl
 ·rename_i e;dsimp only at e;subst e;rfl
 ·rename_i lo hi e
  dsimp only at e
  subst e
  dsimp only
  rw[cS] at h
  rw[h.1];rfl
 ·rename_i e;dsimp only at e;subst e;rfl
 ·cases h
theorem Ku(hN:∀f A,Γ f=some A→A.Nat)(hpl:yL Γ pl){o:Oper}(h:Bd pl o=true){st:St}{p:List O×D}(hp:qQ P Γ ops o st=some p):p.1=st.ae:=xO hN hpl (Gz h) hp
theorem GR(hpl:yL Γ pl){dst:Option Nat}(h:(!IV pl dst)=true):vF (gN Γ) dst=false:=by
 cases dst with
 | none=>rfl
 | some s=>
  have h':(!pl.contains (20000000+s))=true:=h
  show (gN Γ).contains s=false
  cases hc:(gN Γ).contains s with
  | false=>rfl
  | true=>rw[hpl.2.2.2.2.1 s hc] at h';cases h'
theorem NF{R:Type}{st:St}{q:List O}{t:TypeId}{x ix:D}{k:D→Option R}(h:U5 x=true):kE P { st with ae:=q } t x ix k=kE P st t x ix k:=by
 unfold U5 at h
 split at h
 ·rfl
 ·rfl
 ·rfl
 ·cases h
theorem QH{x:D}(h:PP x=true):∃y,x=.s (.c (.t y)):=by
 unfold PP at h
 split at h
 ·exact⟨_,rfl⟩
 ·cases h
theorem Ha{R:Type}{st:St}{q:List O}{t:TypeId}{x:D}{k:D→Option R}(h:PP x=true):EM P { st with ae:=q } t x k=EM P st t x k:=by
 obtain⟨y,rfl⟩:=QH h
 unfold EM
 cases P.underlying t with
 | none=>rfl
 | some u=>cases u <;> first | rfl | (cases y <;> rfl)
theorem YA{R:Type}{st:St}{q:List O}{t:TypeId}{x:D}{lo hi:Option D}{k:D→Option R}(h:PP x=true):BR P { st with ae:=q } t x lo hi none k=BR P st t x lo hi none k:=by
 obtain⟨y,rfl⟩:=QH h
 unfold BR
 cases P.underlying t with
 | none=>rfl
 | some u=>cases u <;> rfl
theorem QI(hpl:yL Γ pl)(hq:EN Γ≠[]){dst:Option Nat}(h:(!IV pl dst)=true){x:D}(hg:PQ Γ dst x=true):PP x=true:=by
 unfold PQ at hg
 split at hg
 ·rename_i e;exact absurd e hq
 ·rwa[GR hpl h,KV] at hg
theorem J0(hpl:yL Γ pl){o:Oper}(hq:EN Γ≠[])(h:Bd pl o=true){st:St}{q:List O}(hb:∀k∈EN Γ,bk st.ae q k){d:D}(hp:qQ P Γ ops o st=some (st.ae,d)):qQ P Γ ops o { st with ae:=q }=some (q,d):=by
 obtain⟨dst,op,type,pos,after,guard⟩:=o
 unfold Bd at h
 unfold qQ at hp ⊢
 have h1:gd ops (⟨dst,op,type,pos,after,guard⟩:Oper) { st with ae:=q }=gd ops (⟨dst,op,type,pos,after,guard⟩:Oper) st:=rfl
 rw[h1]
 cases hg:gd ops (⟨dst,op,type,pos,after,guard⟩:Oper) st with
 | none=>rw[hg] at hp;cases hp
 | some w=>
  rw[hg] at hp
  cases w with
  | false=>
   simp only[tG,aK,cG,xR] at hp ⊢
   exact⟨trivial,hp.2⟩
  | true=>
   cases op with
   | slice t x lo hi mx=>
    cases mx with
    | some m=>cases h
    | none=>
     dsimp only at h
     rw[cS] at h
     have hp:(if (PQ Γ dst (ev st x)&&Cv Γ dst (ev st x))=true then AD P st.bare t (ev st x) (lo.map (ev st)) (hi.map (ev st)) none fun s d=>some (s.ae,d) else none)=some (st.ae,d):=hp
     show (if (PQ Γ dst (ev st x)&&Cv Γ dst (ev st x))=true then AD P { st.bare with ae:=q } t (ev st x) (lo.map (ev st)) (hi.map (ev st)) none fun s d=>some (s.ae,d) else none)=some (q,d)
     split at hp
     case isFalse=>cases hp
     rename_i hg2
     rw[aC hg2]
     have htr:=QI hpl hq h.2 (iC.1 hg2).1
     unfold AD at hp ⊢
     split at hp
     ·rename_i hA
      exfalso
      split at hp
      ·obtain⟨y,hy⟩:=QH htr
       rw[hy] at hp
       unfold GL at hp
       cases hp
      ·cases hp
     ·rename_i hA
      rw[aA hA,YA htr,yB]
      rw[yB] at hp
      obtain⟨d0,e1,e2⟩:=pS.1 hp
      cases e2
      have e1':BR P st.bare.bare t (ev st x) (lo.map (ev st)) (hi.map (ev st)) none some=some d:=e1
      rw[e1']
      rfl
   | call c=>
    obtain⟨callee,args,ats⟩:=c
    cases callee with
    | builtin bi=>
     cases bi with
     | len=>
      dsimp only at h
      have hp:(if HN Γ st.ae dst .len (args.toList.map (ev st))=true then jL P st.bare dst type .len (args.toList.map (ev st)) ats.toList else none)=some (st.ae,d):=hp
      show (if HN Γ st.ae dst .len (args.toList.map (ev st))=true then jL P { st.bare with ae:=q } dst type .len (args.toList.map (ev st)) ats.toList else none)=some (q,d)
      split at hp
      case isFalse=>cases hp
      rename_i hg2
      rw[aC hg2]
      generalize args.toList.map (ev st)=as at *
      generalize ats.toList=ts at *
      unfold jL at hp ⊢
      match as,ts,hg2,hp with
      | [x],[t],hg2,hp=>
       dsimp only at hp ⊢
       have htr:PP x=true:=QI hpl hq h (by
        have:HN Γ st.ae dst .len [x]=true:=hg2
        unfold HN at this
        simp only[ET,ZD,OG,cS] at this
        exact this.1)
       rw[Ha htr]
       obtain⟨d0,e1,e2⟩:=pS.1 hp
       cases e2
       rw[e1]
       rfl
      | [],_,hg2,hp=>cases hp
      | [x],[],hg2,hp=>cases hp
      | [x],_::_::_,hg2,hp=>cases hp
      | _::_::_,_,hg2,hp=>cases hp
     | _=>cases h
    | _=>cases h
   | indexAddr t x ix=>
    have hp:((vG Γ P st.bare dst t (ev st x) (ev st ix) some).bind fun d=>some (st.bare.ae,d))=some (st.ae,d):=hp
    obtain⟨d',h3,h2⟩:=pS.1 hp
    cases h2
    show ((vG Γ P { st.bare with ae:=q } dst t (ev st x) (ev st ix) some).bind fun d=>some (q,d))=some (q,d)
    have key:vG Γ P { st.bare with ae:=q } dst t (ev st x) (ev st ix) some=some d:=by
     unfold vG at h3 ⊢
     cases hB:EN Γ with
     | nil=>exact absurd hB hq
     | cons w B=>
      rw[hB] at h3
      dsimp only at h3 ⊢
      rw[GR hpl h,KV] at h3 ⊢
      split at h3
      case isFalse=>cases h3
      rename_i hi
      rw[aC hi,NF hi]
      exact h3
    rw[key]
    rfl
   | load t x=>
    have hp:(if EB Γ dst (ev st x)=true then ((tA Γ P st.bare dst t (ev st x) some).bind fun d=>some (st.bare.ae,d)) else none)=some (st.ae,d):=hp
    split at hp
    case isFalse=>cases hp
    rename_i hgl
    obtain⟨d',h3,h2⟩:=pS.1 hp
    cases h2
    show (if EB Γ dst (ev st x)=true then ((tA Γ P { st.bare with ae:=q } dst t (ev st x) some).bind fun d=>some (q,d)) else none)=some (q,d)
    rw[aC hgl]
    have key:tA Γ P { st.bare with ae:=q } dst t (ev st x) some=some d:=by
     unfold tA at h3 ⊢
     cases hB:EN Γ with
     | nil=>exact absurd hB hq
     | cons w B=>
      rw[hB] at h3 hb
      dsimp only at h3 ⊢
      rw[GR hpl h,KV] at h3 ⊢
      split at h3
      case isFalse=>cases h3
      rename_i hqp0
      have hqp1:=hqp0
      rw[cS] at hqp1
      obtain⟨hqp,hbx⟩:=hqp1
      have hgoal:(FB (w::B) (ev st x)&&wU { st.bare with ae:=q } (ev st x))=true:=by
       rw[cS]
       refine⟨hqp,?_⟩
       unfold FB at hqp
       unfold wU at hbx ⊢
       split at hqp
       ·rename_i kk jj he
        rw[he] at hbx ⊢
        dsimp only at hbx ⊢
        have hk:kk∈w::B:=by simpa using hqp
        cases ho:st.ae[kk]? with
        | none=>
         have hbx':oS st.ae[kk]?=true:=hbx
         rw[ho] at hbx';cases hbx'
        | some o=>
         have hbx':oS st.ae[kk]?=true:=hbx
         rw[ho] at hbx'
         cases o with
         | box l=>rw[(hb kk hk l).1 ho];rfl
         | _=>cases hbx'
       ·rename_i he
        rw[he]
       ·cases hqp
      rw[aC hgoal]
      unfold uZ at h3 ⊢
      split at h3
      case h_2=>cases h3
      rename_i n bb hn hbb
      split at h3
      ·cases h3
      rename_i hc
      rw[aA hc]
      unfold zN at h3 ⊢
      unfold FB at hqp
      split at hqp
      ·rename_i kk jj he
       rw[he] at h3 ⊢
       dsimp only at h3 ⊢
       have hk:kk∈w::B:=by simpa using hqp
       split at h3
       ·rename_i cs hcs
        have hcs2:st.ae[kk]?=some (.box cs):=by
         have hbx':oS st.ae[kk]?=true:=by
          rw[he] at hbx
          exact hbx
         have hcs0:(st.ae[kk]?).bind O.cells?=some cs:=hcs
         cases ho:st.ae[kk]? with
         | none=>rw[ho] at hbx';cases hbx'
         | some o=>
          rw[ho] at hbx' hcs0
          cases o with
          | box l=>cases hcs0;rfl
          | _=>cases hbx'
        have hcs':q[kk]?=some (.box cs):=(hb kk hk cs).1 hcs2
        have hcs3:(q[kk]?).bind O.cells?=some cs:=by rw[hcs'];rfl
        rw[hcs3]
        exact h3
       ·cases h3
      ·rename_i he
       rw[he] at h3 ⊢
       exact h3
      ·cases hqp
    rw[key]
    rfl
   | _=>cases h
theorem QJ{α:Type}{st:St}{dst:Option Nat}{o:O}{f:St→Nat→Option α}{r:α}(h:qP st dst o f=some r):∃K,st.ae[K]?=some .fresh∧f { st with ae:=st.ae.set K o } K=some r:=by
 unfold qP at h
 split at h
 ·split at h
  ·rename_i hf
   exact⟨_,hf,h⟩
  ·split at h
   ·rename_i hf
    exact⟨_,hf,h⟩
   ·split at h
    ·rename_i K hK
     have hm:K∈(List.range st.ae.length).filter fun i=>decide (st.np≤i)&&uA st.ae[i]?:=by
      unfold AB at hK
      exact T5 hK
     have h2:=(B8.1 hm).2
     simp only[cS] at h2
     have h4:st.ae[K]?=some .fresh:=by
      have:=h2.2
      unfold uA at this
      split at this
      ·rename_i e;exact e
      ·cases this
     exact⟨_,h4,h⟩
    ·cases h
 ·cases h
theorem YB{B:List Nat}{o o':List O}(hok:WP B o o'=true){k:Nat}(hk:k∈B)(fr:∀l,o[k]?=some (.box l)→o'[k]?=some (.box l)):bk o o' k:=by
 intro l
 constructor
 ·exact fr l
 ·intro hl
  unfold WP at hok
  have h5:=jF.1 hok k hk
  rw[hl] at h5
  simp only[oS,bH,KV] at h5
  cases ho:o[k]? with
  | none=>rw[ho] at h5;cases h5
  | some x=>
   rw[ho] at h5
   cases x with
   | box l0=>
    have:=fr l0 ho
    rw[hl] at this
    cases this
    rfl
   | _=>cases h5
theorem FF{Γ:FuncId→Option Callee}{P:Program}{R:Type}{st:St}{dst:Option Nat}{t:TypeId}{l c:D}{k:St→D→Option R}{r:R}(h:jJ Γ P st dst t l c k=some r):
 ∃(o:O) (f:Nat→D),oS (some o)=false∧o≠.fresh∧∀{S:Type} (st':St) (k':St→D→Option S),jJ Γ P st' dst t l c k'=qP st' dst o fun s key=>k' s (f key):=by
 unfold jJ at h
 by_cases hr:Vj Γ dst=true
 ·rw[aC hr] at h
  unfold A9 at h
  split at h
  case h_2=>cases h
  rename_i e hu
  split at h
  case h_2=>cases h
  rename_i i e2 h1 h2
  split at h
  case h_2=>cases h
  rename_i n h3 h4
  split at h
  case isFalse=>cases h
  rename_i hc
  obtain⟨a,g1,g2⟩:=AM h
  obtain⟨b,g3,g4⟩:=AM g1
  obtain⟨p,g5,g6⟩:=bO g3
  refine⟨.rr none e e2 n (EL p.1 []),fun key=>.s (.c (.rk key)),rfl,by simp,fun st' k'=>?_⟩
  unfold jJ
  rw[aC hr]
  unfold A9
  simp only[hu,h1,h2,h3,h4,aC hc,g2,g4,g5]
  rfl
 ·rw[aA hr] at h
  unfold rV at h
  split at h
  case h_2=>cases h
  rename_i e hu
  split at h
  case h_2=>cases h
  rename_i i h1
  split at h
  case h_2=>cases h
  rename_i z h2
  split at h
  case h_2=>cases h
  rename_i cs h3
  split at h
  case h_2=>cases h
  rename_i ts h4
  split at h
  case isFalse=>cases h
  rename_i hc
  obtain⟨a,g1,g2⟩:=AM h
  obtain⟨b,g3,g4⟩:=AM g1
  obtain⟨p,g5,g6⟩:=bO g3
  refine⟨.row false e i.size (EL p.1 (Uw i.size ts)),fun key=>.s (.c (.row key)),rfl,by simp,fun st' k'=>?_⟩
  unfold jJ
  rw[aA hr]
  unfold rV
  simp only[hu,h1,h2,h3,h4,aC hc,g2,g4,g5]
  rfl
theorem Kv(hpl:yL Γ pl)(hq:EN Γ≠[]){o:Oper}(h:Pj pl o=true){st:St}{q:List O}{d:D}(hp:qQ P Γ ops o st=some (q,d)):∀k∈EN Γ,bk st.ae q k:=by
 intro k hk
 obtain⟨dst,op,type,pos,after,guard⟩:=o
 unfold Pj at h
 unfold qQ at hp
 cases hg:gd ops (⟨dst,op,type,pos,after,guard⟩:Oper) st with
 | none=>rw[hg] at hp;cases hp
 | some w=>
  rw[hg] at hp
  cases w with
  | false=>cases hp;exact .refl _ _
  | true=>
   have hp:LV P Γ ⟨dst,op,type,pos,after,guard⟩ st.bare (ev st)=some (q,d):=hp
   unfold LV at hp
   cases op with
   | makeSlice t l c=>
    have hp:mX Γ P st.bare dst t (ev st l) (ev st c) (fun s d=>some (s.ae,d))=some (q,d):=hp
    have hr:jJ Γ P st.bare dst t (ev st l) (ev st c) (fun s d=>some (s.ae,d))=some (q,d):=by
     unfold mX at hp
     split at hp
     ·exact hp
     ·split at hp
      ·exact hp
      ·cases hp
    obtain⟨o,f,hb,_,hn⟩:=FF hr
    rw[hn] at hr
    obtain⟨K,h1,h2⟩:=AL hb hr
    cases h2
    exact h1 k
   | call c=>
    obtain⟨callee,args,ats⟩:=c
    cases callee with
    | builtin bi=>
     cases bi with
     | append=>
      dsimp only at hp
      split at hp
      case isFalse=>cases hp
      unfold jL at hp
      split at hp
      ·cases ‹Builtin.append=_›
      ·exact SD hp k
      ·cases ‹Builtin.append=_›
      ·cases ‹Builtin.append=_›
      ·cases ‹Builtin.append=_›
      ·cases hp
     | _=>cases h
    | value f=>
     dsimp only at hp
     have hlc:vF (gN Γ) dst=false:=by
      have h2:QF pl dst=false:=by
       have h3:(!QF pl dst)=true:=by
        cases f <;> exact(iC.1 h).2
       cases h4:QF pl dst with
       | false=>rfl
       | true=>rw[h4] at h3;cases h3
      cases dst with
      | none=>rfl
      | some s=>
       show (gN Γ).contains s=false
       cases h4:(gN Γ).contains s with
       | false=>rfl
       | true=>
        have h5:pl.contains (20000000+s)=true:=hpl.2.2.2.2.1 s h4
        have h6:pl.contains (20000000+s)=false:=h2
        rw[h5] at h6;cases h6
     have hall:∀g A,Γ g=some A→Kq (ev st f) g→A.dq∨A.jv:=fun g A hA hr=>by
      by_cases hflag:(g==2000000)=true
      ·have:g=2000000:=by simpa using hflag
       subst this
       exact .inr (hpl.2.2.2.2.2.2.1 A hA)
      ·have hflag:(g==2000000)=false:=by simpa using hflag
       left
       cases f with
       | func f'=>
        have:g=f':=by
         rcases hr with⟨v,h1,h2⟩ | ⟨caps,h1⟩
         ·simp only[ev] at h1
          cases h1
          have hpf:vE (Value.func (.func f') #[] #[])=some f':=rfl
          rw[hpf] at h2
          cases h2;rfl
         ·simp only[ev] at h1
          cases h1
        subst this
        exact hpl.2.2.1 g A (iC.1 h).1 hA
       | _=>exact hpl.2.2.2.2.2.1 (iC.1 h).1 g A hflag hA
     unfold TD at hp
     split at hp
     case isFalse=>cases hp
     unfold QB at hp
     cases hB:EN Γ with
     | nil=>exact absurd hB hq
     | cons w B=>
      rw[hB] at hp hk
      dsimp only at hp
      rw[hlc] at hp
      simp only[nL,iD] at hp
      split at hp
      case isFalse=>cases hp
      rename_i hqd
      obtain⟨p',h1,h2⟩:=pS.1 hp
      split at h2
      case isFalse=>cases h2
      rename_i hok
      cases h2
      have hkeys:∀d∈ev st f::args.toList.map (ev st),k∉S0 d:=fun d hd hkd=>by
       unfold Aj at hqd
       have h5:=jF.1 hqd d hd
       have h6:=jF.1 h5 k hkd
       have h7:(w::B).contains k=true:=by simpa using hk
       rw[h7] at h6
       cases h6
      have fr:∀l,st.ae[k]?=some (.box l)→q[k]?=some (.box l):=fun l hl=>VK hall h1 hkeys hl
      exact YB hok hk fr
    | _=>cases h
   | buildSlice t n parts=>
    dsimp only at hp
    split at hp
    case isFalse=>cases hp
    exact JZ hp k
   | store t x v=>
    dsimp only at hp h
    split at hp
    case isFalse=>cases hp
    rename_i hgs
    rw[cS] at hgs
    replace hgs:=hgs.1
    unfold Jt at hgs
    cases hB:EN Γ with
    | nil=>exact absurd hB hq
    | cons w B=>
     rw[hB] at hgs hk
     dsimp only at hgs
     have hnl:(gN Γ).contains 8999999=false:=by
      cases hc:(gN Γ).contains 8999999 with
      | false=>rfl
      | true=>
       have:=hpl.2.2.2.2.1 _ hc
       rw[this] at h
       cases h
     have hnt:(gN Γ).contains (60000000+t)=false:=by
      cases hc:(gN Γ).contains (60000000+t) with
      | false=>rfl
      | true=>
       have h9:=hpl.2.2.2.2.1 _ hc
       have aux8:∀n:Nat,20000000+(60000000+n)=80000000+n:=fun n=>by omega
       rw[show 20000000+(60000000+t)=80000000+t from aux8 t] at h9
       rw[h9,Bool.and_comm] at h
       cases h
     rw[hnl,hnt,UD,UD] at hgs
     obtain⟨q',h1,h2⟩:=pS.1 hp
     cases h2
     unfold AA at h1
     split at h1
     case h_2=>cases h1
     split at h1
     case isFalse=>cases h1
     split at hgs
     case h_3=>cases hgs
     case h_2=>
      rename_i kk mm ii jj he
      rw[he] at h1
      unfold zN at h1
      dsimp only at h1
      split at h1
      case h_2=>cases h1
      rename_i q2 hfz
      split at h1
      case h_2=>cases h1
      rename_i e m' es hob
      obtain⟨ts,h1⟩:=IU h1
      split at h1
      case isFalse=>cases h1
      obtain⟨x,_,h1⟩:=bO h1
      cases h1
      exact(QE hfz k).trans (sC (by rw[hob];rfl) rfl)
     rename_i kk jj he
     rw[he] at h1
     unfold zN at h1
     dsimp only at h1
     split at h1
     ·split at h1
      ·cases h1
       have hne:kk≠k:=fun e=>by
        subst e
        have:(w::B).contains kk=true:=by simpa using hk
        rw[this] at hgs
        cases hgs
       intro l
       rw[fK hne]
       exact DX
      ·cases h1
     ·cases h1
   | alloc e=>
    dsimp only at hp
    unfold FE at hp
    cases hB:EN Γ with
    | nil=>exact absurd hB hq
    | cons w B=>
     rw[hB] at hp hk
     dsimp only at hp
     split at hp
     case isFalse=>cases hp
     obtain⟨p',h1,h2⟩:=pS.1 hp
     rw[GR hpl h,KV] at h2
     split at h2
     case isFalse=>cases h2
     rename_i hok
     cases h2
     refine YB hok hk fun l hl=>?_
     unfold uE at h1
     split at h1
     case h_2=>cases h1
     split at h1
     case h_2=>cases h1
     split at h1
     case h_2=>cases h1
     obtain⟨K,hK,h3⟩:=QJ h1
     cases h3
     dsimp only
     rw[fK (fun e=>by
      subst e
      have hl':st.bare.ae[K]?=some (.box l):=hl
      rw[hK] at hl'
      cases hl')]
     exact hl
   | _=>cases h
def TJ(o o':List O):Prop:=∀(k:Nat) (x:O),o[k]?=some x→x≠O.fresh→o'[k]?=some x
theorem GS{o o':List O}(hg:TJ o o'):∀{f k K:Nat},A2 o f k=some K→A2 o' f k=some K
 | 0,_,_,h=>by simp[A2] at h
 | f+1,k,K,h=>by
  simp only[A2] at h ⊢
  split at h
  ·rename_i ho;rw[hg k _ ho (by simp)];exact h
  ·rename_i ho;rw[hg k _ ho (by simp)];exact GS hg h
  ·cases h
theorem QK{R:Type}{st:St}{q:List O}{t:TypeId}{d:D}{k:D→Option R}{r:R}(hg:TJ st.ae q)(h:uZ P st t d k=some r):uZ P { st with ae:=q } t d k=some r:=by
 unfold uZ at h ⊢
 cases hn:I2 P t with
 | none=>rw[hn] at h;cases h
 | some n=>
  cases hb:IB P t with
  | none=>rw[hn,hb] at h;cases h
  | some b=>
   rw[hn,hb] at h
   dsimp only at h ⊢
   split at h
   ·cases h
   rename_i hc
   rw[aA hc]
   unfold zN at h ⊢
   cases d with
   | eg l=>cases h
   | s s=>cases s with
    | agg l=>cases h
    | c c=>
     cases c with
     | box key j=>
      dsimp only at h ⊢
      cases ho:st.ae[key]? with
      | none=>rw[ho] at h;cases h
      | some o=>
       rw[ho] at h
       rw[hg key o ho (fun e=>by subst e;cases h)]
       exact h
     | ic key m i j=>
      dsimp only at h ⊢
      cases ho:st.ae[key]? with
      | none=>rw[ho] at h;cases h
      | some o=>
       rw[ho] at h
       rw[hg key o ho (fun e=>by subst e;cases h)]
       exact h
     | ko key i=>
      dsimp only at h ⊢
      cases hr:A2 st.ae 64 key with
      | none=>rw[hr] at h;cases h
      | some K=>
       rw[hr] at h
       rw[GS hg hr]
       dsimp only at h ⊢
       cases ho:st.ae[K]? with
       | none=>rw[ho] at h;cases h
       | some o=>
        rw[ho] at h
        rw[hg K o ho (fun e=>by subst e;cases h)]
        exact h
     | _=>exact h
theorem EE{R:Type}{st:St}{q:List O}{t:TypeId}{x ix:D}{k:D→Option R}{r:R}(hg:TJ st.ae q)(h:kE P st t x ix k=some r):kE P { st with ae:=q } t x ix k=some r:=by
 unfold kE at h ⊢
 cases hu:P.underlying t with
 | none=>rw[hu] at h;cases h
 | some u=>
  rw[hu] at h
  cases u with
  | slice e=>
   dsimp only at h ⊢
   cases hn:I2 P e with
   | none=>rw[hn] at h;cases h
   | some n=>
    rw[hn] at h
    dsimp only at h ⊢
    unfold zN at h ⊢
    cases x with
    | eg l=>cases h
    | s s=>cases s with
     | agg l=>cases h
     | c c=>
      dsimp only at h ⊢
      obtain⟨i,h1,h2⟩:=AM h
      rw[h2]
      cases c with
      | row key=>
       dsimp only at h1 ⊢
       cases ho:st.ae[key]? with
       | none=>rw[ho] at h1;cases h1
       | some o=>
        rw[ho] at h1
        rw[hg key o ho (fun e=>by subst e;cases h1)]
        exact h1
      | cut key m lo len tg=>
       dsimp only at h1 ⊢
       cases ho:st.ae[key]? with
       | none=>rw[ho] at h1;cases h1
       | some o=>
        rw[ho] at h1
        rw[hg key o ho (fun e=>by subst e;cases h1)]
        exact h1
      | rk key=>
       dsimp only at h1 ⊢
       cases hr:A2 st.ae 64 key with
       | none=>rw[hr] at h1;cases h1
       | some K=>
        rw[hr] at h1
        rw[GS hg hr]
        dsimp only at h1 ⊢
        cases ho:st.ae[K]? with
        | none=>rw[ho] at h1;cases h1
        | some o=>
         rw[ho] at h1
         rw[hg K o ho (fun e=>by subst e;cases h1)]
         exact h1
      | _=>exact h1
  | _=>exact h
theorem Hb{R:Type}{st:St}{q:List O}{t:TypeId}{x:D}{k:D→Option R}{r:R}(hg:TJ st.ae q)(h:EM P st t x k=some r):EM P { st with ae:=q } t x k=some r:=by
 unfold EM at h ⊢
 cases hu:P.underlying t with
 | none=>rw[hu] at h;cases h
 | some u=>
  rw[hu] at h
  cases u with
  | slice e=>
   dsimp only at h ⊢
   unfold zN at h ⊢
   cases x with
   | eg l=>cases h
   | s s=>cases s with
    | agg l=>cases h
    | c c=>
     dsimp only at h ⊢
     cases c with
     | row key=>
      dsimp only at h ⊢
      cases ho:st.ae[key]? with
      | none=>rw[ho] at h;cases h
      | some o=>
       rw[ho] at h
       rw[hg key o ho (fun e=>by subst e;cases h)]
       exact h
     | rk key=>
      dsimp only at h ⊢
      cases hr:A2 st.ae 64 key with
      | none=>rw[hr] at h;cases h
      | some K=>
       rw[hr] at h
       rw[GS hg hr]
       dsimp only at h ⊢
       cases ho:st.ae[K]? with
       | none=>rw[ho] at h;cases h
       | some o=>
        rw[ho] at h
        rw[hg K o ho (fun e=>by subst e;cases h)]
        exact h
     | _=>exact h
  | map kt e=>
   dsimp only at h ⊢
   unfold zN at h ⊢
   cases x with
   | eg l=>cases h
   | s s=>cases s with
    | agg l=>cases h
    | c c=>
     dsimp only at h ⊢
     cases c with
     | t y=>
      cases y <;> first | exact h | cases h
     | row key=>
      dsimp only at h ⊢
      cases ho:st.ae[key]? with
      | none=>rw[ho] at h;cases h
      | some o=>
       rw[ho] at h
       rw[hg key o ho (fun e=>by subst e;cases h)]
       exact h
     | _=>exact h
  | _=>exact h
theorem TK{o:List O}{K:Nat}{x:O}(h:o[K]?=some .fresh):TJ o (o.set K x):=fun k y hy hn=>by
 have hne:K≠k:=fun e=>by subst e;rw[h] at hy;cases hy;exact hn rfl
 rw[fK hne]
 exact hy
theorem YC{o:Oper}(h:Pk o=true){st:St}{q:List O}{d:D}(hp:qQ P Γ ops o st=some (q,d)):TJ st.ae q:=by
 obtain⟨dst,op,type,pos,after,guard⟩:=o
 unfold Pk at h
 unfold qQ at hp
 cases hg:gd ops (⟨dst,op,type,pos,after,guard⟩:Oper) st with
 | none=>rw[hg] at hp;cases hp
 | some w=>
  rw[hg] at hp
  cases w with
  | false=>cases hp;exact fun k x h _=>h
  | true=>
   have hp:LV P Γ ⟨dst,op,type,pos,after,guard⟩ st.bare (ev st)=some (q,d):=hp
   unfold LV at hp
   cases op with
   | alloc t=>
    dsimp only at hp
    have bo:(uE P st.bare dst t fun s d=>some (s.ae,d))=some (q,d):=by
     unfold FE at hp
     split at hp
     ·exact hp
     ·split at hp
      case isFalse=>cases hp
      obtain⟨p',h1,h2⟩:=pS.1 hp
      split at h2
      ·cases h2;exact h1
      ·cases h2
    unfold uE at bo
    split at bo
    case h_2=>cases bo
    split at bo
    case h_2=>cases bo
    split at bo
    case h_2=>cases bo
    obtain⟨K,h1,h2⟩:=QJ bo
    cases h2
    exact TK h1
   | box t x=>
    dsimp only at hp
    unfold W5 at hp
    split at hp
    case h_2=>cases hp
    split at hp
    case isFalse=>cases hp
    obtain⟨K,h1,h2⟩:=QJ hp
    cases h2
    exact TK h1
   | _=>cases h
theorem Hc{oi oj:Oper}(hl:Dg oi=true)(ha:Pk oj=true){st:St}{q2:List O}{d1 d2:D}(e1:qQ P Γ ops oi st=some (st.ae,d1))(e2:qQ P Γ ops oj st=some (q2,d2)):qQ P Γ ops oi { st with ae:=q2 }=some (q2,d1):=by
 have hgr:=YC ha e2
 clear e2 ha
 obtain⟨dst,op,type,pos,after,guard⟩:=oi
 unfold Dg at hl
 unfold qQ at e1 ⊢
 have h1:gd ops (⟨dst,op,type,pos,after,guard⟩:Oper) { st with ae:=q2 }=gd ops (⟨dst,op,type,pos,after,guard⟩:Oper) st:=rfl
 rw[h1]
 cases hg:gd ops (⟨dst,op,type,pos,after,guard⟩:Oper) st with
 | none=>rw[hg] at e1;cases e1
 | some w=>
  rw[hg] at e1
  cases w with
  | false=>
   simp only[tG,aK,cG,xR] at e1 ⊢
   exact⟨trivial,e1.2⟩
  | true=>
   cases op with
   | indexAddr t x ix=>
    have e1:((vG Γ P st.bare dst t (ev st x) (ev st ix) some).bind fun d=>some (st.bare.ae,d))=some (st.ae,d1):=e1
    obtain⟨d',h3,h2⟩:=pS.1 e1
    cases h2
    show ((vG Γ P { st.bare with ae:=q2 } dst t (ev st x) (ev st ix) some).bind fun d=>some (q2,d))=some (q2,d1)
    have key:vG Γ P { st.bare with ae:=q2 } dst t (ev st x) (ev st ix) some=some d1:=by
     unfold vG at h3 ⊢
     cases hB:EN Γ with
     | nil=>
      rw[hB] at h3
      exact EE (st:=st.bare) hgr h3
     | cons w B=>
      rw[hB] at h3
      dsimp only at h3 ⊢
      split at h3
      case isFalse=>cases h3
      rename_i hi
      rw[aC hi]
      exact EE (st:=st.bare) hgr h3
    rw[key]
    rfl
   | load t x=>
    have e1:(if EB Γ dst (ev st x)=true then ((tA Γ P st.bare dst t (ev st x) some).bind fun d=>some (st.bare.ae,d)) else none)=some (st.ae,d1):=e1
    split at e1
    case isFalse=>cases e1
    rename_i hgl
    obtain⟨d',h3,h2⟩:=pS.1 e1
    cases h2
    show (if EB Γ dst (ev st x)=true then ((tA Γ P { st.bare with ae:=q2 } dst t (ev st x) some).bind fun d=>some (q2,d)) else none)=some (q2,d1)
    rw[aC hgl]
    have key:tA Γ P { st.bare with ae:=q2 } dst t (ev st x) some=some d1:=by
     unfold tA at h3 ⊢
     cases hB:EN Γ with
     | nil=>
      rw[hB] at h3
      exact QK (st:=st.bare) hgr h3
     | cons w B=>
      rw[hB] at h3
      dsimp only at h3 ⊢
      split at h3
      case isFalse=>cases h3
      rename_i hi
      have hbx:∀d,wU st.bare d=true→wU { st.bare with ae:=q2 } d=true:=fun d hd=>by
       unfold wU at hd ⊢
       split
       ·rename_i kk jj
        have hd:oS st.ae[kk]?=true:=hd
        show oS q2[kk]?=true
        cases ho:st.ae[kk]? with
        | none=>rw[ho] at hd;cases hd
        | some o=>
         rw[ho] at hd
         rw[hgr kk o ho (fun e=>by subst e;cases hd)]
         exact hd
       ·rfl
      have hi':((FB (w::B) (ev st x)&&wU { st.bare with ae:=q2 } (ev st x))||vF (gN Γ) dst)=true:=by
       rw[oB,cS] at hi ⊢
       exact hi.imp (fun h=>⟨h.1,hbx _ h.2⟩) id
      rw[aC hi']
      exact QK (st:=st.bare) hgr h3
    rw[key]
    rfl
   | call c=>
    obtain⟨callee,args,ats⟩:=c
    cases callee with
    | builtin bi=>
     cases bi with
     | len=>
      have hev:∀x,ev { st with ae:=q2 } x=ev st x:=fun x=>by cases x <;> rfl
      have e1:(if HN Γ st.ae dst .len (args.toList.map (ev st))=true then jL P st.bare dst type .len (args.toList.map (ev st)) ats.toList else none)=some (st.ae,d1):=e1
      show (if HN Γ st.ae dst .len (args.toList.map (ev { st with ae:=q2 }))=true then jL P { st.bare with ae:=q2 } dst type .len (args.toList.map (ev { st with ae:=q2 })) ats.toList else none)=some (q2,d1)
      have hm:args.toList.map (ev { st with ae:=q2 })=args.toList.map (ev st):=OJ fun x _=>hev x
      rw[hm]
      split at e1
      case isFalse=>cases e1
      rename_i hgb
      rw[aC hgb]
      unfold jL at e1 ⊢
      split at e1
      ·obtain⟨d',h3,h2⟩:=pS.1 e1
       cases h2
       have:=Hb (st:=st.bare) hgr h3
       show ((EM P { st.bare with ae:=q2 } _ _ some).bind fun d=>some (q2,d))=_
       rw[this]
       rfl
      all_goals first
       | (cases ‹Builtin.len=_›;done)
       | (cases e1;done)
     | _=>cases hl
    | _=>cases hl
   | _=>cases hl
theorem LX(hpl:yL Γ pl)(h:(!pl.contains 28999999)=true):(gN Γ).contains 8999999=false:=by
 cases hc:(gN Γ).contains 8999999 with
 | false=>rfl
 | true=>
  have:=hpl.2.2.2.2.1 _ hc
  rw[this] at h
  cases h
theorem Kw(hpl:yL Γ pl)(hq:EN Γ≠[])(hn:(!pl.contains 28999999)=true){o:Oper}(h:Pl o=true):∃(d:Nat) (x:O) (go:Bool),(∀t,o.dst=some t→t=d)∧∀(st:St) (q:List O) (v:D),
 qQ P Γ ops o st=some (q,v)↔(o.dst=some d∧go=true∧st.ae[st.np+d]?=some .fresh∧q=st.ae.set (st.np+d) x∧v=.s (.c (.box (st.np+d) 0))∧(WP (EN Γ) st.ae q||vF (gN Γ) o.dst)=true):=by
 obtain⟨dst,op,type,pos,after,guard⟩:=o
 unfold Pl at h
 rw[cS] at h
 obtain⟨hgd,h⟩:=h
 cases guard with
 | some g=>cases hgd
 | none=>
  cases op with
  | alloc t=>
   have key:∀st:St,qQ P Γ ops ⟨dst,.alloc t,type,pos,after,none⟩ st=FE Γ P st.bare dst t:=fun st=>rfl
   cases dst with
   | none=>
    refine⟨0,.fresh,true,fun t ht=>(by cases ht),fun st q v=>⟨fun he=>?_,fun he=>(by cases he.1)⟩⟩
    rw[key] at he
    unfold FE at he
    split at he
    ·rename_i e;exact absurd e hq
    ·split at he
     case isFalse=>cases he
     rename_i ho
     unfold NA at ho
     rw[LX hpl hn] at ho
     cases ho
   | some d=>
    have hz:∃(x:O) (go:Bool),∀(st:St) (f:St→D→Option (List O×D)),st.ae[st.np+d]?=some .fresh→uE P st (some d) t f=if go then f { st with ae:=st.ae.set (st.np+d) x } (.s (.c (.box (st.np+d) 0))) else none:=by
     unfold uE
     cases P.info? t with
     | none=>exact⟨.fresh,false,fun st f _=>rfl⟩
     | some i=>
      dsimp only
      cases i.zero with
      | none=>exact⟨.fresh,false,fun st f _=>rfl⟩
      | some z=>
       dsimp only
       cases BQ z with
       | none=>exact⟨.fresh,false,fun st f _=>rfl⟩
       | some cs=>
        refine⟨.box (W4 P t cs),true,fun st f hf=>?_⟩
        dsimp only
        unfold qP
        dsimp only
        rw[hf]
        rfl
    obtain⟨x,go,hz⟩:=hz
    refine⟨d,x,go,fun t ht=>(by cases ht;rfl),fun st q v=>?_⟩
    rw[key]
    unfold FE
    cases hB:EN Γ with
    | nil=>exact absurd hB hq
    | cons w B=>
     dsimp only
     have how:NA Γ st.bare (some d)=true↔st.ae[st.np+d]?=some .fresh:=by
      unfold NA
      rw[LX hpl hn,UD]
      show (match st.ae[st.np+d]? with | some .fresh=>true | _=>false)=true↔_
      constructor
      ·intro hh
       split at hh
       ·assumption
       ·cases hh
      ·intro hh
       rw[hh]
     constructor
     ·intro he
      split at he
      case isFalse=>cases he
      rename_i ho
      have hf:=how.1 ho
      rw[hz st.bare _ hf] at he
      cases go with
      | false=>cases he
      | true=>
       simp only[eY,tG] at he
       split at he
       case isFalse=>cases he
       rename_i hk
       cases he
       exact⟨rfl,rfl,hf,rfl,rfl,hk⟩
     ·rintro ⟨_,hgo,hf,rfl,rfl,hk⟩
      rw[aC (how.2 hf),hz st.bare _ hf]
      subst hgo
      simp only[eY,tG]
      exact aC hk
  | _=>cases h
theorem Kx(hpl:yL Γ pl)(hq:EN Γ≠[])(hn:(!pl.contains 28999999)=true){o:Oper}(h:Pm o=true){st:St}{q:List O}{v:D}(hp:qQ P Γ ops o st=some (q,v)):
 ∃(d:Nat) (x:O),x≠.fresh∧st.ae[st.np+d]?=some .fresh∧q=st.ae.set (st.np+d) x∧∀q':List O,q'[st.np+d]?=some .fresh→qQ P Γ ops o { st with ae:=q' }=some (q'.set (st.np+d) x,v):=by
 obtain⟨dst,op,type,pos,after,guard⟩:=o
 unfold Pm at h
 rw[cS] at h
 obtain⟨hgd,h⟩:=h
 cases guard with
 | some g=>cases hgd
 | none=>
  cases op with
  | makeSlice t l c=>
   have key:∀st:St,qQ P Γ ops ⟨dst,.makeSlice t l c,type,pos,after,none⟩ st=mX Γ P st.bare dst t (ev st l) (ev st c) fun s d=>some (s.ae,d):=fun st=>rfl
   have hev:∀(q':List O) (x:Operand),ev { st with ae:=q' } x=ev st x:=fun q' x=>by cases x <;> rfl
   rw[key] at hp
   unfold mX at hp
   cases hB:EN Γ with
   | nil=>exact absurd hB hq
   | cons w B=>
    rw[hB] at hp
    dsimp only at hp
    split at hp
    case isFalse=>cases hp
    rename_i ho
    have how:∀st:St,NA Γ st dst=true↔∃d,dst=some d∧st.ae[st.np+d]?=some .fresh:=fun st=>by
     unfold NA
     rw[LX hpl hn,UD]
     cases dst with
     | none=>exact⟨fun h=>(by cases h),fun⟨d,h,_⟩=>(by cases h)⟩
     | some d=>
      dsimp only
      constructor
      ·intro hh
       split at hh
       ·exact⟨d,rfl,by assumption⟩
       ·cases hh
      ·rintro ⟨d',e,hh⟩
       cases e
       rw[hh]
    obtain⟨d,rfl,hf⟩:=(how _).1 ho
    have hf:st.ae[st.np+d]?=some .fresh:=hf
    obtain⟨x,f,_,hx,hinv⟩:=FF hp
    have hnew:∀(st':St),st'.ae[st'.np+d]?=some .fresh→jJ Γ P st' (some d) t (ev st l) (ev st c) (fun s d=>some (s.ae,d))=some (st'.ae.set (st'.np+d) x,f (st'.np+d)):=fun st' hf'=>by
     rw[hinv]
     unfold qP
     dsimp only
     rw[hf']
    rw[hnew st.bare hf] at hp
    cases hp
    refine⟨d,x,hx,hf,rfl,fun q' hq'=>?_⟩
    rw[key]
    unfold mX
    rw[hB]
    dsimp only
    rw[aC ((how _).2 ⟨d,rfl,hq'⟩),hev,hev]
    exact hnew (St.bare { st with ae:=q' }) hq'
  | _=>cases h
theorem Ky{B:List Nat}{o:List O}{K1 K2:Nat}{x1 x2:O}(hne:K1≠K2)(hf:o[K2]?=some .fresh)(h:WP B (o.set K1 x1) ((o.set K1 x1).set K2 x2)=true):WP B o (o.set K2 x2)=true:=by
 unfold WP at h ⊢
 refine jF.2 fun k hk=>?_
 have h5:=jF.1 h k hk
 by_cases e:k=K2
 ·subst e
  have hlt:k<o.length:=(dL.1 hf).1
  rw[fK hne,hf,iJ (by simpa using hlt)] at h5
  rw[hf,iJ hlt]
  exact h5
 ·rw[fK (fun e'=>e e'.symm)]
  cases oS o[k]? <;> rfl
theorem Kz{B:List Nat}{o:List O}{K1 K2:Nat}{x1 x2:O}(hne:K1≠K2)(hf:o[K1]?=some .fresh)(h:WP B o (o.set K1 x1)=true):WP B (o.set K2 x2) ((o.set K2 x2).set K1 x1)=true:=by
 unfold WP at h ⊢
 refine jF.2 fun k hk=>?_
 have h5:=jF.1 h k hk
 by_cases e:k=K1
 ·subst e
  have hlt:k<o.length:=(dL.1 hf).1
  rw[hf,iJ hlt] at h5
  rw[fK hne.symm,hf,iJ (by simpa using hlt)]
  exact h5
 ·rw[fK (i:=K1) (fun e'=>e e'.symm)]
  cases oS (o.set K2 x2)[k]? <;> rfl
def O.gg:O→Bool
 | .box _=>true
 | .cv _=>true
 | _=>false
def BF(o o':List O):Prop:=∀(k:Nat) (x:O),x.gg=true→(o[k]?=some x↔o'[k]?=some x)
theorem BF.symm{o o':List O}(h:BF o o'):BF o' o:=fun k x hx=>(h k x hx).symm
theorem BF.trans{a b c:List O}(h:BF a b)(h':BF b c):BF a c:=fun k x hx=>(h k x hx).trans (h' k x hx)
theorem BF.set{o:List O}{K:Nat}{x y:O}(h:o[K]?=some y)(hy:y.gg=false)(hx:x.gg=false):BF o (o.set K x):=fun k z hz=>by
 by_cases hk:K=k
 ·subst hk
  rw[iJ (dL.1 h).1,h]
  constructor
  ·intro e;cases e;rw[hy] at hz;cases hz
  ·intro e;cases e;rw[hx] at hz;cases hz
 ·rw[fK hk]
theorem BF.ai:∀(ks:List Nat) (ae:List O),BF ae (ai ae ks)
 | [],ae=>fun _ _ _=>DX
 | x::ks,ae=>by
  unfold Eng.ai
  split
  ·rename_i o ho
   refine BF.trans ?_ (BF.ai ks _)
   cases hb:o.gg with
   | false=>exact BF.set ho hb (by cases o <;> first | rfl | cases hb)
   | true=>
    have e:nH o=o:=by cases o <;> first | rfl | cases hb
    rw[e]
    have e2:ae.set x o=ae:=by
     apply EU
     intro j
     by_cases hj:x=j
     ·subst hj;rw[iJ (dL.1 ho).1,ho]
     ·rw[fK hj]
    rw[e2]
    exact fun _ _ _=>DX
  ·exact BF.ai ks ae
theorem BF.cells{o o':List O}(h:BF o o')(k:Nat):(o[k]?).bind O.cells?=(o'[k]?).bind O.cells?∧oS o[k]?=oS o'[k]?:=by
 have none_of:∀(a:Option O),(∀x,a=some x→x.gg=false)→a.bind O.cells?=none∧oS a=false:=fun a ha=>by
  cases a with
  | none=>exact⟨rfl,rfl⟩
  | some x=>
   have:=ha x rfl
   cases x <;> first | exact⟨rfl,rfl⟩ | cases this
 by_cases hx:∃x,o[k]?=some x∧x.gg=true
 ·obtain⟨x,h1,h2⟩:=hx
  rw[h1,(h k x h2).1 h1]
  exact⟨rfl,rfl⟩
 ·have h1:∀x,o[k]?=some x→x.gg=false:=fun x e=>by
   cases hb:x.gg with
   | false=>rfl
   | true=>exact(hx ⟨x,e,hb⟩).elim
  have h2:∀x,o'[k]?=some x→x.gg=false:=fun x e=>by
   cases hb:x.gg with
   | false=>rfl
   | true=>exact(hx ⟨x,(h k x hb).2 e,hb⟩).elim
  rw[(none_of _ h1).1,(none_of _ h2).1,(none_of _ h1).2,(none_of _ h2).2]
  exact⟨rfl,rfl⟩
theorem Dk{α:Type}{st:St}{dst:Option Nat}{o:O}{f:St→Nat→Option α}{r:α}(ho:o.gg=false)(h:qP st dst o f=some r):∃K,BF st.ae (st.ae.set K o)∧f { st with ae:=st.ae.set K o } K=some r:=by
 unfold qP at h
 split at h
 ·split at h
  ·rename_i d _ hf
   exact⟨_,BF.set hf rfl ho,h⟩
  ·split at h
   ·rename_i hf
    exact⟨_,BF.set hf rfl ho,h⟩
   ·split at h
    ·rename_i K hK
     have hm:K∈(List.range st.ae.length).filter fun i=>decide (st.np≤i)&&uA st.ae[i]?:=by
      unfold AB at hK
      exact T5 hK
     have h2:=(B8.1 hm).2
     simp only[cS] at h2
     have h3:st.ae[K]?=some .fresh:=by
      have:=h2.2
      unfold uA at this
      split at this
      ·assumption
      ·cases this
     exact⟨_,BF.set h3 rfl ho,h⟩
    ·cases h
 ·cases h
theorem Pp{cs:List C}{ae:List O}{q:List O×List C}(h:RX ae cs=some q):BF ae q.1:=by
 unfold RX at h
 obtain⟨l,_,h⟩:=I4.1 h
 subst h
 exact BF.ai _ _
theorem QL{P:Program}{b:St}{dst:Option Nat}{t:TypeId}{n:Nat}{parts:List (Nat×D)}{p:List O×D}(h:(kN P b dst t n parts fun s d=>some (s.ae,d))=some p):BF b.ae p.1:=by
 unfold kN at h
 split at h
 ·split at h
  case h_2=>cases h
  split at h
  case h_2=>cases h
  split at h
  case isFalse=>cases h
  obtain⟨K,h1,h2⟩:=Dk rfl h
  cases h2
  exact h1
 ·unfold oD at h
  split at h
  case h_2=>cases h
  split at h
  case h_2=>cases h
  split at h
  case h_2=>cases h
  split at h
  case h_2=>cases h
  split at h
  case isFalse=>cases h
  split at h
  case h_2=>cases h
  split at h
  case h_2=>cases h
  rename_i q hq
  split at h
  case h_2=>cases h
  have h:=h
  rw[show ∀(ts:List TypeId) (cs:List C) (f:List T→Option (List O×D)),oR P ts cs f=(oR P ts cs some).bind f from fun ts cs f=>rZ ts cs some f] at h
  obtain⟨ts,_,h⟩:=pS.1 h
  obtain⟨K,h1,h2⟩:=Dk rfl h
  cases h2
  exact(Pp hq).trans h1
theorem Dl(hpl:yL Γ pl){o:Oper}(h:Dh pl o=true){st:St}{q:List O}{d:D}(hp:qQ P Γ ops o st=some (q,d)):BF st.ae q:=by
 obtain⟨dst,op,type,pos,after,guard⟩:=o
 unfold Dh at h
 unfold qQ at hp
 cases hg:gd ops (⟨dst,op,type,pos,after,guard⟩:Oper) st with
 | none=>rw[hg] at hp;cases hp
 | some w=>
  rw[hg] at hp
  cases w with
  | false=>cases hp;exact fun _ _ _=>DX
  | true=>
   have hp:LV P Γ ⟨dst,op,type,pos,after,guard⟩ st.bare (ev st)=some (q,d):=hp
   unfold LV at hp
   cases op with
   | store t x v=>
    dsimp only at hp h
    split at hp
    case isFalse=>cases hp
    rename_i hgs
    rw[cS] at hgs
    have hge:=hgs.2
    unfold XM at hge
    rw[cS,cS] at hge
    replace hge:=hge.1.1
    rw[cS] at h
    rw[hpl.2.2.2.2.2.2.2.2 t (bI h.1) h.2] at hge
    have hge:Am (ev st x)=true:=hge
    obtain⟨q',h1,h2⟩:=pS.1 hp
    cases h2
    unfold AA at h1
    split at h1
    case h_2=>cases h1
    split at h1
    case isFalse=>cases h1
    unfold Am at hge
    split at hge
    case h_2=>cases hge
    rename_i kk mm ii jj he
    rw[he] at h1
    unfold zN at h1
    dsimp only at h1
    split at h1
    case h_2=>cases h1
    rename_i q2 hfz
    split at h1
    case h_2=>cases h1
    rename_i e m' es hob
    obtain⟨ts,h1⟩:=IU h1
    split at h1
    case isFalse=>cases h1
    obtain⟨x,_,h1⟩:=bO h1
    cases h1
    have hfz':BF st.ae q2.1:=by
     unfold RX at hfz
     obtain⟨l,_,hfz⟩:=I4.1 hfz
     subst hfz
     exact BF.ai _ _
    exact hfz'.trans (BF.set hob rfl rfl)
   | buildSlice t n parts=>
    dsimp only at hp
    split at hp
    case isFalse=>cases hp
    exact QL hp
   | _=>cases h
theorem Dm(hN:∀f A,Γ f=some A→A.Nat)(hpl:yL Γ pl){o:Oper}(h:TF pl o=true){st:St}{p:List O×D}(hp:qQ P Γ ops o st=some p):p.1=st.ae:=by
 refine xO hN hpl (pl:=pl) ?_ hp
 obtain⟨dst,op,type,pos,after,guard⟩:=o
 unfold TF at h
 cases op <;> first | rfl | (cases h;done)
theorem HQ(hpl:yL Γ pl){o:Oper}(h:TF pl o=true){st:St}{q:List O}(hb:BF st.ae q){d:D}(hp:qQ P Γ ops o st=some (st.ae,d)):qQ P Γ ops o { st with ae:=q }=some (q,d):=by
 obtain⟨dst,op,type,pos,after,guard⟩:=o
 unfold TF at h
 unfold qQ at hp ⊢
 have h1:gd ops (⟨dst,op,type,pos,after,guard⟩:Oper) { st with ae:=q }=gd ops (⟨dst,op,type,pos,after,guard⟩:Oper) st:=rfl
 rw[h1]
 cases hg:gd ops (⟨dst,op,type,pos,after,guard⟩:Oper) st with
 | none=>rw[hg] at hp;cases hp
 | some w=>
  rw[hg] at hp
  cases w with
  | false=>
   simp only[tG,aK,cG,xR] at hp ⊢
   exact⟨trivial,hp.2⟩
  | true=>
   cases op with
   | load t x=>
    cases dst with
    | none=>cases h
    | some sl=>
     dsimp only at h
     have hp:(if EB Γ (some sl) (ev st x)=true then ((tA Γ P st.bare (some sl) t (ev st x) some).bind fun d=>some (st.bare.ae,d)) else none)=some (st.ae,d):=hp
     split at hp
     case isFalse=>cases hp
     rename_i hgl
     obtain⟨d',h3,h2⟩:=pS.1 hp
     cases h2
     show (if EB Γ (some sl) (ev st x)=true then ((tA Γ P { st.bare with ae:=q } (some sl) t (ev st x) some).bind fun d=>some (q,d)) else none)=some (q,d)
     rw[aC hgl]
     have hbx:LO (ev st x)=true:=by
      have:=hgl
      unfold EB at this
      dsimp only at this
      rw[cS] at this
      replace this:=this.1
      rw[hpl.2.2.2.2.2.2.2.1 sl h] at this
      exact this
     unfold LO at hbx
     split at hbx
     case h_2=>cases hbx
     rename_i kk jj he
     rw[he] at h3 ⊢
     obtain⟨c1,c2⟩:=hb.cells kk
     have hlk:∀(f:D→Option D),uZ P { st.bare with ae:=q } t (.s (.c (.box kk jj))) f=uZ P st.bare t (.s (.c (.box kk jj))) f:=fun f=>by
      unfold uZ zN
      have c1':(({ st.bare with ae:=q }:St).ae[kk]?).bind O.cells?=(st.bare.ae[kk]?).bind O.cells?:=c1.symm
      simp only[c1']
     have hbd:wU { st.bare with ae:=q } (.s (.c (.box kk jj)))=wU st.bare (.s (.c (.box kk jj))):=c2.symm
     have key:tA Γ P { st.bare with ae:=q } (some sl) t (.s (.c (.box kk jj))) some=some d:=by
      unfold tA at h3 ⊢
      rw[hbd]
      simp only[hlk]
      exact h3
     rw[key]
     rfl
   | _=>cases h
def RF(o o':List O):Prop:=∀(k:Nat) (x:O),x.gg=false→(o[k]?=some x↔o'[k]?=some x)
theorem RF.symm{o o':List O}(h:RF o o'):RF o' o:=fun k x hx=>(h k x hx).symm
theorem RF.set{o:List O}{K:Nat}{x y:O}(h:o[K]?=some y)(hy:y.gg=true)(hx:x.gg=true):RF o (o.set K x):=fun k z hz=>by
 by_cases hk:K=k
 ·subst hk
  rw[iJ (dL.1 h).1,h]
  constructor
  ·intro e;cases e;rw[hy] at hz;cases hz
  ·intro e;cases e;rw[hx] at hz;cases hz
 ·rw[fK hk]
theorem Dn{o o':List O}(hg:RF o o'):∀{f k K:Nat},A2 o f k=some K→A2 o' f k=some K
 | 0,_,_,h=>by simp[A2] at h
 | f+1,k,K,h=>by
  simp only[A2] at h ⊢
  split at h
  ·rename_i ho;rw[(hg k _ rfl).1 ho];exact h
  ·rename_i ho;rw[(hg k _ rfl).1 ho];exact Dn hg h
  ·cases h
theorem Pq{R:Type}{st:St}{q:List O}{t:TypeId}{x:D}{k:D→Option R}{r:R}(hg:RF st.ae q)(h:EM P st t x k=some r):EM P { st with ae:=q } t x k=some r:=by
 have get:∀(key:Nat) (o:O),st.ae[key]?=some o→o.gg=false→q[key]?=some o:=fun key o ho hb=>(hg key o hb).1 ho
 unfold EM at h ⊢
 cases hu:P.underlying t with
 | none=>rw[hu] at h;cases h
 | some u=>
  rw[hu] at h
  cases u with
  | slice e=>
   dsimp only at h ⊢
   unfold zN at h ⊢
   cases x with
   | eg l=>cases h
   | s s=>cases s with
    | agg l=>cases h
    | c c=>
     dsimp only at h ⊢
     cases c with
     | row key=>
      dsimp only at h ⊢
      cases ho:st.ae[key]? with
      | none=>rw[ho] at h;cases h
      | some o=>
       rw[ho] at h
       rw[get key o ho (by cases o <;> first | rfl | cases h)]
       exact h
     | rk key=>
      dsimp only at h ⊢
      cases hr:A2 st.ae 64 key with
      | none=>rw[hr] at h;cases h
      | some K=>
       rw[hr] at h
       rw[Dn hg hr]
       dsimp only at h ⊢
       cases ho:st.ae[K]? with
       | none=>rw[ho] at h;cases h
       | some o=>
        rw[ho] at h
        rw[get K o ho (by cases o <;> first | rfl | cases h)]
        exact h
     | _=>exact h
  | map kt e=>
   dsimp only at h ⊢
   unfold zN at h ⊢
   cases x with
   | eg l=>cases h
   | s s=>cases s with
    | agg l=>cases h
    | c c=>
     dsimp only at h ⊢
     cases c with
     | t y=>
      cases y <;> first | exact h | cases h
     | row key=>
      dsimp only at h ⊢
      cases ho:st.ae[key]? with
      | none=>rw[ho] at h;cases h
      | some o=>
       rw[ho] at h
       rw[get key o ho (by cases o <;> first | rfl | cases h)]
       exact h
     | _=>exact h
  | _=>exact h
theorem Do(hpl:yL Γ pl){o:Oper}(h:Dj pl o=true){st:St}{q:List O}{d:D}(hp:qQ P Γ ops o st=some (q,d)):RF st.ae q:=by
 obtain⟨dst,op,type,pos,after,guard⟩:=o
 unfold Dj at h
 unfold qQ at hp
 cases hg:gd ops (⟨dst,op,type,pos,after,guard⟩:Oper) st with
 | none=>rw[hg] at hp;cases hp
 | some w=>
  rw[hg] at hp
  cases w with
  | false=>cases hp;exact fun _ _ _=>DX
  | true=>
   have hp:LV P Γ ⟨dst,op,type,pos,after,guard⟩ st.bare (ev st)=some (q,d):=hp
   unfold LV at hp
   cases op with
   | store t x v=>
    dsimp only at hp h
    split at hp
    case isFalse=>cases hp
    rename_i hgs
    rw[cS] at hgs
    have hge:=hgs.2
    unfold XM at hge
    rw[cS,cS] at hge
    replace hge:=hge.1.2
    rw[cS] at h
    have ht:=bI h.1
    have aux9:∀n:Nat,82000000+(1000000+n)=83000000+n:=fun n=>by omega
    have aux7:∀n:Nat,n<1000000→1000000+n<8000000:=fun n hn=>by omega
    rw[hpl.2.2.2.2.2.2.2.2 (1000000+t) (aux7 t ht) (by rw[show 82000000+(1000000+t)=83000000+t from aux9 t];exact h.2)] at hge
    have hge:LO (ev st x)=true:=hge
    obtain⟨q',h1,h2⟩:=pS.1 hp
    cases h2
    unfold AA at h1
    split at h1
    case h_2=>cases h1
    split at h1
    case isFalse=>cases h1
    unfold LO at hge
    split at hge
    case h_2=>cases hge
    rename_i kk jj he
    rw[he] at h1
    unfold zN at h1
    dsimp only at h1
    split at h1
    case h_2=>cases h1
    rename_i l hob
    split at h1
    case isFalse=>cases h1
    cases h1
    exact RF.set hob rfl rfl
   | _=>cases h
def AS(Γ:FuncId→Option Callee)(o o':List O):Prop:=∀k,(uI Γ).contains (5000000+k)=true→o[k]?=o'[k]?
theorem AS.symm{o o':List O}(h:AS Γ o o'):AS Γ o' o:=fun k hk=>(h k hk).symm
theorem Dp(hpl:yL Γ pl){o:Oper}(h:Di pl o=true){st:St}{q:List O}{d:D}(hp:qQ P Γ ops o st=some (q,d)):AS Γ st.ae q:=by
 obtain⟨dst,op,type,pos,after,guard⟩:=o
 unfold Di at h
 unfold qQ at hp
 cases hg:gd ops (⟨dst,op,type,pos,after,guard⟩:Oper) st with
 | none=>rw[hg] at hp;cases hp
 | some w=>
  rw[hg] at hp
  cases w with
  | false=>cases hp;exact fun _ _=>rfl
  | true=>
   have hp:LV P Γ ⟨dst,op,type,pos,after,guard⟩ st.bare (ev st)=some (q,d):=hp
   unfold LV at hp
   cases op with
   | store t x v=>
    dsimp only at hp h
    split at hp
    case isFalse=>cases hp
    rename_i hgs
    rw[cS] at hgs
    have hge:=hgs.2
    unfold XM at hge
    rw[cS,cS] at hge
    replace hge:=hge.2
    rw[cS] at h
    have ht:=bI h.1
    have aux9:∀n:Nat,82000000+(2000000+n)=84000000+n:=fun n=>by omega
    have aux7:∀n:Nat,n<1000000→2000000+n<8000000:=fun n hn=>by omega
    rw[hpl.2.2.2.2.2.2.2.2 (2000000+t) (aux7 t ht) (by rw[show 82000000+(2000000+t)=84000000+t from aux9 t];exact h.2)] at hge
    have hge:An Γ (ev st x)=true:=hge
    obtain⟨q',h1,h2⟩:=pS.1 hp
    cases h2
    unfold AA at h1
    split at h1
    case h_2=>cases h1
    split at h1
    case isFalse=>cases h1
    unfold An at hge
    split at hge
    case h_2=>cases hge
    rename_i kk jj he
    rw[he] at h1
    unfold zN at h1
    dsimp only at h1
    split at h1
    case h_2=>cases h1
    rename_i l hob
    split at h1
    case isFalse=>cases h1
    cases h1
    exact fun k hk=>by
     by_cases e:kk=k
     ·subst e;rw[hk] at hge;cases hge
     ·exact(fK e).symm
   | _=>cases h
theorem Dq(hN:∀f A,Γ f=some A→A.Nat)(hpl:yL Γ pl){o:Oper}(h:TG pl o=true){st:St}{p:List O×D}(hp:qQ P Γ ops o st=some p):p.1=st.ae:=by
 refine xO hN hpl (pl:=pl) ?_ hp
 obtain⟨dst,op,type,pos,after,guard⟩:=o
 unfold TG at h
 cases op <;> first | rfl | (cases h;done)
theorem HR(hpl:yL Γ pl){o:Oper}(h:TG pl o=true){st:St}{q:List O}(hb:AS Γ st.ae q){d:D}(hp:qQ P Γ ops o st=some (st.ae,d)):qQ P Γ ops o { st with ae:=q }=some (q,d):=by
 obtain⟨dst,op,type,pos,after,guard⟩:=o
 unfold TG at h
 unfold qQ at hp ⊢
 have h1:gd ops (⟨dst,op,type,pos,after,guard⟩:Oper) { st with ae:=q }=gd ops (⟨dst,op,type,pos,after,guard⟩:Oper) st:=rfl
 rw[h1]
 cases hg:gd ops (⟨dst,op,type,pos,after,guard⟩:Oper) st with
 | none=>rw[hg] at hp;cases hp
 | some w=>
  rw[hg] at hp
  cases w with
  | false=>
   simp only[tG,aK,cG,xR] at hp ⊢
   exact⟨trivial,hp.2⟩
  | true=>
   cases op with
   | load t x=>
    cases dst with
    | none=>cases h
    | some sl=>
     dsimp only at h
     have hp:(if EB Γ (some sl) (ev st x)=true then ((tA Γ P st.bare (some sl) t (ev st x) some).bind fun d=>some (st.bare.ae,d)) else none)=some (st.ae,d):=hp
     split at hp
     case isFalse=>cases hp
     rename_i hgl
     obtain⟨d',h3,h2⟩:=pS.1 hp
     cases h2
     show (if EB Γ (some sl) (ev st x)=true then ((tA Γ P { st.bare with ae:=q } (some sl) t (ev st x) some).bind fun d=>some (q,d)) else none)=some (q,d)
     rw[aC hgl]
     have hbx:Ju Γ (ev st x)=true:=by
      have:=hgl
      unfold EB at this
      dsimp only at this
      rw[cS] at this
      replace this:=this.2
      have aux:∀n:Nat,90000000+(1000000+n)=91000000+n:=fun n=>by omega
      rw[hpl.2.2.2.2.2.2.2.1 (1000000+sl) (by rw[aux];exact h)] at this
      exact this
     unfold Ju at hbx
     split at hbx
     case h_2=>cases hbx
     rename_i kk jj he
     rw[he] at h3 ⊢
     have ck:=hb kk hbx
     have c1:(st.ae[kk]?).bind O.cells?=(q[kk]?).bind O.cells?:=by rw[ck]
     have c2:oS st.ae[kk]?=oS q[kk]?:=by rw[ck]
     have hlk:∀(f:D→Option D),uZ P { st.bare with ae:=q } t (.s (.c (.box kk jj))) f=uZ P st.bare t (.s (.c (.box kk jj))) f:=fun f=>by
      unfold uZ zN
      have c1':(({ st.bare with ae:=q }:St).ae[kk]?).bind O.cells?=(st.bare.ae[kk]?).bind O.cells?:=c1.symm
      simp only[c1']
     have hbd:wU { st.bare with ae:=q } (.s (.c (.box kk jj)))=wU st.bare (.s (.c (.box kk jj))):=c2.symm
     have key:tA Γ P { st.bare with ae:=q } (some sl) t (.s (.c (.box kk jj))) some=some d:=by
      unfold tA at h3 ⊢
      rw[hbd]
      simp only[hlk]
      exact h3
     rw[key]
     rfl
   | _=>cases h
theorem Dr(hN:∀f A,Γ f=some A→A.Nat)(hpl:yL Γ pl){o:Oper}(h:TH o=true){st:St}{p:List O×D}(hp:qQ P Γ ops o st=some p):p.1=st.ae:=by
 refine xO hN hpl (pl:=pl) ?_ hp
 obtain⟨dst,op,type,pos,after,guard⟩:=o
 unfold TH at h
 cases op with
 | call c=>
  obtain⟨callee,args,ats⟩:=c
  cases callee with
  | builtin bi=>cases bi <;> first | rfl | (cases h;done)
  | _=>cases h
 | _=>cases h
theorem HS{o:Oper}(h:TH o=true){st:St}{q:List O}(hb:RF st.ae q){d:D}(hp:qQ P Γ ops o st=some (st.ae,d)):qQ P Γ ops o { st with ae:=q }=some (q,d):=by
 obtain⟨dst,op,type,pos,after,guard⟩:=o
 unfold TH at h
 unfold qQ at hp ⊢
 have h1:gd ops (⟨dst,op,type,pos,after,guard⟩:Oper) { st with ae:=q }=gd ops (⟨dst,op,type,pos,after,guard⟩:Oper) st:=rfl
 rw[h1]
 cases hg:gd ops (⟨dst,op,type,pos,after,guard⟩:Oper) st with
 | none=>rw[hg] at hp;cases hp
 | some w=>
  rw[hg] at hp
  cases w with
  | false=>
   simp only[tG,aK,cG,xR] at hp ⊢
   exact⟨trivial,hp.2⟩
  | true=>
   cases op with
   | call c=>
    obtain⟨callee,args,ats⟩:=c
    cases callee with
    | builtin bi=>
     cases bi with
     | len=>
      have hev:∀x,ev { st with ae:=q } x=ev st x:=fun x=>by cases x <;> rfl
      have hp:(if HN Γ st.ae dst .len (args.toList.map (ev st))=true then jL P st.bare dst type .len (args.toList.map (ev st)) ats.toList else none)=some (st.ae,d):=hp
      show (if HN Γ st.ae dst .len (args.toList.map (ev { st with ae:=q }))=true then jL P { st.bare with ae:=q } dst type .len (args.toList.map (ev { st with ae:=q })) ats.toList else none)=some (q,d)
      have hm:args.toList.map (ev { st with ae:=q })=args.toList.map (ev st):=OJ fun x _=>hev x
      rw[hm]
      split at hp
      case isFalse=>cases hp
      rename_i hgb
      rw[aC hgb]
      unfold jL at hp ⊢
      split at hp
      ·obtain⟨d',h3,h2⟩:=pS.1 hp
       cases h2
       have:=Pq (st:=st.bare) hb h3
       show ((EM P { st.bare with ae:=q } _ _ some).bind fun d=>some (q,d))=_
       rw[this]
       rfl
      all_goals first
       | (cases ‹Builtin.len=_›;done)
       | (cases hp;done)
     | _=>cases h
    | _=>cases h
   | _=>cases h
theorem Hd(hN:∀f A,Γ f=some A→A.Nat)(hpl:yL Γ pl){i j:Nat}{oi oj:Oper}(hi:ops[i]?=some oi)(hj:ops[j]?=some oj)(hc:TI ops pl oi oj=true){st s1 s2:St}
 (h1:yW P Γ ops i st=some s1) (h2:yW P Γ ops j s1=some s2):∃s1',yW P Γ ops j st=some s1'∧yW P Γ ops i s1'=some s2:=by
 simp only[TI,cS,oB] at hc
 obtain⟨hap,hcls⟩:=hc
 obtain⟨a1,a2,a3⟩:=Oper.apart_spec hap
 simp only[yW,hi,hj] at *
 cases e1:qQ P Γ ops oi st with
 | none=>simp[e1] at h1
 | some p1=>
  obtain⟨q1,d1⟩:=p1
  simp only[e1,fA,cG] at h1
  subst h1
  have w2:qQ P Γ ops oj (st.with oi.dst (q1,d1))=qQ P Γ ops oj { st with ae:=q1 }:=Df (st:={ st with ae:=q1 }) a1
  rw[w2] at h2
  have back:∀q2 d2,qQ P Γ ops oi (st.with oj.dst (q2,d2))=qQ P Γ ops oi { st with ae:=q2 }:=fun q2 d2=>Df (st:={ st with ae:=q2 }) a3
  have fin:∀q d2,((st.with oj.dst (q,d2)).with oi.dst (q,d1))=(st.with oi.dst (q1,d1)).with oj.dst (q,d2):=fun q d2=>by
   have hp:=Gy ({ st with ae:=q }:St) d1 d2 a2
   unfold St.with
   have r1:∀(s:St) (x:Option Nat) (d:D) (q:List O),({ s.put x d with ae:=q }:St)=({ s with ae:=q }:St).put x d:=fun s x d q=>by cases x <;> rfl
   simp only[r1]
   exact hp.symm
  cases e2:qQ P Γ ops oj { st with ae:=q1 } with
  | none=>simp[e2] at h2
  | some p2=>
   obtain⟨q2,d2⟩:=p2
   simp only[e2,fA,cG] at h2
   subst h2
   have caseq:q1=st.ae→(∀q,q=q2→qQ P Γ ops oi { st with ae:=q }=some (q2,d1))→∃s1',(qQ P Γ ops oj st).map (st.with oj.dst)=some s1'∧(qQ P Γ ops oi s1').map (s1'.with oi.dst)=some ((st.with oi.dst (q1,d1)).with oj.dst (q2,d2)):=fun hq hoi=>by
    subst hq
    have e3:qQ P Γ ops oj st=some (q2,d2):=e2
    refine⟨st.with oj.dst (q2,d2),by rw[e3];rfl,?_⟩
    rw[back,hoi q2 rfl]
    simp only[fA]
    rw[fin]
   have caseq3:∀x,qQ P Γ ops oj st=some (x,d2)→qQ P Γ ops oi { st with ae:=x }=some (q2,d1)→∃s1',(qQ P Γ ops oj st).map (st.with oj.dst)=some s1'∧(qQ P Γ ops oi s1').map (s1'.with oi.dst)=some ((st.with oi.dst (q1,d1)).with oj.dst (q2,d2)):=fun x e3 e5=>by
    refine⟨st.with oj.dst (x,d2),by rw[e3];rfl,?_⟩
    rw[back,e5]
    simp only[fA]
    have:=fin q2 d2
    have r2:((st.with oj.dst (x,d2)).with oi.dst (q2,d1))=((st.with oj.dst (q2,d2)).with oi.dst (q2,d1)):=by
     unfold St.with
     cases oj.dst <;> rfl
    rw[r2,this]
   have ld2:q2=q1→qQ P Γ ops oj st=some (st.ae,d2)→∃s1',(qQ P Γ ops oj st).map (st.with oj.dst)=some s1'∧(qQ P Γ ops oi s1').map (s1'.with oi.dst)=some ((st.with oi.dst (q1,d1)).with oj.dst (q2,d2)):=fun e e3=>caseq3 _ e3 (by rw[e];exact e1)
   rcases hcls with((((((((hP | hP) | ⟨hn1,hn2⟩) | ⟨hq0,⟨hl,hf⟩ | ⟨hf,hl⟩⟩) | ⟨hla,bo⟩) | ⟨⟨⟨hq0,hnl⟩,hx1⟩,hx2⟩) | ⟨⟨⟨hq0,hnl⟩,hx1⟩,hx2⟩) | (⟨hlb,hfe⟩ | ⟨hfe,hlb⟩)) | (⟨hln,hfb⟩ | ⟨hfb,hln⟩)) | (⟨hlc,hfc⟩ | ⟨hfc,hlc⟩)
   ·have hq:q1=st.ae:=xO hN hpl (pl:=pl) (QG hP) e1
    exact caseq hq fun q hqq=>by subst hqq;rw[Rm hpl hP,e1];rfl
   ·have hq2:q2=q1:=xO hN hpl (pl:=pl) (QG hP) e2
    subst hq2
    have e3:(qQ P Γ ops oj st).map (fun p=>(q2,p.2))=some (q2,d2):=by rw[←Rm hpl hP];exact e2
    cases e4:qQ P Γ ops oj st with
    | none=>rw[e4] at e3;cases e3
    | some p=>
     obtain⟨q0,d0⟩:=p
     rw[e4] at e3
     simp only[fA,cG,xR,OI] at e3
     subst e3
     have hq0:q0=st.ae:=xO hN hpl (pl:=pl) (QG hP) e4
     subst hq0
     refine⟨st.with oj.dst (st.ae,d0),rfl,?_⟩
     rw[back]
     have e5:qQ P Γ ops oi { st with ae:=st.ae }=some (q2,d1):=e1
     rw[e5]
     simp only[fA]
     have:=fin q2 d0
     have r2:((st.with oj.dst (st.ae,d0)).with oi.dst (q2,d1))=((st.with oj.dst (q2,d0)).with oi.dst (q2,d1)):=by
      unfold St.with
      cases oj.dst <;> rfl
     rw[r2,this]
   ·have hq:q1=st.ae:=xO hN hpl hn1 e1
    have hq2:q2=q1:=xO hN hpl hn2 e2
    exact caseq hq fun q hqq=>by rw[hqq,hq2,hq];have:qQ P Γ ops oi { st with ae:=st.ae }=some (q1,d1):=e1;rw[this,hq]
   ·-- a load,then a call
    have hq:q1=st.ae:=Ku hN hpl hl e1
    subst hq
    exact caseq rfl fun q hqq=>by
     subst hqq
     exact J0 hpl (hpl.2.2.2.1 hq0) hl (fun k hk=>Kv hpl (hpl.2.2.2.1 hq0) hf e2 k hk) e1
   ·have hq2:q2=q1:=Ku hN hpl hl e2
    subst hq2
    exact ld2 rfl (J0 (st:={ st with ae:=q2 }) (q:=st.ae) hpl (hpl.2.2.2.1 hq0) hl (fun k hk l=>(Kv hpl (hpl.2.2.2.1 hq0) hf e1 k hk l).symm) e2)
   ·have hw:jd pl oi=true:=by
     obtain⟨dst,op,type,pos,after,guard⟩:=oi
     unfold Dg at hla
     cases op with
     | call c=>
      obtain⟨callee,args,ats⟩:=c
      cases callee with
      | builtin bi=>cases bi <;> first | rfl | (cases hla;done)
      | _=>cases hla
     | _=>first | rfl | (cases hla;done)
    have hq:q1=st.ae:=xO hN hpl hw e1
    subst hq
    exact caseq rfl fun q hqq=>by
     subst hqq
     exact Hc hla bo e1 e2
   ·have hq:=hpl.2.2.2.1 hq0
    have hnl':(!pl.contains 28999999)=true:=by simpa using hnl
    obtain⟨d1',x1,g1,hd1,E1⟩:=Kw (P:=P) (ops:=ops) hpl hq hnl' hx1
    obtain⟨d2',x2,g2,hd2,E2⟩:=Kw (P:=P) (ops:=ops) hpl hq hnl' hx2
    obtain⟨i1,i2,i3,i4,i5,i6⟩:=(E1 st q1 d1).1 e1
    obtain⟨j1,j2,j3,j4,j5,j6⟩:=(E2 { st with ae:=q1 } q2 d2).1 e2
    have hne:st.np+d1'≠st.np+d2':=fun e=>a2 d1' i1 (by rw[j1];congr 1;omega)
    have j3':q1[st.np+d2']?=some .fresh:=j3
    have j4':q2=q1.set (st.np+d2') x2:=j4
    subst i4
    have hf2:st.ae[st.np+d2']?=some .fresh:=by rw[fK hne] at j3';exact j3'
    have e3:qQ P Γ ops oj st=some (st.ae.set (st.np+d2') x2,d2):=(E2 st _ _).2 ⟨j1,j2,hf2,rfl,j5,by
     rw[oB] at j6 ⊢
     refine j6.imp (fun h=>?_) id
     have h:WP (EN Γ) (st.ae.set (st.np+d1') x1) q2=true:=h
     rw[j4'] at h
     exact Ky hne hf2 h⟩
    have e5:qQ P Γ ops oi { st with ae:=st.ae.set (st.np+d2') x2 }=some (q2,d1):=(E1 _ _ _).2 ⟨i1,i2,by
     show (st.ae.set (st.np+d2') x2)[st.np+d1']?=_
     rw[fK hne.symm];exact i3,by
     rw[j4']
     exact UC _ _ hne,i5,by
     rw[oB] at i6 ⊢
     refine i6.imp (fun h=>?_) id
     show WP (EN Γ) (st.ae.set (st.np+d2') x2) q2=true
     rw[j4',UC _ _ hne]
     exact Kz hne i3 h⟩
    exact caseq3 _ e3 e5
   ·have hq:=hpl.2.2.2.1 hq0
    have hnl':(!pl.contains 28999999)=true:=by simpa using hnl
    obtain⟨k1,x1,n1,f1,g1,E1⟩:=Kx (P:=P) (ops:=ops) hpl hq hnl' hx1 e1
    obtain⟨k2,x2,n2,f2,g2,E2⟩:=Kx (P:=P) (ops:=ops) hpl hq hnl' hx2 e2
    subst g1
    have f2':(st.ae.set (st.np+k1) x1)[st.np+k2]?=some .fresh:=f2
    have g2':q2=(st.ae.set (st.np+k1) x1).set (st.np+k2) x2:=g2
    have hlt:st.np+k1<st.ae.length:=(dL.1 f1).1
    have hne:st.np+k1≠st.np+k2:=fun e=>by
     rw[←e,iJ hlt] at f2'
     cases f2'
     exact n1 rfl
    have hf2:st.ae[st.np+k2]?=some .fresh:=by rw[fK hne] at f2';exact f2'
    have e3:qQ P Γ ops oj st=some (st.ae.set (st.np+k2) x2,d2):=E2 st.ae hf2
    have e5:qQ P Γ ops oi { st with ae:=st.ae.set (st.np+k2) x2 }=some (q2,d1):=by
     rw[E1 (st.ae.set (st.np+k2) x2) (by rw[fK hne.symm];exact f1),g2',UC _ _ hne]
    exact caseq3 _ e3 e5
   ·-- a load from a box,then a store into an element
    have hq:q1=st.ae:=Dm hN hpl hlb e1
    subst hq
    exact caseq rfl fun q hqq=>by
     subst hqq
     exact HQ hpl hlb (Dl hpl hfe e2) e1
   ·have hq2:q2=q1:=Dm (st:={ st with ae:=q1 }) hN hpl hlb e2
    subst hq2
    exact ld2 rfl (HQ (st:={ st with ae:=q2 }) (q:=st.ae) hpl hlb (Dl hpl hfe e1).symm e2)
   ·-- a length,then a store into a box
    have hq:q1=st.ae:=Dr hN hpl hln e1
    subst hq
    exact caseq rfl fun q hqq=>by
     subst hqq
     exact HS hln (Do hpl hfb e2) e1
   ·have hq2:q2=q1:=Dr (st:={ st with ae:=q1 }) hN hpl hln e2
    subst hq2
    exact ld2 rfl (HS (st:={ st with ae:=q2 }) (q:=st.ae) hln (Do hpl hfb e1).symm e2)
   ·-- a load from a box,then a store off the list A
    have hq:q1=st.ae:=Dq hN hpl hlc e1
    subst hq
    exact caseq rfl fun q hqq=>by
     subst hqq
     exact HR hpl hlc (Dp hpl hfc e2) e1
   ·have hq2:q2=q1:=Dq (st:={ st with ae:=q1 }) hN hpl hlc e2
    subst hq2
    exact ld2 rfl (HR (st:={ st with ae:=q2 }) (q:=st.ae) hpl hlc (Dp hpl hfc e1).symm e2)
end
end Go.Eng
