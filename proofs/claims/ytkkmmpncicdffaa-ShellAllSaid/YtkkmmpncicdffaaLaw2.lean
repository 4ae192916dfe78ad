/- The functions and the laws of this seat in plain words; each statement names its conditions. -/
import Derived.Test.YtkkmmpncicdffaaLaw
import Derived.Test.YtkkmmpncicdffaaEng3
set_option linter.unusedSimpArgs false
set_option linter.unusedVariables false
namespace Go.Eng.Tl
open Go.Eng Go.RowKit Go.Proofs
section
variable {Z0:Nat→Prop} {g f:Nat} {w0 w w':World} {L:List T} {at0 c:Int} {F:Fs} {h:HS} {gF:HF} {v:Value} {a:Act} {Q:Exit→Act→World→Prop}
theorem K9{m v at1:Int}(hu:aJ ((),m,L,at0,())=some (v,L,at1,())):X3 L m at0=some (v,at1):=by unfold X3;rw[hu];rfl
theorem LA{m at1:Int}{v:Bool}(hu:aM ((),m,L,at0,())=some (v,L,at1,())):My L m at0=some (v,at1):=by unfold My;rw[hu];rfl
theorem Jz(hQ:∀c a d v w,Q (.panic c) (a.put d v) w→Q (.panic c) a w)(hf:Fr 145 (VU g h f v c) a)(hp:Pre Z0 g w0 L at0 F h f gF v w)(h0:0≤c)(h6:c<6)
 (hn:∀a' w' F' h' a1,Hq L F f c at0=some (F',a1)→Fr 145 [(3,h'.1)] a'→Fnd Z0 g w0 L a1 F' h' w'→Q .normal a' w'):(nJ QG (oM Try.f12)).wp Try.prog Q a w:=by
 have dec:∀(k:Int) {env:List (Nat×Value)} {a:Act} {t:Nat},Fr 145 env a→env.lookup t=some (.bool (eqI c k))→(c=k→a.eval (.tmp t)=.bool true)∧(c≠k→a.eval (.tmp t)=.bool false):=fun k env a t hf hl=>
  ⟨fun e=>by rw[hf.ev (x:=.tmp t) hl,aP,decide_eq_true e],fun e=>by rw[hf.ev (x:=.tmp t) hl,aP,decide_eq_false e]⟩
 refine wp_seq (aZ (by kernel_rfl) ?_)
 refine dF hf rfl rfl (by decide) rfl rfl rfl rfl (GN _ _) fun a hf=>?_
 refine aR hf rfl rfl (by decide) rfl fun a hf=>?_
 by_cases e0:c=0
 ·refine wp_cond_true ((dec 0 hf rfl).1 e0) ?_
  refine Wi rfl (hf.weak ⟨rfl,rfl,rfl,rfl,rfl,trivial⟩) hp fun a' w' h' hf' hd=>hn a' w' _ h' at0 ?_ hf' hd
  unfold Hq;simp only[if_pos e0]
 refine wp_cond_false ((dec 0 hf rfl).2 e0) ?_
 refine wp_seq (aZ (by kernel_rfl) ?_)
 refine dF hf rfl rfl (by decide) rfl rfl rfl rfl (GN _ _) fun a hf=>?_
 refine aR hf rfl rfl (by decide) rfl fun a hf=>?_
 by_cases e1:c=1
 ·refine wp_cond_true ((dec 1 hf rfl).1 e1) ?_
  refine Wl rfl hQ (hf.weak ⟨rfl,rfl,rfl,rfl,rfl,trivial⟩) hp fun a' w' hf' hd=>hn a' w' _ h at0 ?_ hf' hd
  unfold Hq;simp only[if_neg e0,if_pos e1]
 refine wp_cond_false ((dec 1 hf rfl).2 e1) ?_
 refine wp_seq (aZ (by kernel_rfl) ?_)
 refine dF hf rfl rfl (by decide) rfl rfl rfl rfl (GN _ _) fun a hf=>?_
 refine aR hf rfl rfl (by decide) rfl fun a hf=>?_
 by_cases e2:c=2
 ·refine wp_cond_true ((dec 2 hf rfl).1 e2) ?_
  refine Wk rfl (hf.weak ⟨rfl,rfl,rfl,rfl,rfl,trivial⟩) hp fun a' w' i z a1 a2 q1 q2 hf' hd=>hn a' w' _ h a2 ?_ hf' hd
  unfold Hq;simp only[if_neg e0,if_neg e1,if_pos e2,q1,q2,Option.bind_some]
 refine wp_cond_false ((dec 2 hf rfl).2 e2) ?_
 refine wp_seq (aZ (by kernel_rfl) ?_)
 refine dF hf rfl rfl (by decide) rfl rfl rfl rfl (GN _ _) fun a hf=>?_
 refine aR hf rfl rfl (by decide) rfl fun a hf=>?_
 by_cases e3:c=3
 ·refine wp_cond_true ((dec 3 hf rfl).1 e3) ?_
  refine Tt (.inl ⟨rfl,rfl⟩) (hf.weak ⟨rfl,rfl,rfl,rfl,rfl,trivial⟩) hp fun a' w' h' hf' hd=>hn a' w' _ h' at0 ?_ hf' hd
  unfold Hq;simp only[if_neg e0,if_neg e1,if_neg e2,if_pos e3]
 refine wp_cond_false ((dec 3 hf rfl).2 e3) ?_
 refine wp_seq (aZ (by kernel_rfl) ?_)
 refine dF hf rfl rfl (by decide) rfl rfl rfl rfl (GN _ _) fun a hf=>?_
 refine aR hf rfl rfl (by decide) rfl fun a hf=>?_
 by_cases e4:c=4
 ·refine wp_cond_true ((dec 4 hf rfl).1 e4) ?_
  refine Wj rfl (hf.weak ⟨rfl,rfl,rfl,rfl,rfl,trivial⟩) hp fun a' w' h' hf' hd=>hn a' w' _ h' at0 ?_ hf' hd
  unfold Hq;simp only[if_neg e0,if_neg e1,if_neg e2,if_neg e3,if_pos e4]
 refine wp_cond_false ((dec 4 hf rfl).2 e4) ?_
 refine wp_seq (aZ (by kernel_rfl) ?_)
 refine dF hf rfl rfl (by decide) rfl rfl rfl rfl (GN _ _) fun a hf=>?_
 refine aR hf rfl rfl (by decide) rfl fun a hf=>?_
 refine wp_cond_true ((dec 5 hf rfl).1 (by omega)) ?_
 refine Tt (.inr ⟨rfl,rfl⟩) (hf.weak ⟨rfl,rfl,rfl,rfl,rfl,trivial⟩) hp fun a' w' h' hf' hd=>hn a' w' _ h' at0 ?_ hf' hd
 unfold Hq;simp only[if_neg e0,if_neg e1,if_neg e2,if_neg e3,if_neg e4]
def Sh(F:Fs):Prop:=∀i,i<F.length→0<(F.getD i []).length∧(F.getD i []).length≤2∧∀k,k<(F.getD i []).length→((F.getD i []).getD k []).length=4
theorem Sh.bd{F:Fs}(h:Sh F)(i:Nat):(F.getD i []).length≤2:=by
 by_cases hi:i<F.length
 ·exact(h i hi).2.1
 ·rw[List.getD_eq_getElem?_getD,List.getElem?_eq_none (by omega)];exact Nat.zero_le _
theorem Sh.bd2{F:Fs}(h:Sh F)(i k:Nat):((F.getD i []).getD k []).length≤4:=by
 by_cases hi:i<F.length
 ·by_cases hk:k<(F.getD i []).length
  ·exact Nat.le_of_eq ((h i hi).2.2 k hk)
  ·rw[List.getD_eq_getElem?_getD (l:=F.getD i []),List.getElem?_eq_none (by omega)];exact Nat.zero_le _
 ·have e:F.getD i []=[]:=by rw[List.getD_eq_getElem?_getD,List.getElem?_eq_none (by omega)];rfl
  rw[e];exact Nat.zero_le _
theorem Sh.same{F G:Fs}(h:Sh F)(e:eA G=eA F):Sh G:=fun i hi=>by
 rw[pA e] at hi
 obtain⟨h1,h2,h3⟩:=h i hi
 rw[wZ e i]
 exact⟨h1,h2,fun k hk=>by rw[xA e i k];exact h3 k hk⟩
theorem Sh.append{F G:Fs}(h:Sh F)(k:Sh G):Sh (F++G):=fun i hi=>by
 rw[List.length_append] at hi
 by_cases hl:i<F.length
 ·have e:(F++G).getD i []=F.getD i []:=by rw[List.getD_eq_getElem?_getD,List.getElem?_append_left hl,←List.getD_eq_getElem?_getD]
  rw[e];exact h i hl
 ·have e:(F++G).getD i []=G.getD (i-F.length) []:=by rw[List.getD_eq_getElem?_getD,List.getElem?_append_right (by omega),←List.getD_eq_getElem?_getD]
  rw[e];exact k _ (by omega)
def Wm(F:Fs):Bool:=F.all fun c=>decide (0<c.length)&&decide (c.length≤2)&&c.all fun x=>decide (x.length=4)
theorem Na{F:Fs}(h:Wm F=true):Sh F:=fun i hi=>by
 have h1:=List.all_eq_true.1 h (F.getD i []) (bA hi [])
 simp only[Bool.and_eq_true,decide_eq_true_eq,List.all_eq_true] at h1
 exact⟨h1.1.1,h1.1.2,fun k hk=>h1.2 _ (bA hk [])⟩
theorem Fl:Sh IA:=Na (by decide +kernel)
theorem N9:Sh mT:=Na (by decide +kernel)
noncomputable def Tu(L:List T):Nat→Fs→Int→Option (Fs×Int)
 | 0,F,a=>some (F,a)
 | n+1,F,a=>(My L 3 a).bind fun p=>(X3 L 3 p.2).bind fun q=>Tu L n (F++Jw (wr .i64 (OO q.1 8)) (bif p.1 then mT else IA)) q.2
def pB:List Nat:=[1,1,0,1,0,0,1,0,0,1,1]
theorem Ax{nn:Int}{Fo:Fs}{ho:HS}(hf:Fr 145 [(0,pg g),(3,ho.1),(4,vI nn),(5,h.1)] a)(hw:Wst Z0 g w0 L at0 Fo ho F h w)(hz0:Z0 g)(hs:Sh F)(hF0:0<F.length)(hF:F.length≤20)(hFo:Fo.length≤100)
 (hn:∀s a1 a' w' h',X3 L 3 at0=some (s,a1)→Fr 145 [(0,pg g),(3,h'.1),(4,vI nn)] a'→Env (fun b=>Z0 b∨b∈oN h') g w0 L a1 w'→Made w0 w' (Fo++Jw (wr .i64 (OO s 8)) F) h'→Q .normal a' w'):(nJ pB (oM Try.f12)).wp Try.prog Q a w:=by
 refine wp_seq (aZ (by kernel_rfl) ?_)
 refine aK hf rfl rfl (by decide) rfl fun a hf=>?_
 refine A4 hw.env hf rfl rfl (by decide) rfl rfl (by decide) (by decide) fun s a1 a w1 hu hs0 hs3 hf hst he1=>?_
 have hw1:Wst Z0 g w0 L a1 Fo ho F h w1:=⟨he1,hw.out.step hst fun b e=>e▸hw.lt,hw.cur.step hst fun b e=>e▸hw.lt,hw.dis,hw.lt⟩
 refine dF hf rfl rfl (by decide) rfl rfl rfl rfl (Po _ _) fun a hf=>?_
 refine aR hf rfl rfl (by decide) rfl fun a hf=>?_
 refine wp_seq ?_
 refine VR (hf.weak ⟨rfl,rfl,rfl,rfl,rfl,trivial⟩) hw1 (by omega) (fun i=>by have:=hs.bd i;omega) (fun i k=>by have:=hs.bd2 i k;omega) fun a w2 hf hw2=>?_
 refine aZ (by kernel_rfl) ?_
 refine aK hf rfl rfl (by decide) rfl fun a hf=>?_
 refine aK hf rfl rfl (by decide) rfl fun a hf=>?_
 have hl:(Jw (wr .i64 (OO s 8)) F).length=F.length:=pA (vN _ F)
 refine N4 hf hw2.out hw2.cur hw2.dis rfl rfl (by decide) rfl rfl (by omega) (by omega) hw2.env.stp.size fun a w3 h' hf hst3 hm hbk=>?_
 refine aR hf rfl rfl (by decide) rfl fun a hf=>?_
 have hho:∀b∈H9 ho.1,b∈oN ho:=fun b e=>List.mem_append.2 (.inl e)
 refine hn s a1 a w3 h' (K9 hu) (hf.weak ⟨rfl,rfl,rfl,trivial⟩) (hw2.env.write hst3 (fun b e=>.inr (.inl (hho b e))) (fun e=>by have:=hw2.out.lo _ (hho _ e);have:=hw2.lt;omega) (fun b e=>hw2.out.lo b (hho b e)) (fun b e=>?_) (fun b e=>?_) (.inl hz0)) hm
 ·rcases e with e | e
  ·exact .inl (.inl e)
  ·rcases hbk b e with e | e | e
   ·exact .inl (.inr (.inl e))
   ·exact .inl (.inr (.inr e))
   ·exact .inr e
 ·rcases e with e | e
  ·exact Nat.lt_of_lt_of_le (hw2.env.zl b (.inl e)) hst3.size
  ·exact hm.own.lt e
end
noncomputable def Si(L:List T)(F:Fs)(a:Int):Option (Fs×Int):=(My L 2 a).bind fun p=>bif p.1 then (X3 L F.length p.2).bind fun q=>(X3 L 6 q.2).bind fun r=>Hq L F q.1.toNat r.1 r.2 else some (F,p.2)
noncomputable def C7(L:List T)(a:Int):Option (Fs×Int):=(X3 L 2 a).bind fun p=>(Tu L (1+p.1).toNat [] p.2).bind fun q=>Si L q.1 q.2
set_option maxHeartbeats 8000000 in
set_option maxRecDepth 10000 in
theorem VV{Z0:Nat→Prop}{g:Nat}{w0:World}{L:List T}{at0:Int}{a:Act}{Q:Exit→Act→World→Prop}(hQ:∀c a d v w,Q (.panic c) (a.put d v) w→Q (.panic c) a w)(hf:Fr 145 [(0,pg g)] a)(he:Env Z0 g w0 L at0 w0)(hg0:g<w0.heap.size)
 (hn:∀F h a1 a' w',C7 L at0=some (F,a1)→Fr 145 [(2,h.1)] a'→Fnd Z0 g w0 L a1 F h w'→Q .ret a' w'):(oM Try.f12).wp Try.prog Q a w0:=by
 refine wp_seq (aZ (by kernel_rfl) ?_)
 refine aR hf rfl rfl (by decide) rfl fun a hf=>?_
 refine wp_seq (aZ (by kernel_rfl) ?_)
 refine aR hf rfl rfl (by decide) rfl fun a hf=>?_
 refine wp_seq (wp_seq (aZ (by kernel_rfl) ?_))
 refine aK hf rfl rfl (by decide) rfl fun a hf=>?_
 refine A4 he hf rfl rfl (by decide) rfl rfl (by decide) (by decide) fun v a0 a w1 hu0 hv0 hv1 hf hs1 he1=>?_
 refine dF hf rfl rfl (by decide) rfl rfl rfl rfl (oE _ _) fun a hf=>?_
 refine aR hf rfl rfl (by decide) rfl fun a hf=>?_
 obtain⟨n0,hn0⟩:∃n0:Nat,1+v=(n0:Int):=⟨(1+v).toNat,by omega⟩
 rw[show wr .i64 (1+v)=(n0:Int) from by rw[mY (by omega) (by omega)];exact hn0] at hf
 have hz0:Z0 g:=he.zg
 have hnil:Made w0 w1 [] ((.slice none 0 0,[]):HS):=⟨⟨rfl,rowAt.nil _ _ _,fun j c g h=>by cases h⟩,List.nodup_nil,fun b hb=>by cases hb⟩
 refine wp_block (zH (m:=n0) (fun m a w=>∃F h a1,Fr 145 [(0,pg g),(3,h.1),(4,vI (m:Int))] a∧Env (fun b=>Z0 b∨b∈oN h) g w0 L a1 w∧Made w0 w F h∧Sh F∧F.length+10*m≤20∧0<F.length+m∧Tu L m F a1=Tu L n0 [] a0) ?_ ?_
  ⟨[],(.slice none 0 0,[]),a0,hf.weak ⟨rfl,rfl,rfl,trivial⟩,he1.grow (Stp.refl _ _) (fun b e=>.inl (e.elim id fun e=>by cases e)) (fun b e=>he1.zl b (e.elim id fun e=>by cases e)) (.inl hz0),hnil,fun i hi=>absurd hi (Nat.not_lt_zero i),by simp only[List.length_nil];omega,by simp only[List.length_nil];omega,rfl⟩)
 ·rintro K a w ⟨F,h,a1,hf,he,hm,hsh,hF,hpos,hrd⟩
  refine wp_seq (wp_seq (aZ (by kernel_rfl) ?_))
  refine aK hf rfl rfl (by decide) rfl fun a hf=>?_
  refine dF hf rfl rfl (by decide) rfl rfl rfl rfl (Fi _ _) fun a hf=>?_
  refine wp_cond_false (by rw[hf.ev (x:=.tmp 16) rfl,aA];rfl) (wp_exit ?_)
  refine wp_seq (wp_seq (aZ (by kernel_rfl) ?_))
  refine aK hf rfl rfl (by decide) rfl fun a hf=>?_
  refine X1 he hf rfl rfl (by decide) rfl rfl (by decide) (by decide) fun b2 a2 a w2 hu2 hf hs2 he2=>?_
  have hm2:=hm.step hs2 fun b e=>e▸hg0
  have hend:∀(h':HS) F' a3 a w3,Fr 145 [(3,h'.1)] a→C7 L at0=some (F',a3)→Fnd Z0 g w0 L a3 F' h' w3→Code.wp Try.prog (nJ [1,1,1,1] (oM Try.f12)) Q a w3:=fun h' F' a3 a w3 hf hP hd=>by
   refine wp_seq (aZ (by kernel_rfl) ?_)
   refine aK hf rfl rfl (by decide) rfl fun a hf=>?_
   refine aR hf rfl rfl (by decide) rfl fun a hf=>?_
   exact wp_ret (hn F' h' a3 a w3 hP (hf.weak ⟨rfl,trivial⟩) hd)
  have hFP:∀r,Si L F a1=some r→C7 L at0=some r:=fun r hr=>by
   unfold C7
   rw[K9 hu0,Option.bind_some,hn0,Int.toNat_natCast,←hrd]
   exact hr
  cases b2 with
  | false=>
   refine wp_cond_false (hf.ev (x:=.tmp 70) rfl) (wp_skip ?_)
   refine hend h F a2 a w2 (hf.weak ⟨rfl,trivial⟩) (hFP _ ?_) ⟨he2.grow (Stp.refl _ _) (fun b e=>.inl (.inl e)) (fun b e=>he2.zl b (.inl e)) hz0,hm2.own,hm2.lo⟩
   unfold Si;rw[LA hu2];rfl
  | true=>
   refine wp_cond_true (hf.ev (x:=.tmp 70) rfl) ?_
   refine wp_seq (aZ (by kernel_rfl) ?_)
   refine aK hf rfl rfl (by decide) rfl fun a hf=>?_
   refine aK hf rfl rfl (by decide) rfl fun a hf=>?_
   refine K8 hf hm2.own.row rfl rfl (by decide) Try.underlying28 rfl fun a hf=>?_
   refine A4 he2 hf rfl rfl (by decide) rfl rfl (by omega) (by omega) fun f a3 a w3 hu3 hf0 hf1 hf hs3 he3=>?_
   have hm3:=hm2.step hs3 fun b e=>e▸hg0
   refine aR hf rfl rfl (by decide) rfl fun a hf=>?_
   obtain⟨f,rfl⟩:∃q:Nat,f=(q:Int):=⟨f.toNat,by omega⟩
   have hfl:f<F.length:=by omega
   obtain⟨s1,s2,s3⟩:=hsh f hfl
   refine wp_seq (aZ (by kernel_rfl) ?_)
   refine aK hf rfl rfl (by decide) rfl fun a hf=>?_
   refine aK hf rfl rfl (by decide) rfl fun a hf=>?_
   refine Fk hf hm3.own rfl rfl rfl rfl (by decide) (by decide) rfl rfl hfl fun a gF p hg hO hf=>?_
   refine Pr (i:=0) hf hO rfl rfl rfl rfl (by decide) (by decide) rfl rfl s1 fun a v p hv hL hf=>?_
   refine aR hf rfl rfl (by decide) rfl fun a hf=>?_
   refine wp_seq (aZ (by kernel_rfl) ?_)
   refine aK hf rfl rfl (by decide) rfl fun a hf=>?_
   refine A4 he3 hf rfl rfl (by decide) rfl rfl (by decide) (by decide) fun c a4 a w4 hu4 hc0 hc1 hf hs4 he4=>?_
   have hp4:Pre Z0 g w0 L a4 F h f gF v w4:=⟨he4,hz0,hm3.step hs4 fun b e=>e▸hg0,hg0,hfl,by omega,hg,hv,s1,s3 0 s1⟩
   refine wp_block (Jz (fun c a d v w h=>hQ c a d v w h) (hf.weak ⟨rfl,rfl,rfl,rfl,rfl,trivial⟩) hp4 hc0 hc1 fun a' w' F' h' a5 hsw hf' hd=>?_)
   refine hend h' F' a5 a' w' hf' (hFP _ ?_) hd
   unfold Si
   rw[LA hu2,Option.bind_some,cond_true,K9 hu3,Option.bind_some,K9 hu4]
   exact hsw
 ·rintro m K hK a w ⟨F,h,a1,hf,he,hm,hsh,hF,hpos,hrd⟩
  refine wp_seq (wp_seq (aZ (by kernel_rfl) ?_))
  refine aK hf rfl rfl (by decide) rfl fun a hf=>?_
  refine dF hf rfl rfl (by decide) rfl rfl rfl rfl (Fi _ _) fun a hf=>?_
  refine wp_cond_true (by rw[hf.ev (x:=.tmp 16) rfl,aA,decide_eq_true (by omega)]) (wp_skip ?_)
  have hrest:∀(G:Fs) (k:HS) (b:Bool) a2 a w,G=(bif b then mT else IA)→My L 3 a1=some (b,a2)→Fr 145 [(0,pg g),(3,h.1),(4,vI ((m+1:Nat):Int)),(5,k.1)] a→Wst Z0 g w0 L a2 F h G k w →
   ∀Q':Exit→Act→World→Prop,(∀a' w',(∀Q0,Code.wp Try.prog (nJ [1,1,0,1,0,0,1,1] (oM Try.f12)) (Exit.then K Q0) a' w')→Q' .normal a' w')→(nJ pB (oM Try.f12)).wp Try.prog Q' a w:=fun G k b a2 a w hG hb hf hw Q' hQ'=>by
   have hGs:Sh G:=by rw[hG];cases b;exact Fl;exact N9
   have hGl:0<G.length∧G.length≤10:=by rw[hG];cases b <;> decide +kernel
   refine Ax hf hw hz0 hGs hGl.1 (by omega) (by omega) fun s a3 a' w' h' hs hf he hm=>hQ' _ _ fun Q0=>?_
   refine aZ (by kernel_rfl) ?_
   refine aK hf rfl rfl (by decide) rfl fun a hf=>?_
   refine dF hf rfl rfl (by decide) rfl rfl rfl rfl (Fh _ _) fun a hf=>?_
   refine aR hf rfl rfl (by decide) rfl fun a hf=>?_
   rw[show wr .i64 (((m+1:Nat):Int)-1)=(m:Int) from by rw[mY (by omega) (by omega)];omega] at hf
   have hl:(Jw (wr .i64 (OO s 8)) G).length=G.length:=pA (vN _ G)
   refine hK _ _ ⟨_,h',a3,hf.weak ⟨rfl,rfl,rfl,trivial⟩,he,hm,hsh.append (hGs.same (vN _ G)),?_,?_,?_⟩
   ·rw[List.length_append,hl];omega
   ·rw[List.length_append,hl];omega
   ·rw[←hrd]
    show _=(My L 3 a1).bind _
    rw[hb,Option.bind_some,hs,Option.bind_some,←hG]
  refine wp_seq (wp_block (wp_seq (aZ (by kernel_rfl) ?_)))
  refine X2 (F:=IA) Ff ⟨_,Try.func24,by kernel_rfl,by kernel_rfl⟩ hf rfl rfl (by decide) fun k a w1 hmk hs1 hf=>?_
  refine aR hf rfl rfl (by decide) rfl fun a hf=>?_
  have hdis:∀b∈oN h,b∉oN k:=fun b e1 e2=>by have:=hm.own.lt e1;have:=hmk.lo b e2;omega
  have he1:Env (fun b=>Z0 b∨b∈oN h∨b∈oN k) g w0 L a1 w1:=he.grow hs1 (fun b e=>by
   rcases e with e | e | e
   ·exact .inl (.inl e)
   ·exact .inl (.inr e)
   ·exact .inr (hmk.lo b e)) (fun b e=>by
   rcases e with e | e | e
   ·exact Nat.lt_of_lt_of_le (he.zl b (.inl e)) hs1.size
   ·exact Nat.lt_of_lt_of_le (he.zl b (.inr e)) hs1.size
   ·exact hmk.own.lt e) (.inl hz0)
  have hmk1:=hmk.old he.stp.size
  have hm1:=hm.step hs1 fun _ h=>h.elim
  refine wp_seq (wp_seq (aZ (by kernel_rfl) ?_))
  refine aK hf rfl rfl (by decide) rfl fun a hf=>?_
  refine X1 he1 hf rfl rfl (by decide) rfl rfl (by decide) (by decide) fun b a2 a w2 hu hf hs2 he2=>?_
  have hm2:=hm1.step hs2 fun b e=>e▸hg0
  have hmk2:=hmk1.step hs2 fun b e=>e▸hg0
  cases b with
  | false=>
   refine wp_cond_false (hf.ev (x:=.tmp 21) rfl) (wp_skip ?_)
   exact hrest IA k false a2 a w2 rfl (LA hu) (hf.weak ⟨rfl,rfl,rfl,rfl,trivial⟩) ⟨he2,hm2,hmk2,hdis,hg0⟩ _ fun a' w' hh=>hh _
  | true=>
   refine wp_cond_true (hf.ev (x:=.tmp 21) rfl) (aZ (by kernel_rfl) ?_)
   refine X2 (F:=mT) SY ⟨_,Try.func26,by kernel_rfl,by kernel_rfl⟩ hf rfl rfl (by decide) fun k2 a w3 hmk3 hs3 hf=>?_
   refine aR hf rfl rfl (by decide) rfl fun a hf=>?_
   have hdis2:∀b∈oN h,b∉oN k2:=fun b e1 e2=>by have:=hm2.own.lt e1;have:=hmk3.lo b e2;omega
   have he3:Env (fun b=>Z0 b∨b∈oN h∨b∈oN k2) g w0 L a2 w3:=he2.grow hs3 (fun b e=>by
    rcases e with e | e | e
    ·exact .inl (.inl e)
    ·exact .inl (.inr (.inl e))
    ·exact .inr (hmk3.lo b e)) (fun b e=>by
    rcases e with e | e | e
    ·exact Nat.lt_of_lt_of_le (he2.zl b (.inl e)) hs3.size
    ·exact Nat.lt_of_lt_of_le (he2.zl b (.inr (.inl e))) hs3.size
    ·exact hmk3.own.lt e) (.inl hz0)
   exact hrest mT k2 true a2 a w3 rfl (LA hu) (hf.weak ⟨rfl,rfl,rfl,rfl,trivial⟩) ⟨he3,hm2.step hs3 fun _ h=>h.elim,hmk3.old he2.stp.size,hdis2,hg0⟩ _ fun a' w' hh=>hh _
end Go.Eng.Tl
namespace Go.Eng
open Go.Eng.Tl Go.RowKit Go.Proofs
def mN:Sig:={ na:=1,np:=1,hin:={ items:=[.slot 0,.box 0 2],shapes:=[.lit (.box 0 0),.sl 1,.int Go.IntKind.i64] },nres:=1,kept:=[],nnew:=0,hout:={ items:=[.slot 0,.box 0 2],shapes:=[.sl 1,.sl 1,.int Go.IntKind.i64] },nob:=0 }
noncomputable def cU(t:(Unit×(List T)×Int×Unit)):Option ((List T)×(List T)×Int×Unit):=
 match Classical.propDecidable (j8 t.2.1 t.2.2.1) with
 | .isTrue _=>(C7 t.2.1 t.2.2.1).map fun p=>(eS p.1,t.2.1,p.2,())
 | .isFalse _=>none
theorem vO:(aB mN cU).OK Try.prog 12:=by
 refine D1 (code:=oM Try.f12) (rv:=[.tmp 2]) (nt:=145) Try.func12 (by kernel_rfl) rfl rfl (by kernel_rfl) ?_
 rintro ⟨⟨⟩,L,at0,⟨⟩⟩ q hU w F Xc ρ0 ρ a Q _ hG hR hQ hn
 have hU':∃hd:j8 L at0,(C7 L at0).map (fun p=>(eS p.1,L,p.2,()))=some q:=by
  unfold cU at hU
  split at hU
  ·rename_i hd _;exact⟨hd,hU⟩
  ·cases hU
 obtain⟨hd,hq⟩:=hU'
 have hst:US 145 mN ((),L,at0,())={ np:=1,env:=D.s (.c (.box 0 0))::List.replicate 144 D.top,objs:=GO L at0 }:=by kernel_rfl
 rw[hst] at hR
 obtain⟨hv,e1,g,ys,ty,e2,e3,_,e4⟩:=hR.objs 0 _ rfl
 subst e2
 have hlen:a.tmps.size=145:=hR.len
 have h0:a.tmps[0]?=some (pg g):=by
  have h1:a.tmps[0]?=some a.tmps[0]:=Array.getElem?_eq_getElem (by omega)
  have h2:=hR.env 0 _ _ rfl h1
  rcases(h2:RdC1 _ _ _ _ _) with h2 | ⟨⟨v,q1,ad,q2,q3⟩,_⟩
  ·cases h2
  ·rw[e1] at q1
   cases q1
   cases q2
   rw[h1,q3];rfl
 have hmut:∀b,oT (GO L at0) ρ b↔b=g:=Jv e1
 have hglt:g<w.heap.size:=(Array.getElem?_eq_some_iff.1 e3).1
 have hFg:F g:=by
  rcases hR.own g ((hmut g).2 rfl) with h | h
  ·omega
  ·exact h
 refine VV (Z0:=XB (GO L at0) ρ Xc) (g:=g) (w0:=w) (L:=L) (at0:=at0) hQ ⟨hlen,hR.defers,fun t v h=>?_⟩ ⟨⟨ys,ty,e3,RdL.any (ts:=[.sl 1 L,.v (vI at0)]) e4⟩,hd,.refl _ _,fun q k hq=>⟨fun e=>(hG q k hq).1 (e▸hFg),(hG q k hq).2⟩,.inl ((hmut g).2 rfl),fun b hb=>?_⟩ hglt fun F' h' a1 a' w' hP hf hd=>?_
 ·rw[List.lookup_cons] at h
  by_cases ht:t=0
  ·subst ht
   simp at h
   subst h
   rw[Array.getD_eq_getD_getElem?,h0];rfl
  ·rw[beq_eq_false_iff_ne.2 ht] at h;cases h
 ·rcases hb with hb | hb
  ·exact(hmut b).1 hb▸hglt
  ·exact hR.xcl b hb
 ·rw[hP] at hq
  cases hq
  have hmut':∀b,oT (GO L a1) ρ b↔b=g:=Jv e1
  have hXX:∀b,XB (GO L a1) ρ Xc b↔XB (GO L at0) ρ Xc b:=fun b=>or_congr ((hmut' b).trans (hmut b).symm) Iff.rfl
  have hrd:Rd w' (XB (GO L a1) ρ Xc) (.sl 1 (eS F')) h'.1:=hd.own.rd fun b hb hx=>by
   have:=hd.lo b hb
   rcases hx with hx | hx
   ·have:=(hmut' b).1 hx;omega
   ·have:=hR.xcl b hx;omega
  obtain⟨ys',ty',q1,q2⟩:=hd.env.dice
  refine hn ρ { np:=1,env:=(List.replicate 145 D.top).set 2 (.s (.c (.t (.sl 1 (eS F'))))),objs:=GO L a1 } a' w' .ret ⟨by rw[hf.size];rfl,fun i d y h1 h2=>?_,fun k o ho=>?_,fun k k' b h1 h2=>?_,fun b hb=>?_,hR.par,hf.defers,?_,hR.xcl,fun b hb=>?_,fun p hp=>?_⟩ (by kernel_rfl)
  ·by_cases hi:i=2
   ·subst hi
    cases h1
    have h3:=hf.get 2 h'.1 rfl
    rw[Array.getD_eq_getD_getElem?,h2] at h3
    subst h3
    exact .inr ⟨hrd,hd.own.row.one⟩
   ·rw[List.getElem?_set_ne (fun e=>hi e.symm),List.getElem?_replicate] at h1
    split at h1
    ·cases h1;exact .top_ y
    ·cases h1
  ·cases k with
   | zero=>
    cases ho
    exact⟨pg g,e1,g,ys',ty',rfl,q1,HeadOK.none rfl,(RdL.any (ts:=[.sl 1 L,.v (vI a1)]) q2).step (Stp.refl (fun _=>False) w') (fun _ h=>h.elim) (fun b hb=>.inl ((hXX b).1 hb)) (.refl _)⟩
   | succ k=>simp[GO] at ho
  ·obtain⟨o,v,z1,_⟩:=h1
   obtain⟨o',v',z2,_⟩:=h2
   have:=(List.getElem?_eq_some_iff.1 z1).1
   have:=(List.getElem?_eq_some_iff.1 z2).1
   simp only[GO,List.length_cons,List.length_nil] at *
   omega
  ·exact .inr ((hmut' b).1 hb▸hFg)
  ·exact hd.env.stp.mono fun b hb _=>hb▸hFg
  ·exact hR.xc b ((hmut b).2 ((hmut' b).1 hb))
  ·exact(hR.ext p hp).step (hd.env.stp.mono fun b hb _=>hb) (fun b hb=>hb▸.inl ((hmut g).2 rfl)) (fun b hb=>.inl ((hXX b).1 hb)) (.refl _)
open Go.Proofs
def g8:Sig:=⟨1,0,⟨[.slot 0],[.sl 1]⟩,1,[],0,⟨[.slot 0],[.bool]⟩,48⟩
noncomputable def bK(t:List T×Unit):Option (Bool×Unit):=ob (g7 (t.1,())) fun x0=>bif Bool.not x0.1 then ob (dC ()) fun x1=>some (x1.1,()) else ob (kS (t.1,())) fun x2=>ob (cU ((),x2.1,x2.2.1,())) fun x3=>ob (cB (x3.1,())) fun x4=>bif x4.1 then ob (cU ((),x3.2.1,x3.2.2.1,())) fun x5=>ob (cB (x5.1,())) fun x6=>bif x6.1 then ob (cB ([],())) fun x7=>bif x7.1 then ob (dC ()) fun x8=>some (x8.1,()) else some (false,()) else some (false,()) else some (false,())
theorem sJ:(aB g8 bK).OK Try.prog 3:=nH bJ [8,9,11] .leaf (.cs Try.func8 wT <| .cs Try.func9 wX <| .cs Try.func10 xV <| .cs Try.func12 vO <| .cs Try.func11 vM <| .nil) Try.func3 fun _=>by kernel_rfl
end Go.Eng
namespace Go.Eng.Tl
open Go.Eng
def oO{S:Type}(F:Fs)(f l i:Nat)(σ:S):Unit×Int×Int×T×List T×Int×Int×T×Int×Int×T×Int×Int×S:=((),(f:Int),(l:Int),eL ((F.getD f []).getD l []),eS F,(F.length:Int),(f:Int),eF (F.getD f []),((F.getD f []).length:Int),(l:Int),eL ((F.getD f []).getD l []),(((F.getD f []).getD l []).length:Int),(i:Int),σ)
def jB{S:Type}(F:Fs)(f l:Nat)(σ:S):Unit×Int×List T×Int×Int×T×Int×Int×S:=((),(f:Int),eS F,(F.length:Int),(f:Int),eF (F.getD f []),((F.getD f []).length:Int),(l:Int),σ)
def jC{S:Type}(F:Fs)(f:Nat)(σ:S):Unit×List T×Int×Int×S:=((),eS F,(F.length:Int),(f:Int),σ)
noncomputable def b4(σ:List T×Unit)(e:Ed):Option (List T×Unit):=lT ((e.f:Int),(e.l:Int),(e.i:Int),e.a,e.b,(),σ)
theorem Ay{F:Fs}(hb:Bd F){f l:Nat}(hf:f<F.length)(hl:l<(F.getD f []).length)(i:Nat)(σ:List T×Unit)(hi:i<((F.getD f []).getD l []).length):
 bR (oO F f l i σ)=(b4 σ (uK f l ((F.getD f []).getD l []) i)).map fun σ'=>.inl (oO F f l (i+1) σ'):=by
 have hx:=hb.x _ (bA hf []) _ (bA hl [])
 have hmod:(i+1)%((F.getD f []).getD l []).length<((F.getD f []).getD l []).length:=Nat.mod_lt _ (by omega)
 unfold bR oO
 simp only[aA,decide_eq_true (show (i:Int)<(((F.getD f []).getD l []).length:Int) by omega),cond_true,HK,l8,aL,kU hi,EB (show ((((F.getD f []).getD l []).length:Nat):Int)≠0 by omega),aE,EW hi hx,kU hmod,aO]
 simp only[tI,zE,NY,aL]
 show ob (b4 σ (uK f l ((F.getD f []).getD l []) i)) _=_
 cases b4 σ (uK f l ((F.getD f []).getD l []) i) with
 | none=>rfl
 | some q=>
  simp only[aL,Option.map_some,wk (show i≤1000000 by omega)]
theorem Az{F:Fs}{f l:Nat}(σ:List T×Unit):bR (oO F f l ((F.getD f []).getD l []).length σ)=some (.inr (.inl (jB F f l σ))):=by
 unfold bR oO jB
 simp only[aA,decide_eq_false (Int.lt_irrefl _),cond_false]
theorem Ba{F:Fs}(hb:Bd F){f:Nat}(hf:f<F.length)(l:Nat)(σ:List T×Unit)(hl:l<(F.getD f []).length):
 bD (jB F f l σ)=((uM f (F.getD f []) l).foldlM b4 σ).map fun σ'=>.inl (jB F f (l+1) σ'):=by
 have hc:=hb.l _ (bA hf [])
 have hlp:=d9 (F:=bR) (oO F f l) (fun σ=>.inl (jB F f l σ)) (fun i σ=>b4 σ (uK f l ((F.getD f []).getD l []) i)) (n:=((F.getD f []).getD l []).length) (fun i σ hi=>Ay hb hf hl i σ hi) (fun σ=>Az σ) σ
 have hfold:=fE (b4) (fun i σ=>b4 σ (uK f l ((F.getD f []).getD l []) i)) (fun i=>[uK f l ((F.getD f []).getD l []) i]) (fun i σ=>by simp[List.foldlM_cons]) ((F.getD f []).getD l []).length 0 σ
 have hd:(List.range' 0 ((F.getD f []).getD l []).length).flatMap (fun i=>[uK f l ((F.getD f []).getD l []) i])=uM f (F.getD f []) l:=by
  unfold uM;rw[List.range_eq_range',List.map_eq_flatMap]
 rw[hd] at hfold
 unfold bD jB
 simp only[aA,decide_eq_true (show (l:Int)<((F.getD f []).length:Int) by omega),cond_true,HL,wY hl,rF,l8,aL]
 show ob (aC bR (oO F f l 0 σ)) _=_
 rw[hlp,hfold]
 cases(uM f (F.getD f []) l).foldlM b4 σ with
 | none=>rfl
 | some q=>simp only[Option.map_some,aL,aI,jB,aE,wk (show l≤1000000 by omega)]
theorem Bb{F:Fs}{f:Nat}(σ:List T×Unit):bD (jB F f (F.getD f []).length σ)=some (.inr (.inl (jC F f σ))):=by
 unfold bD jB jC
 simp only[aA,decide_eq_false (Int.lt_irrefl _),cond_false]
theorem Bc{F:Fs}(hb:Bd F)(f:Nat)(σ:List T×Unit)(hf:f<F.length):
 bE (jC F f σ)=((z8 F f).foldlM b4 σ).map fun σ'=>.inl (jC F (f+1) σ'):=by
 have hn:=hb.n
 have hlp:=d9 (F:=bD) (jB F f) (fun σ=>.inl (jC F f σ)) (fun l σ=>(uM f (F.getD f []) l).foldlM b4 σ) (n:=(F.getD f []).length) (fun l σ hl=>Ba hb hf l σ hl) (fun σ=>Bb σ) σ
 have hfold:=fE (b4) (fun l σ=>(uM f (F.getD f []) l).foldlM b4 σ) (fun l=>uM f (F.getD f []) l) (fun l σ=>rfl) (F.getD f []).length 0 σ
 rw[←List.range_eq_range'] at hfold
 unfold bE jC
 simp only[aA,decide_eq_true (show (f:Int)<(F.length:Int) by omega),cond_true,mZ hf,j0,sO,aL]
 show ob (aC bD (jB F f 0 σ)) _=_
 rw[hlp,hfold]
 show ob (Option.map _ ((z8 F f).foldlM b4 σ)) _=_
 cases(z8 F f).foldlM b4 σ with
 | none=>rfl
 | some q=>simp only[Option.map_some,aL,aI,jC,aE,wk (show f≤1000000 by omega)]
theorem Be{F:Fs}(σ:List T×Unit):bE (jC F F.length σ)=some (.inr (.inl σ)):=by
 unfold bE jC
 simp only[aA,decide_eq_false (Int.lt_irrefl _),cond_false]
theorem S6{F:Fs}(hb:Bd F)(σ:List T×Unit):eW (eS F,(),σ)=(aG F).foldlM b4 σ:=by
 have hlp:=d9 (F:=bE) (jC F) (fun σ=>.inl σ) (fun f σ=>(z8 F f).foldlM b4 σ) (n:=F.length) (fun f σ hf=>Bc hb f σ hf) (fun σ=>Be σ) σ
 have hfold:=fE (b4) (fun f σ=>(z8 F f).foldlM b4 σ) (z8 F) (fun f σ=>rfl) F.length 0 σ
 rw[←List.range_eq_range'] at hfold
 unfold eW
 simp only[dR]
 show ob (aC bE (jC F 0 σ)) _=_
 rw[hlp,hfold]
 show ob (Option.map _ ((aG F).foldlM b4 σ)) _=_
 cases(aG F).foldlM b4 σ with
 | none=>rfl
 | some q=>rfl
noncomputable def bN(σ:List T×Unit)(e:Ed):Option (List T×Unit):=fM ((e.f:Int),(e.l:Int),(e.i:Int),e.a,e.b,(),σ)
theorem Bf{F:Fs}(hb:Bd F){f l:Nat}(hf:f<F.length)(hl:l<(F.getD f []).length)(i:Nat)(σ:List T×Unit)(hi:i<((F.getD f []).getD l []).length):
 bW (oO F f l i σ)=(bN σ (uK f l ((F.getD f []).getD l []) i)).map fun σ'=>.inl (oO F f l (i+1) σ'):=by
 have hx:=hb.x _ (bA hf []) _ (bA hl [])
 have hmod:(i+1)%((F.getD f []).getD l []).length<((F.getD f []).getD l []).length:=Nat.mod_lt _ (by omega)
 unfold bW oO
 simp only[aA,decide_eq_true (show (i:Int)<(((F.getD f []).getD l []).length:Int) by omega),cond_true,HK,l8,aL,kU hi,EB (show ((((F.getD f []).getD l []).length:Nat):Int)≠0 by omega),aE,EW hi hx,kU hmod,aO]
 simp only[tI,zE,NY,aL]
 show ob (bN σ (uK f l ((F.getD f []).getD l []) i)) _=_
 cases bN σ (uK f l ((F.getD f []).getD l []) i) with
 | none=>rfl
 | some q=>
  simp only[aL,Option.map_some,wk (show i≤1000000 by omega)]
theorem Bg{F:Fs}{f l:Nat}(σ:List T×Unit):bW (oO F f l ((F.getD f []).getD l []).length σ)=some (.inr (.inl (jB F f l σ))):=by
 unfold bW oO jB
 simp only[aA,decide_eq_false (Int.lt_irrefl _),cond_false]
theorem Bh{F:Fs}(hb:Bd F){f:Nat}(hf:f<F.length)(l:Nat)(σ:List T×Unit)(hl:l<(F.getD f []).length):
 bH (jB F f l σ)=((uM f (F.getD f []) l).foldlM bN σ).map fun σ'=>.inl (jB F f (l+1) σ'):=by
 have hc:=hb.l _ (bA hf [])
 have hlp:=d9 (F:=bW) (oO F f l) (fun σ=>.inl (jB F f l σ)) (fun i σ=>bN σ (uK f l ((F.getD f []).getD l []) i)) (n:=((F.getD f []).getD l []).length) (fun i σ hi=>Bf hb hf hl i σ hi) (fun σ=>Bg σ) σ
 have hfold:=fE (bN) (fun i σ=>bN σ (uK f l ((F.getD f []).getD l []) i)) (fun i=>[uK f l ((F.getD f []).getD l []) i]) (fun i σ=>by simp[List.foldlM_cons]) ((F.getD f []).getD l []).length 0 σ
 have hd:(List.range' 0 ((F.getD f []).getD l []).length).flatMap (fun i=>[uK f l ((F.getD f []).getD l []) i])=uM f (F.getD f []) l:=by
  unfold uM;rw[List.range_eq_range',List.map_eq_flatMap]
 rw[hd] at hfold
 unfold bH jB
 simp only[aA,decide_eq_true (show (l:Int)<((F.getD f []).length:Int) by omega),cond_true,HL,wY hl,rF,l8,aL]
 show ob (aC bW (oO F f l 0 σ)) _=_
 rw[hlp,hfold]
 cases(uM f (F.getD f []) l).foldlM bN σ with
 | none=>rfl
 | some q=>simp only[Option.map_some,aL,aI,jB,aE,wk (show l≤1000000 by omega)]
theorem Bi{F:Fs}{f:Nat}(σ:List T×Unit):bH (jB F f (F.getD f []).length σ)=some (.inr (.inl (jC F f σ))):=by
 unfold bH jB jC
 simp only[aA,decide_eq_false (Int.lt_irrefl _),cond_false]
theorem Bj{F:Fs}(hb:Bd F)(f:Nat)(σ:List T×Unit)(hf:f<F.length):
 bI (jC F f σ)=((z8 F f).foldlM bN σ).map fun σ'=>.inl (jC F (f+1) σ'):=by
 have hn:=hb.n
 have hlp:=d9 (F:=bH) (jB F f) (fun σ=>.inl (jC F f σ)) (fun l σ=>(uM f (F.getD f []) l).foldlM bN σ) (n:=(F.getD f []).length) (fun l σ hl=>Bh hb hf l σ hl) (fun σ=>Bi σ) σ
 have hfold:=fE (bN) (fun l σ=>(uM f (F.getD f []) l).foldlM bN σ) (fun l=>uM f (F.getD f []) l) (fun l σ=>rfl) (F.getD f []).length 0 σ
 rw[←List.range_eq_range'] at hfold
 unfold bI jC
 simp only[aA,decide_eq_true (show (f:Int)<(F.length:Int) by omega),cond_true,mZ hf,j0,sO,aL]
 show ob (aC bH (jB F f 0 σ)) _=_
 rw[hlp,hfold]
 show ob (Option.map _ ((z8 F f).foldlM bN σ)) _=_
 cases(z8 F f).foldlM bN σ with
 | none=>rfl
 | some q=>simp only[Option.map_some,aL,aI,jC,aE,wk (show f≤1000000 by omega)]
theorem Bk{F:Fs}(σ:List T×Unit):bI (jC F F.length σ)=some (.inr (.inl σ)):=by
 unfold bI jC
 simp only[aA,decide_eq_false (Int.lt_irrefl _),cond_false]
theorem S7{F:Fs}(hb:Bd F)(σ:List T×Unit):cP (eS F,(),σ)=(aG F).foldlM bN σ:=by
 have hlp:=d9 (F:=bI) (jC F) (fun σ=>.inl σ) (fun f σ=>(z8 F f).foldlM bN σ) (n:=F.length) (fun f σ hf=>Bj hb f σ hf) (fun σ=>Bk σ) σ
 have hfold:=fE (bN) (fun f σ=>(z8 F f).foldlM bN σ) (z8 F) (fun f σ=>rfl) F.length 0 σ
 rw[←List.range_eq_range'] at hfold
 unfold cP
 simp only[dR]
 show ob (aC bI (jC F 0 σ)) _=_
 rw[hlp,hfold]
 show ob (Option.map _ ((aG F).foldlM bN σ)) _=_
 cases(aG F).foldlM bN σ with
 | none=>rfl
 | some q=>rfl
noncomputable def b5(σ:List T×List T×Unit)(e:Ed):Option (List T×List T×Unit):=lU ((e.f:Int),(e.l:Int),(e.i:Int),e.a,e.b,(),(),σ)
theorem Bl{F:Fs}(hb:Bd F){f l:Nat}(hf:f<F.length)(hl:l<(F.getD f []).length)(i:Nat)(σ:List T×List T×Unit)(hi:i<((F.getD f []).getD l []).length):
 bS (oO F f l i σ)=(b5 σ (uK f l ((F.getD f []).getD l []) i)).map fun σ'=>.inl (oO F f l (i+1) σ'):=by
 have hx:=hb.x _ (bA hf []) _ (bA hl [])
 have hmod:(i+1)%((F.getD f []).getD l []).length<((F.getD f []).getD l []).length:=Nat.mod_lt _ (by omega)
 unfold bS oO
 simp only[aA,decide_eq_true (show (i:Int)<(((F.getD f []).getD l []).length:Int) by omega),cond_true,HK,l8,aL,kU hi,EB (show ((((F.getD f []).getD l []).length:Nat):Int)≠0 by omega),aE,EW hi hx,kU hmod,aO]
 simp only[tI,zE,NY,aL]
 show ob (b5 σ (uK f l ((F.getD f []).getD l []) i)) _=_
 cases b5 σ (uK f l ((F.getD f []).getD l []) i) with
 | none=>rfl
 | some q=>
  simp only[aL,Option.map_some,wk (show i≤1000000 by omega)]
theorem Bm{F:Fs}{f l:Nat}(σ:List T×List T×Unit):bS (oO F f l ((F.getD f []).getD l []).length σ)=some (.inr (.inl (jB F f l σ))):=by
 unfold bS oO jB
 simp only[aA,decide_eq_false (Int.lt_irrefl _),cond_false]
theorem Bn{F:Fs}(hb:Bd F){f:Nat}(hf:f<F.length)(l:Nat)(σ:List T×List T×Unit)(hl:l<(F.getD f []).length):
 bF (jB F f l σ)=((uM f (F.getD f []) l).foldlM b5 σ).map fun σ'=>.inl (jB F f (l+1) σ'):=by
 have hc:=hb.l _ (bA hf [])
 have hlp:=d9 (F:=bS) (oO F f l) (fun σ=>.inl (jB F f l σ)) (fun i σ=>b5 σ (uK f l ((F.getD f []).getD l []) i)) (n:=((F.getD f []).getD l []).length) (fun i σ hi=>Bl hb hf hl i σ hi) (fun σ=>Bm σ) σ
 have hfold:=fE (b5) (fun i σ=>b5 σ (uK f l ((F.getD f []).getD l []) i)) (fun i=>[uK f l ((F.getD f []).getD l []) i]) (fun i σ=>by simp[List.foldlM_cons]) ((F.getD f []).getD l []).length 0 σ
 have hd:(List.range' 0 ((F.getD f []).getD l []).length).flatMap (fun i=>[uK f l ((F.getD f []).getD l []) i])=uM f (F.getD f []) l:=by
  unfold uM;rw[List.range_eq_range',List.map_eq_flatMap]
 rw[hd] at hfold
 unfold bF jB
 simp only[aA,decide_eq_true (show (l:Int)<((F.getD f []).length:Int) by omega),cond_true,HL,wY hl,rF,l8,aL]
 show ob (aC bS (oO F f l 0 σ)) _=_
 rw[hlp,hfold]
 cases(uM f (F.getD f []) l).foldlM b5 σ with
 | none=>rfl
 | some q=>simp only[Option.map_some,aL,aI,jB,aE,wk (show l≤1000000 by omega)]
theorem Bo{F:Fs}{f:Nat}(σ:List T×List T×Unit):bF (jB F f (F.getD f []).length σ)=some (.inr (.inl (jC F f σ))):=by
 unfold bF jB jC
 simp only[aA,decide_eq_false (Int.lt_irrefl _),cond_false]
theorem Bp{F:Fs}(hb:Bd F)(f:Nat)(σ:List T×List T×Unit)(hf:f<F.length):
 bG (jC F f σ)=((z8 F f).foldlM b5 σ).map fun σ'=>.inl (jC F (f+1) σ'):=by
 have hn:=hb.n
 have hlp:=d9 (F:=bF) (jB F f) (fun σ=>.inl (jC F f σ)) (fun l σ=>(uM f (F.getD f []) l).foldlM b5 σ) (n:=(F.getD f []).length) (fun l σ hl=>Bn hb hf l σ hl) (fun σ=>Bo σ) σ
 have hfold:=fE (b5) (fun l σ=>(uM f (F.getD f []) l).foldlM b5 σ) (fun l=>uM f (F.getD f []) l) (fun l σ=>rfl) (F.getD f []).length 0 σ
 rw[←List.range_eq_range'] at hfold
 unfold bG jC
 simp only[aA,decide_eq_true (show (f:Int)<(F.length:Int) by omega),cond_true,mZ hf,j0,sO,aL]
 show ob (aC bF (jB F f 0 σ)) _=_
 rw[hlp,hfold]
 show ob (Option.map _ ((z8 F f).foldlM b5 σ)) _=_
 cases(z8 F f).foldlM b5 σ with
 | none=>rfl
 | some q=>simp only[Option.map_some,aL,aI,jC,aE,wk (show f≤1000000 by omega)]
theorem Bq{F:Fs}(σ:List T×List T×Unit):bG (jC F F.length σ)=some (.inr (.inl σ)):=by
 unfold bG jC
 simp only[aA,decide_eq_false (Int.lt_irrefl _),cond_false]
theorem S8{F:Fs}(hb:Bd F)(σ:List T×List T×Unit):eX (eS F,(),σ)=(aG F).foldlM b5 σ:=by
 have hlp:=d9 (F:=bG) (jC F) (fun σ=>.inl σ) (fun f σ=>(z8 F f).foldlM b5 σ) (n:=F.length) (fun f σ hf=>Bp hb f σ hf) (fun σ=>Bq σ) σ
 have hfold:=fE (b5) (fun f σ=>(z8 F f).foldlM b5 σ) (z8 F) (fun f σ=>rfl) F.length 0 σ
 rw[←List.range_eq_range'] at hfold
 unfold eX
 simp only[dR]
 show ob (aC bG (jC F 0 σ)) _=_
 rw[hlp,hfold]
 show ob (Option.map _ ((aG F).foldlM b5 σ)) _=_
 cases(aG F).foldlM b5 σ with
 | none=>rfl
 | some q=>rfl
noncomputable def dY(σ:List T×Unit×List T×Unit)(e:Ed):Option (List T×Unit×List T×Unit):=cF ((e.f:Int),(e.l:Int),(e.i:Int),e.a,e.b,(),(),(),σ)
theorem Ka{F:Fs}(hb:Bd F){f l:Nat}(hf:f<F.length)(hl:l<(F.getD f []).length)(i:Nat)(σ:List T×Unit×List T×Unit)(hi:i<((F.getD f []).getD l []).length):
 bT (oO F f l i σ)=(dY σ (uK f l ((F.getD f []).getD l []) i)).map fun σ'=>.inl (oO F f l (i+1) σ'):=by
 have hx:=hb.x _ (bA hf []) _ (bA hl [])
 have hmod:(i+1)%((F.getD f []).getD l []).length<((F.getD f []).getD l []).length:=Nat.mod_lt _ (by omega)
 unfold bT oO
 simp only[aA,decide_eq_true (show (i:Int)<(((F.getD f []).getD l []).length:Int) by omega),cond_true,HK,l8,aL,kU hi,EB (show ((((F.getD f []).getD l []).length:Nat):Int)≠0 by omega),aE,EW hi hx,kU hmod,aO]
 simp only[tI,zE,NY,aL]
 show ob (dY σ (uK f l ((F.getD f []).getD l []) i)) _=_
 cases dY σ (uK f l ((F.getD f []).getD l []) i) with
 | none=>rfl
 | some q=>
  simp only[aL,Option.map_some,wk (show i≤1000000 by omega)]
theorem Kb{F:Fs}{f l:Nat}(σ:List T×Unit×List T×Unit):bT (oO F f l ((F.getD f []).getD l []).length σ)=some (.inr (.inl (jB F f l σ))):=by
 unfold bT oO jB
 simp only[aA,decide_eq_false (Int.lt_irrefl _),cond_false]
theorem Kc{F:Fs}(hb:Bd F){f:Nat}(hf:f<F.length)(l:Nat)(σ:List T×Unit×List T×Unit)(hl:l<(F.getD f []).length):
 bU (jB F f l σ)=((uM f (F.getD f []) l).foldlM dY σ).map fun σ'=>.inl (jB F f (l+1) σ'):=by
 have hc:=hb.l _ (bA hf [])
 have hlp:=d9 (F:=bT) (oO F f l) (fun σ=>.inl (jB F f l σ)) (fun i σ=>dY σ (uK f l ((F.getD f []).getD l []) i)) (n:=((F.getD f []).getD l []).length) (fun i σ hi=>Ka hb hf hl i σ hi) (fun σ=>Kb σ) σ
 have hfold:=fE (dY) (fun i σ=>dY σ (uK f l ((F.getD f []).getD l []) i)) (fun i=>[uK f l ((F.getD f []).getD l []) i]) (fun i σ=>by simp[List.foldlM_cons]) ((F.getD f []).getD l []).length 0 σ
 have hd:(List.range' 0 ((F.getD f []).getD l []).length).flatMap (fun i=>[uK f l ((F.getD f []).getD l []) i])=uM f (F.getD f []) l:=by
  unfold uM;rw[List.range_eq_range',List.map_eq_flatMap]
 rw[hd] at hfold
 unfold bU jB
 simp only[aA,decide_eq_true (show (l:Int)<((F.getD f []).length:Int) by omega),cond_true,HL,wY hl,rF,l8,aL]
 show ob (aC bT (oO F f l 0 σ)) _=_
 rw[hlp,hfold]
 cases(uM f (F.getD f []) l).foldlM dY σ with
 | none=>rfl
 | some q=>simp only[Option.map_some,aL,aI,jB,aE,wk (show l≤1000000 by omega)]
theorem Kd{F:Fs}{f:Nat}(σ:List T×Unit×List T×Unit):bU (jB F f (F.getD f []).length σ)=some (.inr (.inl (jC F f σ))):=by
 unfold bU jB jC
 simp only[aA,decide_eq_false (Int.lt_irrefl _),cond_false]
theorem Ke{F:Fs}(hb:Bd F)(f:Nat)(σ:List T×Unit×List T×Unit)(hf:f<F.length):
 bV (jC F f σ)=((z8 F f).foldlM dY σ).map fun σ'=>.inl (jC F (f+1) σ'):=by
 have hn:=hb.n
 have hlp:=d9 (F:=bU) (jB F f) (fun σ=>.inl (jC F f σ)) (fun l σ=>(uM f (F.getD f []) l).foldlM dY σ) (n:=(F.getD f []).length) (fun l σ hl=>Kc hb hf l σ hl) (fun σ=>Kd σ) σ
 have hfold:=fE (dY) (fun l σ=>(uM f (F.getD f []) l).foldlM dY σ) (fun l=>uM f (F.getD f []) l) (fun l σ=>rfl) (F.getD f []).length 0 σ
 rw[←List.range_eq_range'] at hfold
 unfold bV jC
 simp only[aA,decide_eq_true (show (f:Int)<(F.length:Int) by omega),cond_true,mZ hf,j0,sO,aL]
 show ob (aC bU (jB F f 0 σ)) _=_
 rw[hlp,hfold]
 show ob (Option.map _ ((z8 F f).foldlM dY σ)) _=_
 cases(z8 F f).foldlM dY σ with
 | none=>rfl
 | some q=>simp only[Option.map_some,aL,aI,jC,aE,wk (show f≤1000000 by omega)]
theorem Kf{F:Fs}(σ:List T×Unit×List T×Unit):bV (jC F F.length σ)=some (.inr (.inl σ)):=by
 unfold bV jC
 simp only[aA,decide_eq_false (Int.lt_irrefl _),cond_false]
theorem Br{F:Fs}(hb:Bd F)(σ:List T×Unit×List T×Unit):gC (eS F,(),σ)=(aG F).foldlM dY σ:=by
 have hlp:=d9 (F:=bV) (jC F) (fun σ=>.inl σ) (fun f σ=>(z8 F f).foldlM dY σ) (n:=F.length) (fun f σ hf=>Ke hb f σ hf) (fun σ=>Kf σ) σ
 have hfold:=fE (dY) (fun f σ=>(z8 F f).foldlM dY σ) (z8 F) (fun f σ=>rfl) F.length 0 σ
 rw[←List.range_eq_range'] at hfold
 unfold gC
 simp only[dR]
 show ob (aC bV (jC F 0 σ)) _=_
 rw[hlp,hfold]
 show ob (Option.map _ ((aG F).foldlM dY σ)) _=_
 cases(aG F).foldlM dY σ with
 | none=>rfl
 | some q=>rfl
open Go.Eng Go.Proofs
structure Hok (t:Tp):Prop extends Sz t where
 b1:∀k,k<t.hs.length→b1 t k=true
 b2:∀k,k<t.hs.length→b2 t k=true
theorem VW{t:Tp}(hz:Sz t)(h:hokB t=true):Hok t:=by
 unfold hokB at h
 rw[Bool.and_eq_true] at h
 exact { hz with b1:=fun k hk=>lY.1 h.1 k hk,b2:=fun k hk=>lY.1 h.2 k hk }
theorem Hok.hokB{t:Tp}(h:Hok t):hokB t=true:=by
 unfold Tl.hokB;rw[Bool.and_eq_true];exact⟨lY.2 h.b1,lY.2 h.b2⟩
def nx(t:Tp)(k:Nat):Nat:=(hG t.hs k).n.toNat
def pv(t:Tp)(k:Nat):Nat:=(hG t.hs k).p.toNat
def sg(t:Tp)(k:Nat):Nat:=mt (pv t k)
theorem Hok.nx_i{t:Tp}(h:Hok t){k:Nat}(hk:k<t.hs.length):(hG t.hs k).n=(nx t k:Int):=by
 obtain⟨_,h1,_,_⟩:=uE.1 (h.b1 k hk);unfold nx;omega
theorem Hok.pv_i{t:Tp}(h:Hok t){k:Nat}(hk:k<t.hs.length):(hG t.hs k).p=(pv t k:Int):=by
 obtain⟨_,_,h1,_⟩:=uE.1 (h.b1 k hk);unfold pv;omega
theorem Hok.nx_lt{t:Tp}(h:Hok t){k:Nat}(hk:k<t.hs.length):nx t k<t.hs.length:=by
 obtain⟨_,h1,_,_⟩:=uE.1 (h.b1 k hk);unfold nx;omega
theorem Hok.pv_lt{t:Tp}(h:Hok t){k:Nat}(hk:k<t.hs.length):pv t k<t.hs.length:=by
 obtain⟨_,_,h1,_⟩:=uE.1 (h.b1 k hk);unfold pv;omega
theorem Hok.pn{t:Tp}(h:Hok t){k:Nat}(hk:k<t.hs.length):pv t (nx t k)=k:=by
 have h2:=(QD.1 (h.b2 k hk)).1
 rw[h.nx_i hk,h.pv_i (h.nx_lt hk)] at h2;omega
theorem Hok.np{t:Tp}(h:Hok t){k:Nat}(hk:k<t.hs.length):nx t (pv t k)=k:=by
 have h2:=(QD.1 (h.b2 k hk)).2.1
 rw[h.pv_i hk,h.nx_i (h.pv_lt hk)] at h2;omega
theorem Hok.rg{t:Tp}(h:Hok t){k:Nat}(hk:k<t.hs.length):(hG t.hs (nx t k:Nat)).r=(hG t.hs k).r:=by
 have h2:=(QD.1 (h.b2 k hk)).2.2.1
 rwa[h.nx_i hk] at h2
theorem Hok.fr{t:Tp}(h:Hok t){k:Nat}(hk:k<t.hs.length):(hG t.hs (nx t k:Nat)).f=(hG t.hs (mt k:Nat)).f:=by
 have h2:=(QD.1 (h.b2 k hk)).2.2.2
 rwa[h.nx_i hk] at h2
theorem Hok.nx_inj{t:Tp}(h:Hok t){a b:Nat}(ha:a<t.hs.length)(hb:b<t.hs.length)(e:nx t a=nx t b):a=b:=by rw[←h.pn ha,e,h.pn hb]
theorem Hok.sg_lt{t:Tp}(h:Hok t){k:Nat}(hk:k<t.hs.length):sg t k<t.hs.length:=EV h.e (h.pv_lt hk)
theorem Hok.sg_inj{t:Tp}(h:Hok t){a b:Nat}(ha:a<t.hs.length)(hb:b<t.hs.length)(e:sg t a=sg t b):a=b:=by
 have e2:=Pm e;rw[←h.np ha,e2,h.np hb]
theorem Hok.sg_f{t:Tp}(h:Hok t){k:Nat}(hk:k<t.hs.length):(hG t.hs (sg t k:Nat)).f=(hG t.hs k).f:=by
 have h2:=h.fr (h.pv_lt hk)
 rw[h.np hk] at h2;exact h2.symm
theorem Hok.ncyc{t:Tp}(h:Hok t){k:Nat}(hk:k<t.hs.length):∃m,Cyc (nx t) k m∧∀y∈k::m,y<t.hs.length:=
 Ey (fun _ hx=>h.nx_lt hx) (fun _ _ hx hy e=>h.nx_inj hx hy e) hk
theorem Hok.scyc{t:Tp}(h:Hok t){k:Nat}(hk:k<t.hs.length):∃m,Cyc (sg t) k m∧∀y∈k::m,y<t.hs.length:=
 Ey (fun _ hx=>h.sg_lt hx) (fun _ _ hx hy e=>h.sg_inj hx hy e) hk
def GP(t:Tp)(r:Int)(k:Nat):Bool:=decide ((hG t.hs k).r=r)
def M0(t:Tp)(r:Int)(k:Nat):Int×Unit×Int×Int×Int×Int×List T×List T×Unit:=(r,(),(cnt (GP t r) k:Int),(k:Int),t.V,t.F,t.hs.map tH,t.rs.map tR,())
theorem OA{t:Tp}(hn:t.hs.length≤1000)(r:Int):iW (t.V,t.F,t.hs.map tH,t.rs.map tR,r,())=some ((cnt (GP t r) t.hs.length:Int),()):=by
 have hl:=aH (F:=iP) t.hs.length (M0 t r) (fun k hk=>by
  have hlt:decide ((k:Int)<(t.hs.length:Int))=true:=decide_eq_true (by omega)
  have hc:=sN (GP t r) k
  unfold iP M0
  simp only[aA,uC,hlt,cond_true,qB (l:=t.hs) (i:=(k:Int)) (by omega) (by omega),aL,KZ,aQ,aP,cnt]
  by_cases h:(hG t.hs k).r=r
  ·have hi:GP t r k=true:=decide_eq_true h
   simp only[decide_eq_true h,cond_true,aL,aI,aE,wk (k:=k) (by omega),wk (k:=cnt (GP t r) k) (by omega),hi,if_true]
  ·have hi:GP t r k=false:=decide_eq_false h
   simp only[decide_eq_false h,cond_false,aL,aI,aE,wk (k:=k) (by omega),hi,Bool.false_eq_true,if_false,Nat.add_zero])
 have ho:iP (M0 t r t.hs.length)=some (.inr (.inl ((cnt (GP t r) t.hs.length:Int),()))):=by
  have hlt:decide ((t.hs.length:Int)<(t.hs.length:Int))=false:=decide_eq_false (by omega)
  unfold iP M0
  simp only[aA,uC,hlt,cond_false]
 unfold iW
 have e0:(r,(),(0:Int),(0:Int),t.V,t.F,t.hs.map tH,t.rs.map tR,())=M0 t r 0:=rfl
 simp only[]
 rw[e0,hl,aF ho]
 rfl
def tN(l:List Nat):List T:=l.map fun(k:Nat)=>tI (k:Int)
theorem VX(a b:List Nat):tN (a++b)=tN a++tN b:=by simp[tN]
theorem sQ(a:List Nat):(tN a).length=a.length:=by simp[tN]
def Y0(t:Tp)(x:Nat)(m:List Nat)(k:Nat):Int×Unit×List T×T×Int×Int×List T×List T×Unit:=((x:Int),(),tN (x::m.take k),tI (cur x m k:Nat),t.V,t.F,t.hs.map tH,t.rs.map tR,())
theorem Fm{x:Nat}{m:List Nat}{k:Nat}(h:k<m.length):x::m.take (k+1)=x::m.take k++[cur x m k]:=by
 rw[XV h,List.take_succ_eq_append_getElem h];rfl
theorem Fp{t:Tp}(hn:t.hs.length≤1000){x:Nat}{m:List Nat}(hc:Cyc (nx t) x m)(hb:∀y∈x::m,y<t.hs.length)(hi:∀y∈x::m,(hG t.hs y).n=(nx t y:Int)){k:Nat}(hk:k<m.length):
 iF (Y0 t x m k)=some (.inl (Y0 t x m (k+1))):=by
 have hm:=ES (x:=x) hk
 have hne:=hc.cur_ne hk
 have hlt:=hb _ (List.mem_cons_of_mem _ hm)
 have hl:m.length+1≤t.hs.length:=by
  have:=SU hc.2 hb;simpa using this
 have hd:decide (((cur x m k:Nat):Int)=(x:Int))=false:=decide_eq_false (by omega)
 have hr:room (tN (x::m.take k)) [tI ((cur x m k:Nat):Int)] 8=some (tN (x::m.take (k+1))):=by
  rw[mR (by simp only[sQ,List.length_cons,List.length_take,List.length_nil];omega) (by decide),Fm hk,VX];rfl
 unfold iF Y0
 simp only[aQ,aL,aP,hd,Bool.not_false,cond_true,aO,hr,jZ,qB (l:=t.hs) (i:=((cur x m k:Nat):Int)) (by omega) (by omega),P9,hi _ (List.mem_cons_of_mem _ hm),hc.curS hk]
theorem Kg{t:Tp}(hn:t.hs.length≤1000){x:Nat}{m:List Nat}(hc:Cyc (nx t) x m)(hb:∀y∈x::m,y<t.hs.length)(hi:∀y∈x::m,(hG t.hs y).n=(nx t y:Int)):
 mJ (t.V,t.F,t.hs.map tH,t.rs.map tR,(x:Int),())=some (tN (x::m),()):=by
 have hl:=aH (F:=iF) m.length (Y0 t x m) (fun k hk=>Fp hn hc hb hi hk)
 have ho:iF (Y0 t x m m.length)=some (.inr (.inl (tN (x::m),()))):=by
  unfold iF Y0
  simp only[II,aQ,aL,aP,decide_true,Bool.not_true,cond_false,List.take_length]
 have hx:=hb x (by simp)
 have e0:((x:Int),(),[tI (x:Int)],tI (nx t x:Nat),t.V,t.F,t.hs.map tH,t.rs.map tR,())=Y0 t x m 0:=by
  unfold Y0;rw[hc.cur0];rfl
 unfold mJ
 simp only[qB (l:=t.hs) (i:=(x:Int)) (by omega) (by omega),aL,P9,hi x (by simp),aO]
 rw[e0,hl,aF ho]
 rfl
noncomputable def rB(t:Tp)(r:Nat):Bool:=GL (rG t.rs r).c t.F&&bif decide ((rG t.rs r).h=-1) then GL (rG t.rs r).v t.V&&!decide ((0:Int)<(cnt (GP t r) t.hs.length:Int)) else
 GL (rG t.rs r).h t.hs.length&&(decide ((hG t.hs (rG t.rs r).h).r=r)&&(decide ((rG t.rs r).v=-1)&&decide ((MQ (nx t) (rG t.rs r).h.toNat:Int)=(cnt (GP t r) t.hs.length:Int))))
def uL(t:Tp):Nat→List Bool
 | 0=>List.replicate t.F.toNat false
 | r+1=>(uL t r).set (rG t.rs r).c.toNat true
theorem QH(t:Tp)(r:Nat):(uL t r).length=t.F.toNat:=by
 induction r with
 | zero=>simp[uL]
 | succ r ih=>simp[uL,ih]
theorem Fq(t:Tp)(f:Nat)(hf:f<t.F.toNat)(r:Nat):(uL t r)[f]?=some (decide (∃j,j<r∧(rG t.rs j).c.toNat=f)):=by
 induction r with
 | zero=>simp[uL,hf]
 | succ r ih=>
  simp only[uL]
  rw[List.getElem?_set]
  by_cases h:(rG t.rs r).c.toNat=f
  ·rw[if_pos h,if_pos (by rw[QH];omega)]
   exact congrArg some (decide_eq_true ⟨r,by omega,h⟩).symm
  ·rw[if_neg h,ih]
   congr 1
   rw[decide_eq_decide]
   constructor
   ·rintro ⟨j,h1,h2⟩;exact⟨j,by omega,h2⟩
   ·rintro ⟨j,h1,h2⟩
    by_cases e:j=r
    ·subst e;exact absurd h2 h
    ·exact⟨j,by omega,h2⟩
def fB(t:Tp)(f:Nat):Bool:=decide (∃j,j<t.rs.length∧(rG t.rs j).c.toNat=f)
noncomputable def LB(t:Tp):Bool:=(List.range t.rs.length).all (rB t)&&(List.range t.F.toNat).all (fB t)
def U0(t:Tp)(r:Nat):Unit×List T×Int×Int×Int×List T×List T×Unit:=((),(uL t r).map tB,(r:Int),t.V,t.F,t.hs.map tH,t.rs.map tR,())
theorem Ft(l:List Bool)(k:Nat)(b:Bool):(l.map tB).set k (tB b)=(l.set k b).map tB:=by simp[List.map_set]
theorem Wn{t:Tp}(ht:Hok t){r:Nat}(hr:r<t.rs.length):jM (U0 t r)=some (bif rB t r then .inl (U0 t (r+1)) else .inr (.inl (false,()))):=by
 have hn:=ht.n
 have hR:=ht.R
 have hlt:decide ((r:Int)<(t.rs.length:Int))=true:=decide_eq_true (by omega)
 unfold jM U0 rB
 simp only[aA,uD,hlt,cond_true,Aq (l:=t.rs) (i:=(r:Int)) (by omega) (by omega),aL,Ez,Fa,Fb,aQ,Tg]
 cases hc:GL (rG t.rs r).c t.F with
 | false=>rfl
 | true=>
  obtain⟨hc0,hc1⟩:=lX.1 hc
  have hlen:lenL ((uL t r).map tB)=((uL t r).length:Int):=by rw[cH,List.length_map]
  have hch:chkI ((uL t r).length:Int) (rG t.rs r).c=some (rG t.rs r).c.toNat:=Es hc0 (by rw[QH];omega)
  have hg:∃b,((uL t r).map tB)[(rG t.rs r).c.toNat]?=some (tB b):=by
   rw[List.getElem?_map,Fq t _ (by omega)];exact⟨_,rfl⟩
  obtain⟨b,hg⟩:=hg
  simp only[Bool.not_true,cond_false,jZ,hlen,hch,aU,hg,aL,aP,Bool.true_and]
  cases hh:decide ((rG t.rs r).h=-1) with
  | true=>
   simp only[cond_true]
   cases hv:GL (rG t.rs r).v t.V with
   | false=>rfl
   | true=>
    simp only[Bool.not_true,cond_false,OA (t:=t) (by omega),aL,Bool.true_and]
    cases decide ((0:Int)<(cnt (GP t r) t.hs.length:Int)) with
    | true=>rfl
    | false=>simp only[cond_false,aL,oA,aI,aE,wk (k:=r) (by omega),zZ,VL,Ft,Bool.not_false,cond_true,uL]
  | false=>
   simp only[cond_false,uC]
   cases hi:GL (rG t.rs r).h t.hs.length with
   | false=>rfl
   | true=>
    obtain⟨hi0,hi1⟩:=lX.1 hi
    obtain⟨x,hx⟩:∃x:Nat,(rG t.rs r).h=(x:Int):=⟨(rG t.rs r).h.toNat,by omega⟩
    have hxl:x<t.hs.length:=by omega
    simp only[Bool.not_true,cond_false,hx,qB (l:=t.hs) (i:=(x:Int)) (by omega) (by omega),aL,KZ,aQ,Bool.true_and,Int.toNat_natCast]
    cases h1:decide ((hG t.hs (x:Int)).r=(r:Int)) with
    | false=>rfl
    | true=>
     simp only[Bool.not_true,cond_false,Bool.true_and]
     cases h2:decide ((rG t.rs r).v=-1) with
     | false=>rfl
     | true=>
      obtain⟨m,hm,hb⟩:=ht.ncyc hxl
      have hl:lenL (tN (x::m))=((m.length+1:Nat):Int):=by rw[cH,sQ];rfl
      simp only[Bool.not_true,cond_false,aL,Kg (t:=t) (by omega) hm hb (fun y hy=>ht.nx_i (hb y hy)),OA (t:=t) (by omega),Bool.true_and,hl,rE hm]
      cases decide (((m.length+1:Nat):Int)=(cnt (GP t r) t.hs.length:Int)) with
      | false=>rfl
      | true=>simp only[Bool.not_true,cond_false,cond_true,aL,oA,aI,aE,wk (k:=r) (by omega),zZ,VL,Ft,uL]
theorem Fu{t:Tp}(ht:Hok t):mK (oK t)=some (LB t,()):=by
 have hF0:=ht.F0
 have hF1:=ht.F1
 have hR:=ht.R
 have hlt:decide ((t.rs.length:Int)<(t.rs.length:Int))=false:=decide_eq_false (by omega)
 have l0:=gX (F:=jM) t.rs.length (U0 t) (rB t) (.inl (false,())) (.inr (.inl ((uL t t.rs.length).map tB,()))) (fun k hk _=>Wn ht hk) (fun _=>by
  unfold jM U0;simp only[aA,uD,hlt,cond_false])
 unfold mK oK
 simp only[gN (l:=t.F) (c:=t.F) (b:=1) (by omega) (by omega) (by omega) (by decide),aL,lR,zZ]
 have e0:((),List.replicate t.F.toNat (tB false),(0:Int),t.V,t.F,t.hs.map tH,t.rs.map tR,())=U0 t 0:=by
  unfold U0 uL;rw[List.map_replicate];rfl
 rw[e0,l0]
 unfold LB
 cases h:(List.range t.rs.length).all (rB t) with
 | false=>rfl
 | true=>
  simp only[cond_true,aL,oA,aI,Bool.true_and]
  have l2:=gX (F:=lV) t.F.toNat (fun k=>((uL t t.rs.length).map tB,(k:Int),())) (fB t) (.inl (false,())) (.inr (.inl ())) (fun k hk _=>by
   have hl:lenL ((uL t t.rs.length).map tB)=(t.F.toNat:Int):=by rw[cH,List.length_map,QH]
   have hlt:decide ((k:Int)<(t.F.toNat:Int))=true:=decide_eq_true (by omega)
   have hg:((uL t t.rs.length).map tB)[k]?=some (tB (fB t k)):=by rw[List.getElem?_map,Fq t k hk];rfl
   unfold lV
   simp only[aA,hl,hlt,cond_true,kJ (n:=(t.F.toNat:Int)) (i:=k) (by omega),aL,aU,hg,EU,ET,aE,wk (k:=k) (by omega)]
   cases fB t k <;> rfl) (fun _=>by
   have hl:lenL ((uL t t.rs.length).map tB)=(t.F.toNat:Int):=by rw[cH,List.length_map,QH]
   have hlt:decide ((t.F.toNat:Int)<(t.F.toNat:Int))=false:=decide_eq_false (by omega)
   unfold lV
   simp only[aA,hl,hlt,cond_false])
  have e1:((uL t t.rs.length).map tB,(0:Int),())=((uL t t.rs.length).map tB,((0:Nat):Int),()):=rfl
  rw[e1,l2]
  cases(List.range t.F.toNat).all (fB t) <;> rfl
def zL(t:Tp)(k:Nat):List Nat:=(List.range t.rs.length).map fun(r:Nat)=>cnt (GP t r) k
theorem GQ(t:Tp)(k:Nat):(zL t k).length=t.rs.length:=by simp[zL]
theorem LC(t:Tp)(k:Nat){r:Nat}(h:r<t.rs.length):(zL t k)[r]?=some (cnt (GP t r) k):=by simp[zL,h]
theorem xB{l:List Nat}{k v:Nat}(h:l[k]?=some v):(tN l)[k]?=some (tI (v:Int)):=by simp[tN,h]
theorem VY(l:List Nat)(k v:Nat):(tN l).set k (tI (v:Int))=tN (l.set k v):=by simp[tN,List.map_set]
theorem Kh(t:Tp)(k:Nat){r:Nat}(hr:(hG t.hs k).r=(r:Int))(h:r<t.rs.length):(zL t k).set r (cnt (GP t r) k+1)=zL t (k+1):=by
 apply List.ext_getElem?
 intro i
 rw[List.getElem?_set]
 by_cases hi:i<t.rs.length
 ·rw[LC t (k+1) hi,GQ]
  by_cases e:r=i
  ·subst e
   have:GP t r k=true:=decide_eq_true hr
   rw[if_pos rfl,if_pos h];simp only[cnt,this,if_true]
  ·have:GP t i k=false:=decide_eq_false (by rw[hr];omega)
   rw[if_neg e,LC t k hi];simp only[cnt,this,Bool.false_eq_true,if_false,Nat.add_zero]
 ·have h1:(zL t (k+1))[i]?=none:=List.getElem?_eq_none (by rw[GQ];omega)
  have h2:(zL t k)[i]?=none:=List.getElem?_eq_none (by rw[GQ];omega)
  rw[h1,h2,if_neg (by omega)]
def Z0(t:Tp)(k:Nat):Unit×List T×List T×Int×Int×Int×Int×List T×List T×Unit:=((),tN (zL t k),t.hs.map tH,(t.hs.length:Int),(k:Int),t.V,t.F,t.hs.map tH,t.rs.map tR,())
theorem Wo{t:Tp}(ht:Hok t){k:Nat}(hk:k<t.hs.length):dN (Z0 t k)=some (.inl (Z0 t (k+1))):=by
 have hn:=ht.n
 have hR:=ht.R
 obtain⟨_,_,_,h3⟩:=uE.1 (ht.b1 k hk)
 obtain⟨r,hr⟩:∃r:Nat,(hG t.hs k).r=(r:Int):=⟨(hG t.hs k).r.toNat,by omega⟩
 have hrl:r<t.rs.length:=by omega
 have hlt:decide ((k:Int)<(t.hs.length:Int))=true:=decide_eq_true (by omega)
 have hl:lenL (tN (zL t k))=(t.rs.length:Int):=by rw[cH,sQ,GQ]
 have hc:=sN (GP t r) k
 unfold dN Z0
 simp only[aA,hlt,cond_true,qB (l:=t.hs) (i:=(k:Int)) (by omega) (by omega),aL,KZ,jZ,hr,hl,kJ (n:=(t.rs.length:Int)) (i:=r) (by omega),aU,xB (LC t k hrl),cD,aQ,aO,iR,aE,wk (k:=cnt (GP t r) k) (by omega),wk (k:=k) (by omega),VY,Kh t k hr hrl]
def kL(t:Tp):Nat→List Int
 | 0=>[]
 | r+1=>if (rG t.rs r).c∈kL t r then kL t r else kL t r++[(rG t.rs r).c]
def tK(l:List Int):List T:=l.map fun c=>.agg [tI c,tB true]
theorem IK(a b:Int):nI (tI a) (tI b)=(a==b):=rfl
theorem QI{c:Int}:∀{l:List Int},c∈l→∃i,bL (tI c) (tK l)=some i∧(tK l)[i]?=some (.agg [tI c,tB true])
 | a::l,h=>by
  unfold bL tK
  rw[List.map_cons,List.findIdx?_cons]
  have e:nI (tI c) (kQ (.agg [tI a,tB true]))=(c==a):=IK c a
  rw[e]
  by_cases hc:c=a
  ·subst hc;exact⟨0,by simp,rfl⟩
  ·have h2:c∈l:=by
    rcases List.mem_cons.1 h with h | h
    ·exact absurd h hc
    ·exact h
   obtain⟨i,h3,h4⟩:=QI h2
   unfold bL tK at h3
   have hb:(c==a)=false:=by simpa using hc
   refine⟨i+1,?_,h4⟩
   rw[hb,h3];rfl
theorem OB{c:Int}:∀{l:List Int},c∉l→bL (tI c) (tK l)=none:=by
 intro l h
 unfold bL
 rw[List.findIdx?_eq_none_iff]
 intro x hx
 obtain⟨a,ha,rfl⟩:=List.mem_map.1 hx
 have e:nI (tI c) (kQ (.agg [tI a,tB true]))=(c==a):=IK c a
 rw[e]
 have:c≠a:=fun e=>h (e▸ha)
 simpa using this
theorem mG{α:Type}:∀{l:List α} {i:Nat} {x:α},l[i]?=some x→l.set i x=l
 | [],_,_,h=>by cases h
 | a::l,0,x,h=>by simp at h;rw[h];rfl
 | a::l,i+1,x,h=>by rw[List.set_cons_succ,mG (by simpa using h)]
theorem Fv(c:Int)(l:List Int):mapPut (tI c) (tB true) (tK l)=tK (if c∈l then l else l++[c]):=by
 unfold mapPut
 by_cases h:c∈l
 ·obtain⟨i,h1,h2⟩:=QI h
  rw[h1,if_pos h]
  exact mG h2
 ·rw[OB h,if_neg h]
  simp[tK]
theorem VZ(t:Tp)(c:Int)(r:Nat):c∈kL t r↔∃j,j<r∧(rG t.rs j).c=c:=by
 induction r with
 | zero=>simp[kL]
 | succ r ih=>
  simp only[kL]
  constructor
  ·intro h
   split at h
   ·obtain⟨j,h1,h2⟩:=ih.1 h;exact⟨j,by omega,h2⟩
   ·rcases List.mem_append.1 h with h | h
    ·obtain⟨j,h1,h2⟩:=ih.1 h;exact⟨j,by omega,h2⟩
    ·exact⟨r,by omega,by simpa using(List.mem_singleton.1 h).symm⟩
  ·rintro ⟨j,h1,h2⟩
   by_cases e:j=r
   ·subst e
    split
    ·rename_i h;rw[←h2];exact h
    ·rw[←h2];simp
   ·have:=ih.2 ⟨j,by omega,h2⟩
    split
    ·exact this
    ·exact List.mem_append_left _ this
theorem Tv(t:Tp)(r:Nat):(kL t r).Nodup:=by
 induction r with
 | zero=>simp[kL]
 | succ r ih=>
  simp only[kL]
  split
  ·exact ih
  ·rename_i h
   refine List.nodup_append.2 ⟨ih,by simp,fun a ha b hb e=>?_⟩
   have:b=(rG t.rs r).c:=by simpa using hb
   subst this;subst e;exact h ha
theorem Pt{t:Tp}(h0:0≤t.F)(hc:∀r,r<t.rs.length→0≤(rG t.rs r).c∧(rG t.rs r).c<t.F):decide (((kL t t.rs.length).length:Int)=t.F)=(List.range t.F.toNat).all (fB t):=by
 have hr:∀c∈kL t t.rs.length,0≤c∧c<t.F:=fun c h=>by
  obtain⟨j,h1,h2⟩:=(VZ t c _).1 h;rw[←h2];exact hc j h1
 have hnd:((kL t t.rs.length).map Int.toNat).Nodup:=by
  have:(kL t t.rs.length).Pairwise fun a b=>a.toNat≠b.toNat:=by
   refine List.Pairwise.imp_of_mem ?_ (Tv t t.rs.length)
   intro a b ha hb hne e
   have:=(hr a ha).1;have:=(hr b hb).1;omega
  exact List.pairwise_map.2 this
 have hlt:∀x∈(kL t t.rs.length).map Int.toNat,x∈List.range t.F.toNat:=fun x hx=>by
  obtain⟨c,h1,rfl⟩:=List.mem_map.1 hx
  have:=hr c h1;exact List.mem_range.2 (by omega)
 have hle:=KW hnd hlt
 rw[List.length_map,List.length_range] at hle
 rw[Bool.eq_iff_iff,decide_eq_true_eq,lY]
 constructor
 ·intro h f hf
  have h2:=Ex hnd hlt (by rw[List.length_map,List.length_range];omega) f (List.mem_range.2 hf)
  obtain⟨c,h3,h4⟩:=List.mem_map.1 h2
  obtain⟨j,h5,h6⟩:=(VZ t c _).1 h3
  exact decide_eq_true ⟨j,h5,by rw[h6,h4]⟩
 ·intro h
  have h2:∀x∈List.range t.F.toNat,x∈(kL t t.rs.length).map Int.toNat:=fun x hx=>by
   obtain⟨j,h3,h4⟩:=of_decide_eq_true (h x (List.mem_range.1 hx))
   exact List.mem_map.2 ⟨_,(VZ t _ _).2 ⟨j,h3,rfl⟩,h4⟩
  have h3:=KW List.nodup_range h2
  rw[List.length_map,List.length_range] at h3;omega
open Go.Eng
def okI(i:Int):Bool:=decide (0≤i)&&decide (i<512)
def Pu(x:Lp)(k:Nat):Bool:=okI (x.getD k 0)&&!(x.take k).contains (x.getD k 0)
def Tw(x:Lp):Bool:=(List.range x.length).all (Pu x)
def GR(x:Lp):Bool:=Tw x&&(decide (3≤x.length)&&decide (x.length≤64))
def MT(c:Fc):Bool:=decide (1≤c.length)&&(decide (c.length≤16)&&(List.range c.length).all fun l=>GR (c.getD l []))
def xY(F:Fs):Bool:=decide (F.length≤256)&&(List.range F.length).all fun f=>MT (F.getD f [])
theorem Ki{l:List Int}(c:Int):mapGetD (tI c) (tK l) (tB false)=tB (l.contains c):=by
 unfold mapGetD
 by_cases h:c∈l
 ·obtain⟨i,h1,h2⟩:=QI h
  rw[h1]
  have:(tK l).getD i (tB false)=.agg [tI c,tB true]:=by rw[List.getD_eq_getElem?_getD,h2];rfl
  simp only[this,rU]
  rw[List.contains_iff_mem.2 h]
 ·rw[OB h]
  have:l.contains c=false:=by
   cases hc:l.contains c with
   | false=>rfl
   | true=>exact(h (List.contains_iff_mem.1 hc)).elim
  rw[this]
theorem OC{α:Type}{l:List α}{k:Nat}(h:k<l.length)(d:α):l.take (k+1)=l.take k++[l.getD k d]:=by
 rw[List.take_add_one,List.getElem?_eq_getElem h,List.getD_eq_getElem?_getD,List.getElem?_eq_getElem h];rfl
structure Bw (F:Fs):Prop where
 n:F.length≤9223372036854775807
 l:∀c∈F,c.length≤9223372036854775807
 x:∀c∈F,∀x∈c,x.length≤9223372036854775807
theorem Bd.w{F:Fs}(hb:Bd F):Bw F:=⟨Nat.le_trans hb.n (by omega),fun c hc=>Nat.le_trans (hb.l c hc) (by omega),fun c hc x hx=>Nat.le_trans (hb.x c hc x hx) (by omega)⟩
theorem Pv{k:Nat}(h:k<9223372036854775807):wr .i64 ((k:Int)+1)=((k+1:Nat):Int):=by rw[mY (by omega) (by omega)];push_cast;rfl
def sL(x:Lp)(k:Nat):List T×List T×List T×Int×Int×Unit:=(x.map tI,tK (x.take k),x.map tI,(x.length:Int),(k:Int),())
theorem Fw(x:Lp):lenL (x.map tI)=(x.length:Int):=by rw[cH,List.length_map]
theorem Tx{x:Lp}(hx:x.length≤9223372036854775807){k:Nat}(hk:k<x.length):fF (sL x k)=some (bif Pu x k then .inl (sL x (k+1)) else .inr (.inl (false,()))):=by
 unfold fF sL
 simp only[aA,decide_eq_true (show (k:Int)<(x.length:Int) by omega),cond_true,kU hk,aL,aO,zZ,sA]
 have e1:T.int? .i64 (T.cell (tI (x.getD k 0)) 0)=some (x.getD k 0):=by simp[tI]
 simp only[e1,aL,Ki]
 have e2:∀b,T.one? (tB b)=some (tB b):=fun _=>rfl
 have e3:∀b,T.bool? (tB b)=some b:=fun _=>rfl
 simp only[e2,aL,e3]
 unfold Pu okI
 by_cases h1:x.getD k 0<0
 ·simp only[decide_eq_true h1,cond_true,decide_eq_false (show ¬0≤x.getD k 0 by omega),Bool.false_and,cond_false]
 ·simp only[decide_eq_false h1,cond_false,decide_eq_true (show 0≤x.getD k 0 by omega),Bool.true_and]
  by_cases h2:512≤x.getD k 0
  ·simp only[decide_eq_true h2,cond_true,decide_eq_false (show ¬x.getD k 0<512 by omega),Bool.false_and,cond_false]
  ·simp only[decide_eq_false h2,cond_false,decide_eq_true (show x.getD k 0<512 by omega),Bool.true_and]
   cases hc:(x.take k).contains (x.getD k 0) with
   | true=>simp only[cond_true,Bool.not_true,cond_false]
   | false=>
    have hn:¬x.getD k 0∈x.take k:=fun h=>by rw[List.contains_iff_mem.2 h] at hc;cases hc
    simp only[cond_false,Bool.not_false,cond_true,Fv,if_neg hn,aE,Pv (show k<9223372036854775807 by omega),OC hk 0]
theorem Pw{x:Lp}:fF (sL x x.length)=some (.inr (.inr (.inl (x.map tI,())))):=by
 unfold fF sL
 simp only[aA,decide_eq_false (Int.lt_irrefl _),cond_false]
theorem Px{x:Lp}(hx:x.length≤9223372036854775807):lS (x.map tI,())=some (GR x,()):=by
 have hl:=gX (F:=fF) x.length (sL x) (Pu x) (.inl (false,())) (.inr (.inl (x.map tI,()))) (fun k hk _=>Tx hx hk) (fun _=>Pw)
 unfold lS
 simp only[Fw]
 show ob (aC fF (sL x 0)) _=_
 rw[hl]
 unfold GR Tw
 cases(List.range x.length).all (Pu x) with
 | false=>rfl
 | true=>
  simp only[cond_true,aL,oA,aI,Fw,sA,Bool.true_and]
  by_cases h:3≤x.length
  ·rw[decide_eq_true (show (3:Int)≤(x.length:Int) by omega),decide_eq_true h]
   simp only[cond_true,Bool.true_and]
   congr 2
   rw[Bool.eq_iff_iff];simp;omega
  ·rw[decide_eq_false (show ¬(3:Int)≤(x.length:Int) by omega),decide_eq_false h];rfl
def Ty(F:Fs)(f l:Nat):List T×Int×Int×T×Int×Int×Unit:=(eS F,(F.length:Int),(f:Int),eF (F.getD f []),((F.getD f []).length:Int),(l:Int),())
def Nb(F:Fs)(f:Nat):List T×Int×Int×Unit:=(eS F,(F.length:Int),(f:Int),())
theorem Tz(x:Lp):T.sl? 1 (eL x)=some (x.map tI):=Jh _ _
theorem X4(c:Fc):T.sl? 1 (eF c)=some (c.map eL):=Jh _ _
theorem Fx{F:Fs}(hb:Bw F):c7 (eS F,())=some (xY F,()):=by
 have h1:∀f,f<F.length→aC eG (Ty F f 0)=some (bif (List.range (F.getD f []).length).all (fun l=>GR ((F.getD f []).getD l [])) then .inr (.inl (Nb F f)) else .inl (false,())):=fun f hf=>by
  refine gX (F:=eG) (F.getD f []).length (Ty F f) _ _ _ (fun l hl _=>?_) (fun _=>?_)
  ·have hx:=hb.x _ (bA hf []) _ (bA hl [])
   have hc:=hb.l _ (bA hf [])
   unfold eG Ty
   simp only[aA,decide_eq_true (show (l:Int)<((F.getD f []).length:Int) by omega),cond_true,HL,wY hl,aL,rF,Tz,Px hx,aE,Pv (show l<9223372036854775807 by omega)]
   cases GR ((F.getD f []).getD l []) <;> rfl
  ·unfold eG Ty Nb
   simp only[aA,decide_eq_false (Int.lt_irrefl _),cond_false]
 have h0:aC eH (Nb F 0)=some (bif (List.range F.length).all (fun f=>MT (F.getD f [])) then .inr (.inl ()) else .inl (false,())):=by
  refine gX (F:=eH) F.length (Nb F) _ _ _ (fun f hf _=>?_) (fun _=>?_)
  ·have hn:=hb.n
   have hl:=h1 f hf
   unfold eH Nb
   simp only[aA,sA,decide_eq_true (show (f:Int)<(F.length:Int) by omega),cond_true,mZ hf,j0,sO,aL]
   unfold MT
   by_cases hc1:(F.getD f []).length<1
   ·rw[decide_eq_true (show ((F.getD f []).length:Int)<1 by omega),decide_eq_false (show ¬1≤(F.getD f []).length by omega)];rfl
   ·rw[decide_eq_false (show ¬((F.getD f []).length:Int)<1 by omega),decide_eq_true (show 1≤(F.getD f []).length by omega)]
    simp only[cond_false,Bool.true_and]
    by_cases hc2:16<(F.getD f []).length
    ·rw[decide_eq_true (show (16:Int)<((F.getD f []).length:Int) by omega),decide_eq_false (show ¬(F.getD f []).length≤16 by omega)];rfl
    ·rw[decide_eq_false (show ¬(16:Int)<((F.getD f []).length:Int) by omega),decide_eq_true (show (F.getD f []).length≤16 by omega)]
     simp only[cond_false,Bool.true_and]
     show ob (aC eG (Ty F f 0)) _=_
     rw[hl]
     cases(List.range (F.getD f []).length).all (fun l=>GR ((F.getD f []).getD l [])) with
     | false=>rfl
     | true=>simp only[cond_true,aL,aI,oA,Nb,aE,Pv (show f<9223372036854775807 by omega)]
  ·unfold eH Nb
   simp only[aA,decide_eq_false (Int.lt_irrefl _),cond_false]
 unfold c7 xY
 simp only[dR,aA]
 by_cases hn:256<F.length
 ·rw[decide_eq_true (show (256:Int)<(F.length:Int) by omega),decide_eq_false (show ¬F.length≤256 by omega)];rfl
 ·rw[decide_eq_false (show ¬(256:Int)<(F.length:Int) by omega),decide_eq_true (show F.length≤256 by omega)]
  simp only[cond_false,Bool.true_and]
  show ob (aC eH (Nb F 0)) _=_
  rw[h0]
  cases(List.range F.length).all (fun f=>MT (F.getD f [])) <;> rfl
def Ua(c:Fc)(l i k:Nat):List T×Int×T×Int×Int×Unit:=(c.map eL,(l:Int),eL (c.getD l []),(i:Int),(k:Int),())
def Nc(c:Fc)(l i:Nat):List T×Int×T×Int×Unit:=(c.map eL,(l:Int),eL (c.getD l []),(i:Int),())
def Nd(c:Fc)(l:Nat):List T×Int×Unit:=(c.map eL,(l:Int),())
theorem QJ(n:Int):T.int? .i64 (T.cell (tI n) 0)=some n:=by simp[tI]
theorem Py{x:Lp}{i:Nat}(hi:i<x.length):(List.range i).all (fun k=>!decide (x.getD i 0=x.getD k 0))=!(x.take i).contains (x.getD i 0):=by
 rw[Bool.eq_iff_iff,List.all_eq_true]
 simp only[List.mem_range,Bool.not_eq_true',decide_eq_false_iff_not]
 constructor
 ·intro h
  cases hc:(x.take i).contains (x.getD i 0) with
  | false=>rfl
  | true=>
   obtain⟨k,hk,he⟩:=List.getElem_of_mem (List.contains_iff_mem.1 hc)
   have hki:k<i:=by simp at hk;omega
   refine(h k hki ?_).elim
   rw[←he,List.getElem_take,List.getD_eq_getElem?_getD (l:=x) (i:=k),List.getElem?_eq_getElem (by omega)];rfl
 ·intro h k hk he
  have:x.getD i 0∈x.take i:=by
   rw[he,List.getD_eq_getElem?_getD,List.getElem?_eq_getElem (by omega)]
   have:=List.getElem_mem (l:=x.take i) (n:=k) (by simp;omega)
   rw[List.getElem_take] at this
   exact this
  rw[List.contains_iff_mem.2 this] at h
  cases h
theorem Kj{c:Fc}(hc:c.length≤9223372036854775807)(hx:∀x∈c,x.length≤9223372036854775807):kZ (c.map eL,())=some (MT c,()):=by
 have hlen:lenL (c.map eL)=(c.length:Int):=by rw[cH,List.length_map]
 have h2:∀l,l<c.length→∀i,i<(c.getD l []).length→aC eI (Ua c l i 0)=some (bif !((c.getD l []).take i).contains ((c.getD l []).getD i 0) then .inr (.inl (Nc c l i)) else .inl (false,())):=fun l hl i hi=>by
  rw[←Py hi]
  have hxx:=hx _ (bA hl [])
  refine gX (F:=eI) i (Ua c l i) _ _ _ (fun k hk _=>?_) (fun _=>?_)
  ·unfold eI Ua
   simp only[aA,decide_eq_true (show (k:Int)<(i:Int) by omega),cond_true,HK,kU hi,kU (show k<(c.getD l []).length by omega),aL,QJ,aP,aE,Pv (show k<9223372036854775807 by omega)]
   cases decide ((c.getD l []).getD i 0=(c.getD l []).getD k 0) <;> rfl
  ·unfold eI Ua Nc
   simp only[aA,decide_eq_false (Int.lt_irrefl _),cond_false]
 have h1:∀l,l<c.length→aC eJ (Nc c l 0)=some (bif Tw (c.getD l []) then .inr (.inl (Nd c l)) else .inl (false,())):=fun l hl=>by
  have hxx:=hx _ (bA hl [])
  refine gX (F:=eJ) (c.getD l []).length (Nc c l) _ _ _ (fun i hi _=>?_) (fun _=>?_)
  ·have hl2:=h2 l hl i hi
   unfold eJ Nc
   simp only[aA,sA,l8,aL,decide_eq_true (show (i:Int)<((c.getD l []).length:Int) by omega),cond_true,HK,kU hi,QJ]
   unfold Pu okI
   by_cases q1:(c.getD l []).getD i 0<0
   ·simp only[decide_eq_true q1,cond_true,decide_eq_false (show ¬0≤(c.getD l []).getD i 0 by omega),Bool.false_and,cond_false]
   ·simp only[decide_eq_false q1,cond_false,decide_eq_true (show 0≤(c.getD l []).getD i 0 by omega),Bool.true_and]
    by_cases q2:512≤(c.getD l []).getD i 0
    ·simp only[decide_eq_true q2,cond_true,decide_eq_false (show ¬(c.getD l []).getD i 0<512 by omega),Bool.false_and,cond_false]
    ·simp only[decide_eq_false q2,cond_false,decide_eq_true (show (c.getD l []).getD i 0<512 by omega),Bool.true_and]
     show ob (aC eI (Ua c l i 0)) _=_
     rw[hl2]
     cases !((c.getD l []).take i).contains ((c.getD l []).getD i 0) with
     | false=>rfl
     | true=>simp only[cond_true,aL,aI,oA,Nc,aE,Pv (show i<9223372036854775807 by omega)]
  ·unfold eJ Nc Nd
   simp only[aA,l8,aL,decide_eq_false (Int.lt_irrefl _),cond_false]
 have h0:aC eK (Nd c 0)=some (bif (List.range c.length).all (fun l=>GR (c.getD l [])) then .inr (.inl ()) else .inl (false,())):=by
  refine gX (F:=eK) c.length (Nd c) _ _ _ (fun l hl _=>?_) (fun _=>?_)
  ·have hl1:=h1 l hl
   unfold eK Nd
   simp only[aA,hlen,decide_eq_true (show (l:Int)<(c.length:Int) by omega),cond_true,wY hl,rF,l8,aL]
   unfold GR
   by_cases q1:(c.getD l []).length<3
   ·rw[decide_eq_true (show ((c.getD l []).length:Int)<3 by omega),decide_eq_false (show ¬3≤(c.getD l []).length by omega)]
    simp only[cond_true,Bool.false_and,Bool.and_false,cond_false]
   ·rw[decide_eq_false (show ¬((c.getD l []).length:Int)<3 by omega),decide_eq_true (show 3≤(c.getD l []).length by omega)]
    by_cases q2:64<(c.getD l []).length
    ·rw[decide_eq_true (show (64:Int)<((c.getD l []).length:Int) by omega),decide_eq_false (show ¬(c.getD l []).length≤64 by omega)]
     simp only[cond_true,Bool.and_false,cond_false]
    ·rw[decide_eq_false (show ¬(64:Int)<((c.getD l []).length:Int) by omega),decide_eq_true (show (c.getD l []).length≤64 by omega)]
     simp only[cond_false,Bool.and_true]
     show ob (aC eJ (Nc c l 0)) _=_
     rw[hl1]
     cases Tw (c.getD l []) with
     | false=>rfl
     | true=>simp only[cond_true,aL,aI,oA,Nd,aE,Pv (show l<9223372036854775807 by omega)]
  ·unfold eK Nd
   simp only[aA,hlen,decide_eq_false (Int.lt_irrefl _),cond_false]
 unfold kZ MT
 simp only[hlen,aA]
 by_cases q1:c.length<1
 ·rw[decide_eq_true (show (c.length:Int)<1 by omega),decide_eq_false (show ¬1≤c.length by omega)];rfl
 ·rw[decide_eq_false (show ¬(c.length:Int)<1 by omega),decide_eq_true (show 1≤c.length by omega)]
  simp only[cond_false,Bool.true_and]
  by_cases q2:16<c.length
  ·rw[decide_eq_true (show (16:Int)<(c.length:Int) by omega),decide_eq_false (show ¬c.length≤16 by omega)];rfl
  ·rw[decide_eq_false (show ¬(16:Int)<(c.length:Int) by omega),decide_eq_true (show c.length≤16 by omega)]
   simp only[cond_false,Bool.true_and]
   show ob (aC eK (Nd c 0)) _=_
   rw[h0]
   cases(List.range c.length).all (fun l=>GR (c.getD l [])) <;> rfl
def Ub(F:Fs)(f:Nat):List T×Int×Unit:=(eS F,(f:Int),())
theorem Bt{F:Fs}(hb:Bw F):eQ (eS F,())=some (xY F,()):=by
 have hn:=hb.n
 have h0:aC iH (Ub F 0)=some (bif (List.range F.length).all (fun f=>MT (F.getD f [])) then .inr (.inl ()) else .inl (false,())):=by
  refine gX (F:=iH) F.length (Ub F) _ _ _ (fun f hf _=>?_) (fun _=>?_)
  ·unfold iH Ub
   simp only[aA,dR,decide_eq_true (show (f:Int)<(F.length:Int) by omega),cond_true,mZ hf,j0,X4,aL,Kj (hb.l _ (bA hf [])) (hb.x _ (bA hf [])),aE,Pv (show f<9223372036854775807 by omega)]
   cases MT (F.getD f []) <;> rfl
  ·unfold iH Ub
   simp only[aA,dR,decide_eq_false (Int.lt_irrefl _),cond_false]
 unfold eQ xY
 simp only[dR,aA]
 by_cases hn:256<F.length
 ·rw[decide_eq_true (show (256:Int)<(F.length:Int) by omega),decide_eq_false (show ¬F.length≤256 by omega)];rfl
 ·rw[decide_eq_false (show ¬(256:Int)<(F.length:Int) by omega),decide_eq_true (show F.length≤256 by omega)]
  simp only[cond_false,Bool.true_and]
  show ob (aC iH (Ub F 0)) _=_
  rw[h0]
  cases(List.range F.length).all (fun f=>MT (F.getD f [])) <;> rfl
theorem EZ{F:Fs}(hb:Bd F):c7 (eS F,())=some (xY F,()):=Fx hb.w
theorem AA{F:Fs}(hb:Bd F):eQ (eS F,())=some (xY F,()):=Bt hb.w
abbrev Kk:=Int×Int
abbrev Am:=List (Kk×Int)
def kT(k:Kk):T:=.agg [tI k.1,tI k.2]
def Sj(p:Kk×Int):T:=.agg [kT p.1,tI p.2]
def eM(L:Am):List T:=L.map Sj
def fx(k:Kk)(L:Am):Option Nat:=L.findIdx? fun p=>decide (k=p.1)
def lk(L:Am)(k:Kk):Option Int:=(fx k L).map fun i=>(L.getD i (k,0)).2
def put(L:Am)(k:Kk)(v:Int):Am:=match fx k L with
 | some i=>L.set i (k,v)
 | none=>L++[(k,v)]
theorem Kl(a b:Kk):nI (kT a) (kT b)=decide (a=b):=by
 show ((a.1==b.1)&&((a.2==b.2)&&true))=decide (a=b)
 rw[Bool.eq_iff_iff]
 simp[Prod.ext_iff]
theorem IL(k:Kk)(L:Am):bL (kT k) (eM L)=fx k L:=by
 unfold bL eM fx
 rw[pQ]
 congr 1
 funext p
 exact Kl k p.1
theorem A5{k:Kk}{L:Am}{i:Nat}(h:fx k L=some i):∃v,L[i]?=some (k,v):=by
 unfold fx at h
 rw[List.findIdx?_eq_some_iff_getElem] at h
 obtain⟨hi,h1,_⟩:=h
 have:=of_decide_eq_true h1
 exact⟨L[i].2,by rw[List.getElem?_eq_getElem hi];rw[this]⟩
theorem QK{k:Kk}{L:Am}:fx k L=none↔∀p∈L,p.1≠k:=by
 unfold fx
 rw[List.findIdx?_eq_none_iff]
 exact⟨fun h p hp e=>by have:=h p hp;rw[decide_eq_false_iff_not] at this;exact this e.symm,fun h p hp=>decide_eq_false fun e=>h p hp e.symm⟩
theorem Km{k:Kk}{L:Am}:lk L k=none↔fx k L=none:=by unfold lk;cases fx k L <;> simp
theorem xC(k:Kk)(L:Am)(z:Int):mapGetD (kT k) (eM L) (tI z)=tI ((lk L k).getD z):=by
 unfold mapGetD lk
 rw[IL]
 cases h:fx k L with
 | none=>rfl
 | some i=>
  obtain⟨v,hv⟩:=A5 h
  simp only[Option.map_some,Option.getD_some]
  have e1:(eM L).getD i (tI z)=Sj (k,v):=by rw[List.getD_eq_getElem?_getD];unfold eM;rw[List.getElem?_map,hv];rfl
  have e2:(L.getD i (k,0)).2=v:=by rw[List.getD_eq_getElem?_getD,hv];rfl
  rw[e1,e2];rfl
theorem QL(k:Kk)(L:Am):mapHas (kT k) (eM L)=(lk L k).isSome:=by
 unfold mapHas lk
 rw[IL]
 cases fx k L <;> rfl
theorem Fy(k:Kk)(v:Int)(L:Am):mapPut (kT k) (tI v) (eM L)=eM (put L k v):=by
 unfold mapPut put
 rw[IL]
 cases h:fx k L with
 | none=>simp[eM];rfl
 | some i=>simp only[eM,List.map_set];rfl
theorem Pz(k:Kk)(v z:Int)(L:Am):DR (yS (kT k) (eM L)) (tI v) (qJ (kT k) (tI z) (eM L))=some (eM (put L k v)):=by
 unfold yS qJ put DR
 rw[IL]
 cases h:fx k L with
 | none=>
  simp only[Option.getD_none]
  rw[if_pos (by omega)]
  have e1:(eM L++[T.agg [kT k,tI z]])[((eM L).length:Int).toNat]?=some (.agg [kT k,tI z]):=by simp
  rw[e1]
  simp only[kQ,Int.toNat_natCast]
  rw[List.set_append_right _ _ (Nat.le_refl _)]
  simp[eM];rfl
 | some i=>
  obtain⟨u,hu⟩:=A5 h
  simp only[Option.getD_some]
  rw[if_pos (by omega)]
  have e1:(eM L)[(i:Int).toNat]?=some (Sj (k,u)):=by simp[eM,hu]
  rw[e1]
  simp only[Int.toNat_natCast,eM,List.map_set]
  rfl
def Nk(L:Am):Prop:=(L.map (·.1)).Nodup
theorem Nk.nil:Nk []:=List.nodup_nil
theorem Fz{L:Am}(hn:Nk L){i j:Nat}{p q:Kk×Int}(hi:L[i]?=some p)(hj:L[j]?=some q)(h:p.1=q.1):i=j:=by
 have hlt:i<(L.map (·.1)).length:=by rw[List.length_map];exact(List.getElem?_eq_some_iff.1 hi).1
 exact(List.getElem?_inj hlt hn).1 (by rw[List.getElem?_map,List.getElem?_map,hi,hj];simp[h])
theorem C8{L:Am}(hn:Nk L){k:Kk}{v:Int}:lk L k=some v↔(k,v)∈L:=by
 unfold lk
 constructor
 ·intro h
  obtain⟨i,h1,h2⟩:=Option.map_eq_some_iff.1 h
  obtain⟨u,hu⟩:=A5 h1
  rw[List.getD_eq_getElem?_getD,hu] at h2
  have:u=v:=h2
  subst this
  exact List.mem_of_getElem? hu
 ·intro h
  cases hf:fx k L with
  | none=>exact(QK.1 hf _ h rfl).elim
  | some i=>
   obtain⟨u,hu⟩:=A5 hf
   simp only[Option.map_some,List.getD_eq_getElem?_getD,hu,Option.getD_some,Option.some.injEq]
   obtain⟨j,hj,he⟩:=List.getElem_of_mem h
   have hi:i<L.length:=(List.getElem?_eq_some_iff.1 hu).1
   have hij:i=j:=Fz (q:=(k,v)) hn hu (by rw[List.getElem?_eq_getElem hj,he]) rfl
   subst hij
   rw[List.getElem?_eq_getElem hj,he] at hu
   exact(Prod.mk.inj (Option.some.inj hu)).2.symm
theorem S9{L:Am}{k:Kk}{v:Int}:(put L k v).map (·.1)=if (lk L k).isSome then L.map (·.1) else L.map (·.1)++[k]:=by
 unfold put lk
 cases h:fx k L with
 | none=>simp
 | some i=>
  obtain⟨u,hu⟩:=A5 h
  simp only[Option.map_some,Option.isSome_some,if_true,List.map_set]
  exact mG (by rw[List.getElem?_map,hu];rfl)
theorem X5{L:Am}{k:Kk}{v:Int}:(put L k v).length=if (lk L k).isSome then L.length else L.length+1:=by
 have:=congrArg List.length (S9 (L:=L) (k:=k) (v:=v))
 rw[List.length_map] at this
 rw[this]
 split <;> simp
theorem Nk.put{L:Am}(hn:Nk L)(k:Kk)(v:Int):Nk (put L k v):=by
 unfold Nk
 rw[S9]
 split
 ·exact hn
 ·rename_i h
  refine List.nodup_append.2 ⟨hn,by simp,fun a ha b hb e=>?_⟩
  have hb':b=k:=by simpa using hb
  subst hb';subst e
  obtain⟨p,hp,he⟩:=List.mem_map.1 ha
  have hnone:lk L a=none:=by cases hl:lk L a with
   | none=>rfl
   | some x=>rw[hl] at h;exact(h rfl).elim
  exact QK.1 (Km.1 hnone) p hp he
theorem QM{L:Am}(hn:Nk L)(k k':Kk)(v:Int):lk (put L k v) k'=if k'=k then some v else lk L k':=by
 have hnp:=hn.put k v
 have hmem:∀p,p∈put L k v↔p=(k,v)∨(p∈L∧p.1≠k):=fun p=>by
  unfold put
  cases h:fx k L with
  | none=>
   have h2:=QK.1 h
   simp only[List.mem_append,List.mem_singleton]
   constructor
   ·rintro (h | h)
    ·exact .inr ⟨h,h2 p h⟩
    ·exact .inl h
   ·rintro (h | ⟨h,_⟩)
    ·exact .inr h
    ·exact .inl h
  | some i=>
   obtain⟨u,hu⟩:=A5 h
   have hi:i<L.length:=(List.getElem?_eq_some_iff.1 hu).1
   constructor
   ·intro hp
    obtain⟨j,hj,he⟩:=List.getElem_of_mem hp
    rw[List.getElem_set] at he
    split at he
    ·exact .inl he.symm
    ·rename_i hij
     have hj':j<L.length:=by simpa using hj
     exact .inr ⟨he▸List.getElem_mem hj',fun e=>hij (Fz hn hu (by rw[List.getElem?_eq_getElem hj',he]) e.symm)⟩
   ·rintro (rfl | ⟨hp,hne⟩)
    ·exact List.mem_of_getElem? (List.getElem?_set_self hi)
    ·obtain⟨j,hj,he⟩:=List.getElem_of_mem hp
     have hij:i≠j:=fun e=>by
      subst e
      rw[List.getElem?_eq_getElem hj,he] at hu
      exact hne (by rw[Option.some.inj hu])
     have:(L.set i (k,v))[j]?=some p:=by rw[List.getElem?_set_ne hij,List.getElem?_eq_getElem hj,he]
     exact List.mem_of_getElem? this
 apply Option.ext
 intro x
 by_cases hk:k'=k
 ·subst hk
  rw[if_pos rfl,C8 hnp,hmem]
  constructor
  ·rintro (h | ⟨_,h⟩)
   ·cases h;rfl
   ·exact(h rfl).elim
  ·intro h;cases h;exact .inl rfl
 ·rw[if_neg hk,C8 hnp,hmem,C8 hn]
  constructor
  ·rintro (h | ⟨h,_⟩)
   ·cases h;exact(hk rfl).elim
   ·exact h
  ·intro h;exact .inr ⟨h,hk⟩
def Ed.k(e:Ed):Kk:=(e.a,e.b)
def Ed.r(e:Ed):Kk:=(e.b,e.a)
def A6(l:List Ed)(k:Kk):Nat:=l.countP fun e=>decide (e.k=k)
theorem X6(k:Kk):A6 [] k=0:=rfl
theorem TA(e:Ed)(l:List Ed)(k:Kk):A6 (e::l) k=A6 l k+if e.k=k then 1 else 0:=by unfold A6;rw[List.countP_cons];simp
theorem Qa(l:List Ed)(k:Kk):A6 l k≤l.length:=List.countP_le_length
theorem C9(a b:Int):T.agg [tI a,tI b]=kT (a,b):=rfl
theorem xD(n:Int):T.one? (tI n)=some (tI n):=rfl
theorem qM(n:Int):T.int? .i64 (tI n)=some n:=by simp[tI]
theorem QN{L:Am}{e:Ed}(h1:0≤(lk L e.k).getD 0)(h2:(lk L e.k).getD 0≤1000000):b4 (eM L,()) e=some (eM (put L e.k ((lk L e.k).getD 0+1)),()):=by
 unfold b4 lT
 simp only[aO,C9]
 rw[show ((e.a,e.b):Kk)=e.k from rfl]
 simp only[xC,xD,aL,qM,aE]
 rw[mY (by omega) (by omega)]
 simp only[Pz,aL]
theorem HM:∀(es:List Ed) (L:Am),Nk L→(∀k,0≤(lk L k).getD 0∧(lk L k).getD 0+es.length≤1000000) →
 ∃L',es.foldlM b4 (eM L,())=some (eM L',())∧Nk L'∧(∀k,(lk L' k).getD 0=(lk L k).getD 0+A6 es k)∧∀k,(lk L' k).isSome=true↔(lk L k).isSome=true∨0<A6 es k
 | [],L,hn,_=>⟨L,rfl,hn,fun k=>by simp[X6],fun k=>by simp[X6]⟩
 | e::es,L,hn,hb=>by
  have hbe:=hb e.k
  simp only[List.length_cons] at hb hbe
  rw[List.foldlM_cons,QN hbe.1 (by omega)]
  have hp:=hn.put e.k ((lk L e.k).getD 0+1)
  have hlk:=fun k'=>QM hn e.k k' ((lk L e.k).getD 0+1)
  obtain⟨L',h1,h2,h3,h4⟩:=HM es _ hp (fun k=>by
   rw[hlk]
   split
   ·rename_i hk;subst hk;simp only[Option.getD_some];omega
   ·have:=hb k;omega)
  refine⟨L',h1,h2,fun k=>?_,fun k=>?_⟩
  ·rw[h3,hlk,TA]
   by_cases hk:k=e.k
   ·subst hk;simp only[if_true,Option.getD_some];omega
   ·rw[if_neg hk,if_neg (fun e'=>hk e'.symm)];omega
  ·rw[h4,hlk,TA]
   by_cases hk:k=e.k
   ·subst hk;simp
   ·rw[if_neg hk,if_neg (fun e'=>hk e'.symm)];simp
def Cm(F:Fs)(L:Am):Prop:=Nk L∧(∀k,(lk L k).getD 0=A6 (aG F) k)∧∀k,(lk L k).isSome=true↔0<A6 (aG F) k
theorem TB{F:Fs}(hb:Bd F):∃L,f6 (eS F,())=some (eM L,())∧Cm F L:=by
 have he:=hb.e
 obtain⟨L,h1,h2,h3,h4⟩:=HM (aG F) [] .nil (fun k=>by
  have:(lk [] k).getD 0=0:=rfl
  rw[this];omega)
 refine⟨L,?_,h2,fun k=>by rw[h3];show (0:Int)+_=_;omega,fun k=>by rw[h4];simp[lk,fx]⟩
 unfold f6
 have:=S6 hb (([],()):List T×Unit)
 rw[this]
 show ob ((aG F).foldlM b4 (eM [],())) _=_
 rw[h1]
 rfl
def TC(e:Ed):T:=.agg [tI 30,tI (-1),tI e.f,tI e.l,tI e.i]
def QO(l:List Ed)(e:Ed):Bool:=decide (A6 l e.r<A6 l e.k)
theorem QP{F:Fs}{L:Am}(hL:Cm F L){out:List T}{e:Ed}(ho:out.length≤100000):b5 (eM L,out,()) e=some (eM L,(if QO (aG F) e=true then out++[TC e] else out),()):=by
 unfold b5 lU dG
 simp only[aO,C9,aL]
 rw[show ((e.a,e.b):Kk)=e.k from rfl,show ((e.b,e.a):Kk)=e.r from rfl]
 simp only[xC,xD,aL,qM,hL.2.1,aA]
 have hd:decide (((A6 (aG F) e.r:Nat):Int)<((A6 (aG F) e.k:Nat):Int))=QO (aG F) e:=by
  unfold QO;rw[Bool.eq_iff_iff];simp
 rw[hd]
 cases QO (aG F) e with
 | false=>rfl
 | true=>
  simp only[cond_true,if_true]
  rw[mR (by simp only[List.length_cons,List.length_nil];omega) (by decide)]
  rfl
theorem HN{F:Fs}{L:Am}(hL:Cm F L):∀(es:List Ed) (out:List T),out.length+es.length≤100000→es.foldlM b5 (eM L,out,())=some (eM L,out++(es.filter (QO (aG F))).map TC,())
 | [],out,_=>by simp
 | e::es,out,h=>by
  simp only[List.length_cons] at h
  rw[List.foldlM_cons,QP hL (by omega)]
  show es.foldlM b5 _=_
  rw[HN hL es _ (by split <;> (try simp only[List.length_append,List.length_cons,List.length_nil]) <;> omega),List.filter_cons]
  cases QO (aG F) e <;> simp
def Vo:T:=.agg [tI 1,tI (-1),tI (-1),tI (-1),tI (-1)]
def HO(F:Fs):List T:=if xY F=true then ((aG F).filter (QO (aG F))).map TC else [Vo]
theorem TD{F:Fs}(hb:Bd F):f7 (eS F,())=some (HO F,()):=by
 have he:=hb.e
 unfold f7 HO
 rw[EZ hb]
 simp only[aL]
 cases xY F with
 | false=>rfl
 | true=>
  obtain⟨L,h1,h2⟩:=TB hb
  simp only[Bool.not_true,cond_false,if_true,h1,aL]
  rw[S8 hb (eM L,([]:List T),()),HN h2 (aG F) [] (by simp;omega)]
  simp
end Go.Eng.Tl
namespace Go.Eng
theorem jP{S E:Type}{F:S→Option (S⊕E)}(n:Nat)(s:S):Le (dX F n s) (aC F s):=gB (fun _=>b6) n s
noncomputable def v_shell_loop(n:Nat)(t:((List T)×Unit)):Option (Bool×Unit):=
 (ob (dX fF n (t.1,[],t.1,(Go.Eng.lenL t.1),(0:Int),())) fun q8=>bM q8 (fun t9=>(some (t9.1,()))) fun q10=>bM q10 (fun t11=>(bif (Go.Eng.leI (3:Int) (Go.Eng.lenL t11.1)) then (some ((Go.Eng.leI (Go.Eng.lenL t11.1) (64:Int)),())) else (some (Bool.false,())))) fun q12=>cT q12)
theorem MU(n:Nat)(t:((List T)×Unit)):Le (v_shell_loop n t) (lS t):=by
 unfold v_shell_loop lS
 repeat' with_reducible first | exact b6 | refine aW ?_ ?_ | refine b8 (fun _=>?_) fun _=>?_ | refine eE ?_ fun _=>?_ | refine aX ?_ ?_ | exact jP _ _
noncomputable def pC(n:Nat)(s5:(List T×Int×Int×T×Int×Int×Unit)):Option ((List T×Int×Int×T×Int×Int×Unit)⊕((Bool×Unit)⊕((List T×Int×Int×Unit)⊕Empty))):=
 (bif (Go.Eng.ltI s5.2.2.2.2.2.1 s5.2.2.2.2.1) then (ob (Go.Eng.T.rw? 1 s5.2.2.2.1) fun x6=>(ob (Go.Eng.idxL x6 s5.2.2.2.2.2.1) fun x7=>(ob (Go.Eng.T.sl? 1 (Go.Eng.T.cell x7 0)) fun x8=>(ob (Go.Eng.v_shell_loop n (x8,())) fun x9=>(bif (Bool.not x9.1) then (some (Sum.inr (Sum.inl (Bool.false,())))) else (some (Sum.inl (s5.1,s5.2.1,s5.2.2.1,s5.2.2.2.1,s5.2.2.2.2.1,(Go.Eng.wr Go.IntKind.i64 (Go.Eng.addI s5.2.2.2.2.2.1 (1:Int))),())))))))) else (some (Sum.inr (Sum.inr (Sum.inl (s5.1,s5.2.1,s5.2.2.1,()))))))
theorem E0(n:Nat)(s5:(List T×Int×Int×T×Int×Int×Unit)):Le (pC n s5) (eG s5):=by
 unfold pC eG
 repeat' with_reducible first | exact b6 | refine aW ?_ ?_ | refine b8 (fun _=>?_) fun _=>?_ | refine eE ?_ fun _=>?_ | refine aX ?_ ?_ | exact MU n _
noncomputable def pD(n:Nat)(s0:(List T×Int×Int×Unit)):Option ((List T×Int×Int×Unit)⊕((Bool×Unit)⊕((Unit)⊕Empty))):=
 (bif (Go.Eng.ltI s0.2.2.1 s0.2.1) then (ob (Go.Eng.idxL s0.1 s0.2.2.1) fun x1=>(ob (Go.Eng.T.len? (Go.Eng.T.cell x1 0)) fun x2=>(bif (Go.Eng.ltI x2 (1:Int)) then (some (Sum.inr (Sum.inl (Bool.false,())))) else (ob (Go.Eng.T.len? (Go.Eng.T.cell x1 0)) fun x3=>(bif (Go.Eng.ltI (16:Int) x3) then (some (Sum.inr (Sum.inl (Bool.false,())))) else (ob (Go.Eng.T.len? (Go.Eng.T.cell x1 0)) fun x4=>(ob (dX (pC n) n (s0.1,s0.2.1,s0.2.2.1,(Go.Eng.T.cell x1 0),x4,(0:Int),())) fun q10=>bM q10 (fun t11=>(some (Sum.inr (Sum.inl (t11.1,()))))) fun q12=>bM q12 (fun t13=>(some (Sum.inl (t13.1,t13.2.1,(Go.Eng.wr Go.IntKind.i64 (Go.Eng.addI t13.2.2.1 (1:Int))),())))) fun q14=>cT q14))))))) else (some (Sum.inr (Sum.inr (Sum.inl ())))))
theorem E3(n:Nat)(s0:(List T×Int×Int×Unit)):Le (pD n s0) (eH s0):=by
 unfold pD eH
 repeat' with_reducible first | exact b6 | refine aW ?_ ?_ | refine b8 (fun _=>?_) fun _=>?_ | refine eE ?_ fun _=>?_ | refine aX ?_ ?_ | exact gB (E0 n) _ _
noncomputable def v_shell_Valid(n:Nat)(t:((List T)×Unit)):Option (Bool×Unit):=
 (bif (Go.Eng.ltI (256:Int) (Go.Eng.lenL t.1)) then (some (Bool.false,())) else (ob (dX (pD n) n (t.1,(Go.Eng.lenL t.1),(0:Int),())) fun q15=>bM q15 (fun t16=>(some (t16.1,()))) fun q17=>bM q17 (fun t18=>(some (Bool.true,()))) fun q19=>cT q19))
theorem oG(n:Nat)(t:((List T)×Unit)):Le (v_shell_Valid n t) (c7 t):=by
 unfold v_shell_Valid c7
 repeat' with_reducible first | exact b6 | refine aW ?_ ?_ | refine b8 (fun _=>?_) fun _=>?_ | refine eE ?_ fun _=>?_ | refine aX ?_ ?_ | exact gB (E3 n) _ _
noncomputable def j9(n:Nat)(s3:(Unit×Int×List T×Int×Int×T×Int×Int×List T×Unit)):Option ((Unit×Int×List T×Int×Int×T×Int×Int×List T×Unit)⊕((Unit×List T×Int×Int×List T×Unit)⊕Empty)):=
 (bif (Go.Eng.ltI s3.2.2.2.2.2.2.2.1 s3.2.2.2.2.2.2.1) then (ob (Go.Eng.T.rw? 1 s3.2.2.2.2.2.1) fun x4=>(ob (Go.Eng.idxL x4 s3.2.2.2.2.2.2.2.1) fun x5=>(ob (Go.Eng.T.len? (Go.Eng.T.cell x5 0)) fun x6=>(ob (dX bR n ((),s3.2.1,s3.2.2.2.2.2.2.2.1,(Go.Eng.T.cell x5 0),s3.2.2.1,s3.2.2.2.1,s3.2.2.2.2.1,s3.2.2.2.2.2.1,s3.2.2.2.2.2.2.1,s3.2.2.2.2.2.2.2.1,(Go.Eng.T.cell x5 0),x6,(0:Int),s3.2.2.2.2.2.2.2.2.1,())) fun q17=>bM q17 (fun t18=>(some (Sum.inl ((),t18.2.1,t18.2.2.1,t18.2.2.2.1,t18.2.2.2.2.1,t18.2.2.2.2.2.1,t18.2.2.2.2.2.2.1,(Go.Eng.wr Go.IntKind.i64 (Go.Eng.addI t18.2.2.2.2.2.2.2.1 (1:Int))),t18.2.2.2.2.2.2.2.2.1,())))) fun q19=>cT q19)))) else (some (Sum.inr (Sum.inl ((),s3.2.2.1,s3.2.2.2.1,s3.2.2.2.2.1,s3.2.2.2.2.2.2.2.2.1,())))))
theorem vQ(n:Nat)(s3:(Unit×Int×List T×Int×Int×T×Int×Int×List T×Unit)):Le (j9 n s3) (bD s3):=by
 unfold j9 bD
 repeat' with_reducible first | exact b6 | refine aW ?_ ?_ | refine b8 (fun _=>?_) fun _=>?_ | refine eE ?_ fun _=>?_ | refine aX ?_ ?_ | exact jP _ _
noncomputable def kA(n:Nat)(s0:(Unit×List T×Int×Int×List T×Unit)):Option ((Unit×List T×Int×Int×List T×Unit)⊕((List T×Unit)⊕Empty)):=
 (bif (Go.Eng.ltI s0.2.2.2.1 s0.2.2.1) then (ob (Go.Eng.idxL s0.2.1 s0.2.2.2.1) fun x1=>(ob (Go.Eng.T.len? (Go.Eng.T.cell x1 0)) fun x2=>(ob (dX (j9 n) n ((),s0.2.2.2.1,s0.2.1,s0.2.2.1,s0.2.2.2.1,(Go.Eng.T.cell x1 0),x2,(0:Int),s0.2.2.2.2.1,())) fun q20=>bM q20 (fun t21=>(some (Sum.inl ((),t21.2.1,t21.2.2.1,(Go.Eng.wr Go.IntKind.i64 (Go.Eng.addI t21.2.2.2.1 (1:Int))),t21.2.2.2.2.1,())))) fun q22=>cT q22))) else (some (Sum.inr (Sum.inl (s0.2.2.2.2.1,())))))
theorem vR(n:Nat)(s0:(Unit×List T×Int×Int×List T×Unit)):Le (kA n s0) (bE s0):=by
 unfold kA bE
 repeat' with_reducible first | exact b6 | refine aW ?_ ?_ | refine b8 (fun _=>?_) fun _=>?_ | refine eE ?_ fun _=>?_ | refine aX ?_ ?_ | exact gB (vQ n) _ _
noncomputable def v_shell_each_counts(n:Nat)(t:((List T)×Unit×(List T)×Unit)):Option ((List T)×Unit):=
 (ob (dX (kA n) n ((),t.1,(Go.Eng.lenL t.1),(0:Int),t.2.2.1,())) fun q23=>bM q23 (fun t24=>(some (t24.1,()))) fun q25=>cT q25)
theorem AB(n:Nat)(t:((List T)×Unit×(List T)×Unit)):Le (v_shell_each_counts n t) (eW t):=by
 unfold v_shell_each_counts eW
 repeat' with_reducible first | exact b6 | refine aW ?_ ?_ | refine b8 (fun _=>?_) fun _=>?_ | refine eE ?_ fun _=>?_ | refine aX ?_ ?_ | exact gB (vR n) _ _
noncomputable def v_shell_counts(n:Nat)(t:((List T)×Unit)):Option ((List T)×Unit):=
 (ob (Go.Eng.v_shell_each_counts n (t.1,(),[],())) fun x0=>(some (x0.1,())))
theorem xT(n:Nat)(t:((List T)×Unit)):Le (v_shell_counts n t) (f6 t):=by
 unfold v_shell_counts f6
 repeat' with_reducible first | exact b6 | refine aW ?_ ?_ | refine b8 (fun _=>?_) fun _=>?_ | refine eE ?_ fun _=>?_ | refine aX ?_ ?_ | exact AB n _
noncomputable def kB(n:Nat)(s3:(Unit×Int×List T×Int×Int×T×Int×Int×List T×List T×Unit)):Option ((Unit×Int×List T×Int×Int×T×Int×Int×List T×List T×Unit)⊕((Unit×List T×Int×Int×List T×List T×Unit)⊕Empty)):=
 (bif (Go.Eng.ltI s3.2.2.2.2.2.2.2.1 s3.2.2.2.2.2.2.1) then (ob (Go.Eng.T.rw? 1 s3.2.2.2.2.2.1) fun x4=>(ob (Go.Eng.idxL x4 s3.2.2.2.2.2.2.2.1) fun x5=>(ob (Go.Eng.T.len? (Go.Eng.T.cell x5 0)) fun x6=>(ob (dX bS n ((),s3.2.1,s3.2.2.2.2.2.2.2.1,(Go.Eng.T.cell x5 0),s3.2.2.1,s3.2.2.2.1,s3.2.2.2.2.1,s3.2.2.2.2.2.1,s3.2.2.2.2.2.2.1,s3.2.2.2.2.2.2.2.1,(Go.Eng.T.cell x5 0),x6,(0:Int),s3.2.2.2.2.2.2.2.2.1,s3.2.2.2.2.2.2.2.2.2.1,())) fun q17=>bM q17 (fun t18=>(some (Sum.inl ((),t18.2.1,t18.2.2.1,t18.2.2.2.1,t18.2.2.2.2.1,t18.2.2.2.2.2.1,t18.2.2.2.2.2.2.1,(Go.Eng.wr Go.IntKind.i64 (Go.Eng.addI t18.2.2.2.2.2.2.2.1 (1:Int))),t18.2.2.2.2.2.2.2.2.1,t18.2.2.2.2.2.2.2.2.2.1,())))) fun q19=>cT q19)))) else (some (Sum.inr (Sum.inl ((),s3.2.2.1,s3.2.2.2.1,s3.2.2.2.2.1,s3.2.2.2.2.2.2.2.2.1,s3.2.2.2.2.2.2.2.2.2.1,())))))
theorem vS(n:Nat)(s3:(Unit×Int×List T×Int×Int×T×Int×Int×List T×List T×Unit)):Le (kB n s3) (bF s3):=by
 unfold kB bF
 repeat' with_reducible first | exact b6 | refine aW ?_ ?_ | refine b8 (fun _=>?_) fun _=>?_ | refine eE ?_ fun _=>?_ | refine aX ?_ ?_ | exact jP _ _
noncomputable def kC(n:Nat)(s0:(Unit×List T×Int×Int×List T×List T×Unit)):Option ((Unit×List T×Int×Int×List T×List T×Unit)⊕((List T×List T×Unit)⊕Empty)):=
 (bif (Go.Eng.ltI s0.2.2.2.1 s0.2.2.1) then (ob (Go.Eng.idxL s0.2.1 s0.2.2.2.1) fun x1=>(ob (Go.Eng.T.len? (Go.Eng.T.cell x1 0)) fun x2=>(ob (dX (kB n) n ((),s0.2.2.2.1,s0.2.1,s0.2.2.1,s0.2.2.2.1,(Go.Eng.T.cell x1 0),x2,(0:Int),s0.2.2.2.2.1,s0.2.2.2.2.2.1,())) fun q20=>bM q20 (fun t21=>(some (Sum.inl ((),t21.2.1,t21.2.2.1,(Go.Eng.wr Go.IntKind.i64 (Go.Eng.addI t21.2.2.2.1 (1:Int))),t21.2.2.2.2.1,t21.2.2.2.2.2.1,())))) fun q22=>cT q22))) else (some (Sum.inr (Sum.inl (s0.2.2.2.2.1,s0.2.2.2.2.2.1,())))))
theorem vT(n:Nat)(s0:(Unit×List T×Int×Int×List T×List T×Unit)):Le (kC n s0) (bG s0):=by
 unfold kC bG
 repeat' with_reducible first | exact b6 | refine aW ?_ ?_ | refine b8 (fun _=>?_) fun _=>?_ | refine eE ?_ fun _=>?_ | refine aX ?_ ?_ | exact gB (vS n) _ _
noncomputable def v_shell_each_Closed(n:Nat)(t:((List T)×Unit×(List T)×(List T)×Unit)):Option ((List T)×(List T)×Unit):=
 (ob (dX (kC n) n ((),t.1,(Go.Eng.lenL t.1),(0:Int),t.2.2.1,t.2.2.2.1,())) fun q23=>bM q23 (fun t24=>(some (t24.1,t24.2.1,()))) fun q25=>cT q25)
theorem AC(n:Nat)(t:((List T)×Unit×(List T)×(List T)×Unit)):Le (v_shell_each_Closed n t) (eX t):=by
 unfold v_shell_each_Closed eX
 repeat' with_reducible first | exact b6 | refine aW ?_ ?_ | refine b8 (fun _=>?_) fun _=>?_ | refine eE ?_ fun _=>?_ | refine aX ?_ ?_ | exact gB (vT n) _ _
noncomputable def sS(n:Nat)(t:((List T)×Unit)):Option ((List T)×Unit):=
 (ob (Go.Eng.v_shell_Valid n (t.1,())) fun x0=>(bif (Bool.not x0.1) then (some ([(Go.Eng.T.agg [(Go.Eng.T.v (Go.Value.int Go.IntKind.i64 (1:Int))),(Go.Eng.T.v (Go.Value.int Go.IntKind.i64 (-1:Int))),(Go.Eng.T.v (Go.Value.int Go.IntKind.i64 (-1:Int))),(Go.Eng.T.v (Go.Value.int Go.IntKind.i64 (-1:Int))),(Go.Eng.T.v (Go.Value.int Go.IntKind.i64 (-1:Int)))])],())) else (ob (Go.Eng.v_shell_counts n (t.1,())) fun x1=>(ob (Go.Eng.v_shell_each_Closed n (t.1,(),x1.1,[],())) fun x2=>(some (x2.2.1,()))))))
theorem IB(n:Nat)(t:((List T)×Unit)):Le (sS n t) (f7 t):=by
 unfold sS f7
 repeat' with_reducible first | exact b6 | refine aW ?_ ?_ | refine b8 (fun _=>?_) fun _=>?_ | refine eE ?_ fun _=>?_ | refine aX ?_ ?_ | exact oG n _ | exact xT n _ | exact AC n _
def Kn(t:T):Option Int:=ob (T.parts? 2 (kQ t)) fun _=>ob (T.one? (rU t)) fun x=>T.int? .i64 x
def sT(t:T):Bool:=match Kn t with
 | some v=>!ltI 1 v
 | none=>false
theorem Bu(t:T)(l:List T){v:Int}(h:Kn t=some v):(ob (T.parts? 2 (kQ t)) fun _=>ob (T.one? (rU t)) fun x=>ob (T.int? .i64 x) fun x7=>(bif ltI 1 x7 then some (Sum.inr (Sum.inr (Sum.inl (Bool.false,())))) else some (Sum.inl (l,())):Option ((List T×Unit)⊕(Unit⊕((Bool×Unit)⊕Empty))))) =
 if sT t=true then some (Sum.inl (l,())) else some (Sum.inr (Sum.inr (Sum.inl (Bool.false,())))):=by
 have h0:=h
 unfold Kn at h
 obtain⟨a,h1,h2⟩:=aD h
 obtain⟨b,h3,h4⟩:=aD h2
 have hl:sT t=!ltI 1 v:=by unfold sT;rw[h0]
 rw[h1]
 show ob (T.one? (rU t)) _=_
 rw[h3]
 show ob (T.int? .i64 b) _=_
 rw[h4,hl]
 show (bif ltI 1 v then _ else _)=_
 cases ltI 1 v <;> rfl
theorem X7{R:Type}(K:(Unit⊕((Bool×Unit)⊕Empty))→Option R){rt rf:R}(hKt:K (Sum.inl ())=some rt)(hKf:K (Sum.inr (Sum.inl (Bool.false,())))=some rf):
 ∀(n:Nat) (l:List T),l.length=n→(∀t∈l,∃v,Kn t=some v)→JR dH K (l,())=some (if l.all sT=true then rt else rf)
 | 0,l,hn,_=>by
  have:l=[]:=List.eq_nil_of_length_eq_zero hn
  subst this
  refine NC (by unfold dH PF;simp) fun o ho=>?_
  have ho':o=some (Sum.inr (Sum.inl ())):=by
   unfold dH PF at ho
   simpa using ho
  exact .inr ⟨_,ho',by simpa using hKt⟩
 | n+1,l,hn,hall=>by
  have hne:l≠[]:=fun e=>by subst e;simp at hn
  have hF:∀o∈dH (l,()),∃i,i<l.length∧o=if sT (l.getD i default)=true then some (Sum.inl (l.eraseIdx i,())) else some (Sum.inr (Sum.inr (Sum.inl (Bool.false,())))):=by
   intro o ho
   unfold dH PF at ho
   dsimp only at ho
   split at ho
   ·exact(hne rfl).elim
   ·obtain⟨i,hi,rfl⟩:=List.mem_map.1 ho
    have hi:=List.mem_range.1 hi
    have hm:l.getD i default∈l:=by
     rw[List.getD_eq_getElem?_getD,List.getElem?_eq_getElem hi]
     exact List.getElem_mem hi
    obtain⟨v,hv⟩:=hall _ hm
    exact⟨i,hi,Bu _ _ hv⟩
  refine NC (fun e=>?_) fun o ho=>?_
  ·unfold dH PF at e
   dsimp only at e
   split at e
   ·exact hne rfl
   ·have:=congrArg List.length e
    simp at this
    exact hne this
  ·obtain⟨i,hi,rfl⟩:=hF o ho
   have hg:l.getD i default=l[i]:=by rw[List.getD_eq_getElem?_getD,List.getElem?_eq_getElem hi];rfl
   have hsplit:l.all sT=(sT l[i]&&(l.eraseIdx i).all sT):=by
    rw[List.eraseIdx_eq_take_drop_succ]
    have e1:l=l.take i++l[i]::l.drop (i+1):=by rw[←List.drop_eq_getElem_cons hi,List.take_append_drop]
    conv=>lhs;rw[e1]
    simp only[List.all_append,List.all_cons]
    cases sT l[i] <;> simp
   rw[hg]
   by_cases h1:sT l[i]=true
   ·rw[if_pos h1]
    refine .inl ⟨_,rfl,?_⟩
    rw[X7 K hKt hKf n (l.eraseIdx i) (by rw[List.length_eraseIdx,if_pos hi];omega) (fun t ht=>hall t (List.mem_of_mem_eraseIdx ht)),hsplit,h1,Bool.true_and]
   ·rw[if_neg h1]
    refine .inr ⟨_,rfl,?_⟩
    rw[hKf,hsplit,if_neg (by simp[h1])]
theorem LD{f:List T}{c:List T}{n:List T}(h1:f7 (f,())=some (c,()))(h2:f6 (f,())=some (n,()))(h3:∀t∈n,∃v,Kn t=some v):
 fL (f,())=some (c.isEmpty&&n.all sT,()):=by
 unfold fL
 rw[h1]
 show (bif ltI 0 (lenL c) then _ else _)=_
 cases c with
 | cons a c=>
  have:ltI 0 (lenL (a::c))=true:=by simp <;> omega
  rw[this];rfl
 | nil=>
  have:ltI 0 (lenL ([]:List T))=false:=by simp
  rw[this,h2]
  show JR _ _ _=_
  rw[X7 _ (rt:=(true,())) (rf:=(false,())) rfl rfl n.length n rfl h3]
  cases n.all sT <;> rfl
noncomputable def v_shell_Manifold(n:Nat)(t:((List T)×Unit)):Option (Bool×Unit):=
 ob (sS n (t.1,())) fun x0=>ob (v_shell_counts n (t.1,())) fun x1=>bif x1.1.all (fun t=>(Kn t).isSome) then some (x0.1.isEmpty&&x1.1.all sT,()) else none
theorem E4(n:Nat)(t:((List T)×Unit)):Le (v_shell_Manifold n t) (fL t):=by
 intro r hr
 unfold v_shell_Manifold at hr
 obtain⟨⟨c,⟨⟩⟩,h1,hr⟩:=aD hr
 obtain⟨⟨m,⟨⟩⟩,h2,hr⟩:=aD hr
 dsimp only at hr
 cases hb:m.all (fun t=>(Kn t).isSome) with
 | false=>rw[hb] at hr;cases hr
 | true=>
  rw[hb] at hr
  cases hr
  refine LD (IB n _ _ h1) (xT n _ _ h2) fun t ht=>?_
  exact Option.isSome_iff_exists.1 (List.all_eq_true.1 hb t ht)
end Go.Eng
namespace Go.Eng.Tl
open Go.Eng
def uF(e:Ed):T:=.agg [tI e.a,tI e.b,tI e.f,tI e.l,tI e.i]
def MV(out:List T)(e:Ed):Option (List T):=room out [uF e] 40
def Qb(F:Fs)(f l i:Nat)(out:List T):List T×List T×Int×Int×T×Int×Unit:=(eS F,out,(f:Int),(l:Int),eL ((F.getD f []).getD l []),(i:Int),())
def Ga(F:Fs)(f l:Nat)(out:List T):List T×List T×Int×Int×Unit:=(eS F,out,(f:Int),(l:Int),())
def Gb(F:Fs)(f:Nat)(out:List T):List T×List T×Int×Unit:=(eS F,out,(f:Int),())
theorem Wp{F:Fs}(hb:Bd F){f l:Nat}(hf:f<F.length)(hl:l<(F.getD f []).length)(i:Nat)(out:List T)(hi:i<((F.getD f []).getD l []).length):
 fP (Qb F f l i out)=(MV out (uK f l ((F.getD f []).getD l []) i)).map fun o=>.inl (Qb F f l (i+1) o):=by
 have hx:=hb.x _ (bA hf []) _ (bA hl [])
 have hmod:(i+1)%((F.getD f []).getD l []).length<((F.getD f []).getD l []).length:=Nat.mod_lt _ (by omega)
 unfold fP Qb
 simp only[l8,aL,aA,decide_eq_true (show (i:Int)<(((F.getD f []).getD l []).length:Int) by omega),cond_true,HK,kU hi,EB (show ((((F.getD f []).getD l []).length:Nat):Int)≠0 by omega),aE,EW hi hx,kU hmod,QJ,aO]
 show ob (MV out (uK f l ((F.getD f []).getD l []) i)) _=_
 cases MV out (uK f l ((F.getD f []).getD l []) i) with
 | none=>rfl
 | some q=>simp only[aL,Option.map_some,wk (show i≤1000000 by omega)]
theorem Wq{F:Fs}{f l:Nat}(out:List T):fP (Qb F f l ((F.getD f []).getD l []).length out)=some (.inr (.inl (Ga F f l out))):=by
 unfold fP Qb Ga
 simp only[l8,aL,aA,decide_eq_false (Int.lt_irrefl _),cond_false]
theorem Wr{F:Fs}(hb:Bd F){f:Nat}(hf:f<F.length)(l:Nat)(out:List T)(hl:l<(F.getD f []).length):
 fQ (Ga F f l out)=((uM f (F.getD f []) l).foldlM MV out).map fun o=>.inl (Ga F f (l+1) o):=by
 have hc:=hb.l _ (bA hf [])
 have hlp:=d9 (F:=fP) (Qb F f l) (fun o=>.inl (Ga F f l o)) (fun i o=>MV o (uK f l ((F.getD f []).getD l []) i)) (n:=((F.getD f []).getD l []).length) (fun i o hi=>Wp hb hf hl i o hi) (fun o=>Wq o) out
 have hfold:=fE MV (fun i o=>MV o (uK f l ((F.getD f []).getD l []) i)) (fun i=>[uK f l ((F.getD f []).getD l []) i]) (fun i o=>by simp[List.foldlM_cons]) ((F.getD f []).getD l []).length 0 out
 have hd:(List.range' 0 ((F.getD f []).getD l []).length).flatMap (fun i=>[uK f l ((F.getD f []).getD l []) i])=uM f (F.getD f []) l:=by
  unfold uM;rw[List.range_eq_range',List.map_eq_flatMap]
 rw[hd] at hfold
 unfold fQ Ga
 simp only[mZ hf,j0,sO,aL,aA,decide_eq_true (show (l:Int)<((F.getD f []).length:Int) by omega),cond_true,HL,wY hl,rF]
 show ob (aC fP (Qb F f l 0 out)) _=_
 rw[hlp,hfold]
 cases(uM f (F.getD f []) l).foldlM MV out with
 | none=>rfl
 | some q=>simp only[Option.map_some,aL,aI,Ga,aE,wk (show l≤1000000 by omega)]
theorem Ws{F:Fs}{f:Nat}(hf:f<F.length)(out:List T):fQ (Ga F f (F.getD f []).length out)=some (.inr (.inl (Gb F f out))):=by
 unfold fQ Ga Gb
 simp only[mZ hf,j0,sO,aL,aA,decide_eq_false (Int.lt_irrefl _),cond_false]
theorem Wt{F:Fs}(hb:Bd F)(f:Nat)(out:List T)(hf:f<F.length):
 fS (Gb F f out)=((z8 F f).foldlM MV out).map fun o=>.inl (Gb F (f+1) o):=by
 have hn:=hb.n
 have hlp:=d9 (F:=fQ) (Ga F f) (fun o=>.inl (Gb F f o)) (fun l o=>(uM f (F.getD f []) l).foldlM MV o) (n:=(F.getD f []).length) (fun l o hl=>Wr hb hf l o hl) (fun o=>Ws hf o) out
 have hfold:=fE MV (fun l o=>(uM f (F.getD f []) l).foldlM MV o) (fun l=>uM f (F.getD f []) l) (fun l o=>rfl) (F.getD f []).length 0 out
 rw[←List.range_eq_range'] at hfold
 unfold fS Gb
 simp only[aA,dR,decide_eq_true (show (f:Int)<(F.length:Int) by omega),cond_true]
 show ob (aC fQ (Ga F f 0 out)) _=_
 rw[hlp,hfold]
 show ob (Option.map _ ((z8 F f).foldlM MV out)) _=_
 cases(z8 F f).foldlM MV out with
 | none=>rfl
 | some q=>simp only[Option.map_some,aL,aI,Gb,aE,wk (show f≤1000000 by omega)]
theorem Wu{F:Fs}(out:List T):fS (Gb F F.length out)=some (.inr (.inl (out,()))):=by
 unfold fS Gb
 simp only[aA,dR,decide_eq_false (Int.lt_irrefl _),cond_false]
theorem TE:∀(es:List Ed) (out:List T),out.length+es.length≤100000→es.foldlM MV out=some (out++es.map uF)
 | [],out,_=>by simp
 | e::es,out,h=>by
  simp only[List.length_cons] at h
  have h1:MV out e=some (out++[uF e]):=mR (by simp only[List.length_cons,List.length_nil];omega) (by decide)
  rw[List.foldlM_cons,h1]
  show es.foldlM MV _=_
  rw[TE es _ (by simp only[List.length_append,List.length_cons,List.length_nil];omega)]
  simp
theorem IM{F:Fs}(hb:Bd F):iB (eS F,())=some ((aG F).map uF,()):=by
 have he:=hb.e
 have hlp:=d9 (F:=fS) (Gb F) (fun o=>.inl (o,())) (fun f o=>(z8 F f).foldlM MV o) (n:=F.length) (fun f o hf=>Wt hb f o hf) (fun o=>Wu o) []
 have hfold:=fE MV (fun f o=>(z8 F f).foldlM MV o) (z8 F) (fun f o=>rfl) F.length 0 []
 rw[←List.range_eq_range'] at hfold
 unfold iB
 show ob (aC fS (Gb F 0 [])) _=_
 rw[hlp,hfold]
 show ob (Option.map _ ((aG F).foldlM MV [])) _=_
 rw[TE (aG F) [] (by simp;omega)]
 rfl
theorem QQ{es:List Ed}{i:Nat}(h:i<es.length):idxL (es.map uF) (i:Int)=some (uF es[i]):=by rw[mH,List.getElem?_map,List.getElem?_eq_getElem h];rfl
theorem lE(es:List Ed):lenL (es.map uF)=(es.length:Int):=by rw[cH,List.length_map]
theorem DA(e:Ed):T.cell (uF e) 0=tI e.a∧T.cell (uF e) 1=tI e.b∧T.cell (uF e) 2=tI e.f∧T.cell (uF e) 3=tI e.l∧T.cell (uF e) 4=tI e.i:=⟨rfl,rfl,rfl,rfl,rfl⟩
def Qc(es:List Ed)(a b:Int)(i:Nat):List T×Int×Int×Int×Int×Unit:=(es.map uF,a,b,((A6 (es.take i) (a,b):Nat):Int),(i:Int),())
theorem Uc{es:List Ed}(he:es.length≤1000){a b:Int}{i:Nat}(hi:i<es.length):iI (Qc es a b i)=some (.inl (Qc es a b (i+1))):=by
 have ht:A6 (es.take (i+1)) (a,b)=A6 (es.take i) (a,b)+if es[i].k=(a,b) then 1 else 0:=by
  rw[List.take_add_one,List.getElem?_eq_getElem hi]
  unfold A6
  rw[List.countP_append]
  simp
 have hc:=Qa (es.take i) (a,b)
 rw[List.length_take] at hc
 unfold iI Qc
 simp only[aA,lE,decide_eq_true (show (i:Int)<(es.length:Int) by omega),cond_true,QQ hi,aL,(DA _).1,(DA _).2.1,qM,aP,aE,wk (show i≤1000000 by omega),ht]
 by_cases h1:es[i].a=a
 ·rw[decide_eq_true h1]
  simp only[cond_true]
  by_cases h2:es[i].b=b
  ·rw[decide_eq_true h2,if_pos (show es[i].k=(a,b) by unfold Ed.k;rw[h1,h2])]
   simp only[cond_true,aL,aI,wk (show A6 (es.take i) (a,b)≤1000000 by omega),wk (show i≤1000000 by omega)]
  ·rw[decide_eq_false h2,if_neg (show ¬es[i].k=(a,b) from fun e=>h2 (congrArg Prod.snd e))]
   simp only[cond_false,aL,aI,Nat.add_zero,wk (show i≤1000000 by omega)]
 ·rw[decide_eq_false h1,if_neg (show ¬es[i].k=(a,b) from fun e=>h1 (congrArg Prod.fst e))]
  simp only[cond_false,aL,aI,Nat.add_zero,wk (show i≤1000000 by omega)]
theorem X8{es:List Ed}(he:es.length≤1000)(a b:Int):kN (es.map uF,a,b,())=some (((A6 es (a,b):Nat):Int),()):=by
 have hl:=aH (F:=iI) es.length (Qc es a b) (fun i hi=>Uc he hi)
 have ho:iI (Qc es a b es.length)=some (.inr (.inl (((A6 es (a,b):Nat):Int),()))):=by
  unfold iI Qc
  simp only[aA,lE,decide_eq_false (Int.lt_irrefl _),cond_false,List.take_length]
 unfold kN
 have e0:Qc es a b 0=(es.map uF,a,b,(0:Int),(0:Int),()):=rfl
 rw[←e0,hl,aF ho]
 rfl
def rC(es:List Ed)(i:Nat):List T×List T×Int×Unit:=(((es.take i).filter (QO es)).map TC,es.map uF,(i:Int),())
theorem Qd{es:List Ed}(he:es.length≤1000){i:Nat}(hi:i<es.length):gJ (rC es i)=some (.inl (rC es (i+1))):=by
 have ht:(es.take (i+1)).filter (QO es)=(es.take i).filter (QO es)++if QO es es[i]=true then [es[i]] else []:=by
  rw[List.take_add_one,List.getElem?_eq_getElem hi,List.filter_append]
  cases h:QO es es[i] <;> simp[h]
 have hl:((es.take i).filter (QO es)).length≤i:=by
  have:=List.length_filter_le (QO es) (es.take i)
  rw[List.length_take] at this;omega
 unfold gJ rC
 simp only[aA,lE,decide_eq_true (show (i:Int)<(es.length:Int) by omega),cond_true,QQ hi,aL,(DA _).1,(DA _).2.1,(DA _).2.2.1,(DA _).2.2.2.1,(DA _).2.2.2.2,qM,X8 he,aE,wk (show i≤1000000 by omega),ht]
 have hd:decide (((A6 es (es[i].b,es[i].a):Nat):Int)<((A6 es (es[i].a,es[i].b):Nat):Int))=QO es es[i]:=by
  unfold QO Ed.r Ed.k;rw[Bool.eq_iff_iff];simp
 rw[hd]
 cases h:QO es es[i] with
 | false=>simp only[cond_false,aL,aI,wk (show i≤1000000 by omega),Bool.false_eq_true,if_false,List.append_nil]
 | true=>
  simp only[cond_true,if_true]
  rw[mR (by simp only[List.length_map,List.length_cons,List.length_nil];omega) (by decide)]
  simp only[aL,aI,List.map_append,wk (show i≤1000000 by omega)]
  rfl
theorem OD{F:Fs}(hb:Bd F):lC (eS F,())=some (HO F,()):=by
 have he:=hb.e
 unfold lC HO
 rw[AA hb]
 simp only[aL]
 cases xY F with
 | false=>rfl
 | true=>
  have hl:=aH (F:=gJ) (aG F).length (rC (aG F)) (fun i hi=>Qd he hi)
  have ho:gJ (rC (aG F) (aG F).length)=some (.inr (.inl (((aG F).filter (QO (aG F))).map TC,()))):=by
   unfold gJ rC
   simp only[aA,lE,decide_eq_false (Int.lt_irrefl _),cond_false,List.take_length]
  simp only[Bool.not_true,cond_false,if_true,IM hb,aL]
  have e0:rC (aG F) 0=([],(aG F).map uF,(0:Int),()):=rfl
  rw[←e0,hl,aF ho]
  rfl
def Sk(F:Fs):Bool:=(HO F).isEmpty&&(List.range (aG F).length).all fun i=>decide (A6 (aG F) ((aG F).getD i ⟨0,0,0,0,0⟩).k≤1)
theorem Qe{F:Fs}(h:HO F=[]):xY F=true:=by
 unfold HO at h
 cases ho:xY F with
 | true=>rfl
 | false=>rw[ho] at h;cases h
theorem Gc(p:Kk×Int):Kn (Sj p)=some p.2:=by unfold Kn Sj kT;simp[kQ,rU,T.parts?,tI,T.one?,ob]
theorem Nf{F:Fs}(hb:Bd F):fL (eS F,())=some (Sk F,()):=by
 obtain⟨L,h1,h2⟩:=TB hb
 rw[LD (TD hb) h1 (fun t ht=>by
  obtain⟨p,_,rfl⟩:=List.mem_map.1 ht
  exact⟨_,Gc p⟩)]
 congr 3
 rw[Bool.eq_iff_iff,List.all_eq_true,List.all_eq_true]
 have hle:∀p:Kk×Int,sT (Sj p)=true↔p.2≤1:=fun p=>by
  unfold sT;rw[Gc];simp
 constructor
 ·intro h i hi
  have hi:=List.mem_range.1 hi
  have hm:(aG F).getD i ⟨0,0,0,0,0⟩∈aG F:=bA hi _
  have hpos:0<A6 (aG F) ((aG F).getD i ⟨0,0,0,0,0⟩).k:=List.countP_pos_iff.2 ⟨_,hm,by simp⟩
  have hs:=(h2.2.2 _).2 hpos
  obtain⟨v,hv⟩:=Option.isSome_iff_exists.1 hs
  have hmem:=(C8 h2.1).1 hv
  have h3:=(hle _).1 (h _ (List.mem_map.2 ⟨_,hmem,rfl⟩))
  have h4:=h2.2.1 ((aG F).getD i ⟨0,0,0,0,0⟩).k
  rw[hv] at h4
  simp only[Option.getD_some] at h4 h3
  exact decide_eq_true (by omega)
 ·intro h t ht
  obtain⟨p,hp,rfl⟩:=List.mem_map.1 ht
  rw[hle]
  have hv:=(C8 h2.1).2 (show (p.1,p.2)∈L from hp)
  have hpos:=(h2.2.2 p.1).1 (by rw[hv];rfl)
  obtain⟨e,he,hk⟩:=List.countP_pos_iff.1 hpos
  obtain⟨i,hi,hei⟩:=List.getElem_of_mem he
  have h3:=of_decide_eq_true (h i (List.mem_range.2 hi))
  rw[List.getD_eq_getElem?_getD,List.getElem?_eq_getElem hi] at h3
  simp only[Option.getD_some,hei] at h3
  have hk':e.k=p.1:=of_decide_eq_true hk
  rw[hk'] at h3
  have h4:=h2.2.1 p.1
  rw[hv] at h4
  simp only[Option.getD_some] at h4
  omega
def rM(es:List Ed)(i:Nat):List T×Int×Unit:=(es.map uF,(i:Int),())
theorem Gd{F:Fs}(hb:Bd F):jN (eS F,())=some (Sk F,()):=by
 have he:=hb.e
 have hl:=gX (F:=gS) (aG F).length (rM (aG F)) (fun i=>decide (A6 (aG F) ((aG F).getD i ⟨0,0,0,0,0⟩).k≤1)) (.inl (false,())) (.inr (.inl ())) (fun i hi _=>by
  unfold gS rM
  simp only[aA,lE,decide_eq_true (show (i:Int)<((aG F).length:Int) by omega),cond_true,QQ hi,aL,(DA _).1,(DA _).2.1,qM,X8 he,aE,wk (show i≤1000000 by omega)]
  rw[List.getD_eq_getElem?_getD,List.getElem?_eq_getElem hi]
  simp only[Option.getD_some]
  show (bif decide ((1:Int)<((A6 (aG F) (aG F)[i].k:Nat):Int)) then _ else _)=_
  by_cases h:A6 (aG F) (aG F)[i].k≤1
  ·rw[decide_eq_true h,decide_eq_false (by omega)];rfl
  ·rw[decide_eq_false h,decide_eq_true (by omega)];rfl) (fun _=>by
  unfold gS rM
  simp only[aA,lE,decide_eq_false (Int.lt_irrefl _),cond_false])
 unfold jN Sk
 rw[OD hb]
 simp only[aL,aA]
 cases hc:HO F with
 | cons a c=>
  have:decide ((0:Int)<lenL (a::c))=true:=by simp <;> omega
  rw[this];rfl
 | nil=>
  have:decide ((0:Int)<lenL ([]:List T))=false:=by simp
  rw[this]
  simp only[cond_false,IM hb,aL]
  show ob (aC gS (rM (aG F) 0)) _=_
  rw[hl]
  cases(List.range (aG F).length).all fun i=>decide (A6 (aG F) ((aG F).getD i ⟨0,0,0,0,0⟩).k≤1) <;> rfl
section
variable (N:Nat) (r:Nat→Nat→Bool)
inductive Conn:Nat→Nat→Prop
 | refl {i:Nat} (h:i<N):Conn i i
 | step {i j k:Nat} (h:Conn i j) (hr:r j k=true) (hk:k<N):Conn i k
end
section
variable {N:Nat} {r:Nat→Nat→Bool}
theorem Conn.lt{i j:Nat}(h:Conn N r i j):i<N∧j<N:=by
 induction h with
 | refl h=>exact⟨h,h⟩
 | step h hr hk ih=>exact⟨ih.1,hk⟩
theorem Conn.trans{i j k:Nat}(h1:Conn N r i j)(h2:Conn N r j k):Conn N r i k:=by
 induction h2 with
 | refl h=>exact h1
 | step h hr hk ih=>exact .step ih hr hk
theorem Conn.symm(hs:∀i j,r i j=r j i){i j:Nat}(h:Conn N r i j):Conn N r j i:=by
 induction h with
 | refl h=>exact .refl h
 | step h hr hk ih=>exact(Conn.step (.refl hk) (by rw[hs];exact hr) h.lt.2).trans ih
theorem QR{P:Nat→Prop}{n:Nat}(h:P n):∃m,P m∧∀k,P k→m≤k:=by
 induction n using Nat.strongRecOn with
 | _ n ih=>
  by_cases hm:∃k,P k∧k<n
  ·obtain⟨k,hk,hkn⟩:=hm
   exact ih k hkn hk
  ·refine⟨n,h,fun k hk=>?_⟩
   rcases Nat.lt_or_ge k n with hl | hl
   ·exact absurd ⟨k,hk,hl⟩ hm
   ·exact hl
open Classical in
noncomputable def c6(N:Nat)(r:Nat→Nat→Bool)(i:Nat):Nat:=if h:∃m,Conn N r i m∧∀k,Conn N r i k→m≤k then Classical.choose h else 0
theorem kO{i:Nat}(h:i<N):Conn N r i (c6 N r i)∧∀k,Conn N r i k→c6 N r i≤k:=by
 unfold c6
 have hx:∃m,Conn N r i m∧∀k,Conn N r i k→m≤k:=QR (P:=Conn N r i) (.refl h)
 rw[dif_pos hx]
 exact Classical.choose_spec hx
theorem xE{i:Nat}(h:i<N):c6 N r i≤i:=(kO h).2 i (.refl h)
theorem E5(hs:∀i j,r i j=r j i){i j:Nat}(h:Conn N r i j):c6 N r i=c6 N r j:=by
 obtain⟨hi,hj⟩:=h.lt
 obtain⟨a1,a2⟩:=kO (r:=r) hi
 obtain⟨b1,b2⟩:=kO (r:=r) hj
 exact Nat.le_antisymm (a2 _ (h.trans b1)) (b2 _ ((h.symm hs).trans a1))
theorem pE(hs:∀i j,r i j=r j i){i:Nat}(h:i<N):c6 N r (c6 N r i)=c6 N r i:=(E5 hs (kO h).1).symm
open Classical in
noncomputable def eO(N:Nat)(r:Nat→Nat→Bool):Nat→Nat
 | 0=>0
 | l+1=>eO N r l+if c6 N r l=l then 1 else 0
theorem A7(l:Nat):eO N r l≤l:=by
 induction l with
 | zero=>exact Nat.le_refl _
 | succ l ih=>simp only[eO];split <;> omega
noncomputable def qT(N:Nat)(r:Nat→Nat→Bool)(i:Nat):Nat:=eO N r (c6 N r i)
noncomputable def rI(N:Nat)(r:Nat→Nat→Bool)(i:Nat)(v:Nat):Int:=if c6 N r v<i then (qT N r v:Int) else -1
def wt(nb:Nat→List Nat)(out:Nat→Int):Nat→Nat
 | 0=>0
 | n+1=>wt nb out n+if out n<0 then (nb n).length else 0
structure Srch (N:Nat) (r:Nat→Nat→Bool) (i:Nat) (out:Nat→Int) (todo:List Nat):Prop where
 lo:∀v,v<N→c6 N r v<i→out v=(qT N r v:Int)
 hi:∀v,v<N→i<c6 N r v→out v=-1
 mid:∀v,v<N→c6 N r v=i→out v=-1∨(out v=(eO N r i:Int)∧∀w,w<N→r v w=true→out w≠-1∨w∈todo)
 td:∀v,v∈todo→v<N∧c6 N r v=i
 st:out i≠-1∨i∈todo
theorem Ge(hs:∀i j,r i j=r j i){i g:Nat}{out:Nat→Int}{todo:List Nat}(h:Srch N r i out (g::todo))(hg:¬out g<0):Srch N r i out todo:=by
 have hne:out g≠-1:=by omega
 refine⟨h.lo,h.hi,fun v hv hl=>?_,fun v hv=>h.td v (List.mem_cons_of_mem _ hv),?_⟩
 ·rcases h.mid v hv hl with h1 | ⟨h1,h2⟩
  ·exact .inl h1
  ·refine .inr ⟨h1,fun w hw hr=>?_⟩
   rcases h2 w hw hr with h3 | h3
   ·exact .inl h3
   ·rcases List.mem_cons.1 h3 with e | h3
    ·subst e;exact .inl hne
    ·exact .inr h3
 ·rcases h.st with h1 | h1
  ·exact .inl h1
  ·rcases List.mem_cons.1 h1 with e | h1
   ·subst e;exact .inl hne
   ·exact .inr h1
theorem Gf(hs:∀i j,r i j=r j i){i g:Nat}{out:Nat→Int}{todo nb:List Nat}(h:Srch N r i out (g::todo))(hnb:∀w,w∈nb↔w<N∧r g w=true):Srch N r i (fun v=>if v=g then (eO N r i:Int) else out v) (todo++nb):=by
 obtain⟨hgN,hgl⟩:=h.td g (by simp)
 refine⟨fun v hv hl=>?_,fun v hv hl=>?_,fun v hv hl=>?_,fun v hv=>?_,?_⟩
 ·rw[if_neg (fun e=>by subst e;omega)];exact h.lo v hv hl
 ·rw[if_neg (fun e=>by subst e;omega)];exact h.hi v hv hl
 ·by_cases e:v=g
  ·subst e
   refine .inr ⟨if_pos rfl,fun w hw hr=>.inr (List.mem_append_right _ ((hnb w).2 ⟨hw,hr⟩))⟩
  ·simp only[if_neg e]
   rcases h.mid v hv hl with h1 | ⟨h1,h2⟩
   ·exact .inl h1
   ·refine .inr ⟨h1,fun w hw hr=>?_⟩
    by_cases e2:w=g
    ·subst e2;left;rw[if_pos rfl];omega
    ·rw[if_neg e2]
     rcases h2 w hw hr with h3 | h3
     ·exact .inl h3
     ·rcases List.mem_cons.1 h3 with e3 | h3
      ·exact absurd e3 e2
      ·exact .inr (List.mem_append_left _ h3)
 ·rcases List.mem_append.1 hv with hv | hv
  ·exact h.td v (List.mem_cons_of_mem _ hv)
  ·obtain⟨a,b⟩:=(hnb v).1 hv
   have hc:Conn N r g v:=.step (.refl hgN) b a
   exact⟨a,by rw[←E5 hs hc];exact hgl⟩
 ·by_cases e:i=g
  ·subst e;left;rw[if_pos rfl];omega
  ·rw[if_neg e]
   rcases h.st with h1 | h1
   ·exact .inl h1
   ·rcases List.mem_cons.1 h1 with e3 | h3
    ·exact absurd e3 e
    ·exact .inr (List.mem_append_left _ h3)
theorem TF(hs:∀i j,r i j=r j i){i:Nat}(hi:i<N)(hl:c6 N r i=i){out:Nat→Int}(h:Srch N r i out []):∀v,v<N→out v=rI N r (i+1) v:=by
 have hout:∀v,v<N→c6 N r v=i→out v≠-1→out v=(eO N r i:Int):=fun v hv hl hne=>by
  rcases h.mid v hv hl with h1 | ⟨h1,_⟩
  ·exact absurd h1 hne
  ·exact h1
 have key:∀v,Conn N r i v→out v≠-1:=fun v hc=>by
  induction hc with
  | refl _=>
   rcases h.st with h1 | h1
   ·exact h1
   ·simp at h1
  | step hc' hr hk ih=>
   rename_i j k
   have hlj:c6 N r j=i:=by rw[←E5 hs hc'];exact hl
   rcases h.mid j hc'.lt.2 hlj with h1 | ⟨_,h2⟩
   ·exact absurd h1 ih
   ·rcases h2 k hk hr with h3 | h3
    ·exact h3
    ·simp at h3
 intro v hv
 unfold rI
 rcases Nat.lt_trichotomy (c6 N r v) i with h1 | h1 | h1
 ·rw[if_pos (by omega)];exact h.lo v hv h1
 ·rw[if_pos (by omega)]
  have hc:Conn N r i v:=by
   have:=(kO (r:=r) hv).1
   rw[h1] at this
   exact this.symm hs
  rw[hout v hv h1 (key v hc)]
  unfold qT
  rw[h1]
 ·rw[if_neg (by omega)];exact h.hi v hv h1
theorem V2{i:Nat}(hi:i<N)(hl:c6 N r i=i):Srch N r i (rI N r i) [i]:=by
 refine⟨fun v hv h=>?_,fun v hv h=>?_,fun v hv h=>.inl ?_,fun v hv=>?_,.inr (by simp)⟩
 ·unfold rI;rw[if_pos h]
 ·unfold rI;rw[if_neg (by omega)]
 ·unfold rI;rw[if_neg (by omega)]
 ·have:v=i:=by simpa using hv
  subst this;exact⟨hi,hl⟩
theorem Qf{nb:Nat→List Nat}{out:Nat→Int}{g:Nat}{x:Int}(hx:0≤x)(hg:out g<0):∀n,wt nb (fun v=>if v=g then x else out v) n+(if g<n then (nb g).length else 0)=wt nb out n:=by
 intro n
 induction n with
 | zero=>simp[wt]
 | succ n ih=>
  simp only[wt]
  by_cases e:n=g
  ·subst e
   have h1:¬(x<0):=by omega
   simp only[if_neg (Nat.lt_irrefl n),Nat.add_zero] at ih
   simp only[if_true,if_neg h1,if_pos hg,if_pos (Nat.lt_succ_self n),Nat.add_zero]
   omega
  ·simp only[if_neg e]
   by_cases h:g<n
   ·rw[if_pos h] at ih
    rw[if_pos (show g<n+1 by omega)]
    omega
   ·rw[if_neg h] at ih
    rw[if_neg (show ¬g<n+1 by omega)]
    omega
def Hr(N:Nat)(r:Nat→Nat→Bool)(lb:Nat→Nat):Prop:=∀v,v<N→lb v≤v∧Conn N r v (lb v)
def jn(lb:Nat→Nat)(a b:Nat):Nat→Nat:=fun v=>if v=b then min (lb a) (lb b) else if v=a then min (lb a) (lb b) else lb v
theorem Gg(hs:∀i j,r i j=r j i){lb:Nat→Nat}(h:Hr N r lb){a b:Nat}(ha:a<N)(hb:b<N)(hr:r a b=true):Hr N r (jn lb a b):=fun v hv=>by
 have cab:Conn N r a b:=.step (.refl ha) hr hb
 have cba:=cab.symm hs
 obtain⟨a1,a2⟩:=h a ha
 obtain⟨b1,b2⟩:=h b hb
 unfold jn
 have hm:Conn N r a (min (lb a) (lb b)):=by
  rcases Nat.le_total (lb a) (lb b) with hl | hl
  ·rw[Nat.min_eq_left hl];exact a2
  ·rw[Nat.min_eq_right hl];exact cab.trans b2
 by_cases e1:v=b
 ·subst e1;rw[if_pos rfl];exact⟨by omega,cba.trans hm⟩
 ·rw[if_neg e1]
  by_cases e2:v=a
  ·subst e2;rw[if_pos rfl];exact⟨by omega,hm⟩
  ·rw[if_neg e2];exact h v hv
theorem Ng(lb:Nat→Nat)(a b v:Nat):jn lb a b v≤lb v:=by
 unfold jn
 split
 ·rename_i e;subst e;omega
 ·split
  ·rename_i e;subst e;omega
  ·exact Nat.le_refl _
def Ce(fa fb:Nat→Nat)(lb:Nat→Nat):Nat→Nat→Nat
 | 0=>lb
 | k+1=>jn (Ce fa fb lb k) (fa k) (fb k)
theorem Ko(hs:∀i j,r i j=r j i){fa fb:Nat→Nat}{n:Nat}(hf:∀k,k<n→fa k<N∧fb k<N∧r (fa k) (fb k)=true){lb:Nat→Nat}(h:Hr N r lb):∀k,k≤n→Hr N r (Ce fa fb lb k):=by
 intro k
 induction k with
 | zero=>intro _;exact h
 | succ k ih=>
  intro hk
  obtain⟨a,b,c⟩:=hf k (by omega)
  exact Gg hs (ih (by omega)) a b c
theorem V4(fa fb:Nat→Nat)(lb:Nat→Nat){j:Nat}:∀{k:Nat},j≤k→∀v,Ce fa fb lb k v≤Ce fa fb lb j v:=by
 intro k
 induction k with
 | zero=>intro h v;have:j=0:=by omega
         subst this;exact Nat.le_refl _
 | succ k ih=>
  intro h v
  by_cases e:j=k+1
  ·subst e;exact Nat.le_refl _
  ·exact Nat.le_trans (Ng _ _ _ v) (ih (by omega) v)
def xF(fa fb:Nat→Nat)(n:Nat):Nat→Nat→Nat
 | 0=>fun v=>v
 | k+1=>Ce fa fb (xF fa fb n k) n
theorem LE(hs:∀i j,r i j=r j i){fa fb:Nat→Nat}{n:Nat}(hf:∀k,k<n→fa k<N∧fb k<N∧r (fa k) (fb k)=true):∀k,Hr N r (xF fa fb n k)
 | 0=>fun v hv=>⟨Nat.le_refl _,.refl hv⟩
 | k+1=>Ko hs hf (LE hs hf k) n (Nat.le_refl _)
theorem Bv(hs:∀i j,r i j=r j i){fa fb:Nat→Nat}{n:Nat}(hf:∀k,k<n→fa k<N∧fb k<N∧r (fa k) (fb k)=true){m:Nat}(k:Nat){j:Nat}(hj:j<n)(h1:c6 N r (fa j)=m)(h2:xF fa fb n k (fa j)=m):xF fa fb n (k+1) (fb j)=m:=by
 obtain⟨a,b,c⟩:=hf j hj
 have cab:Conn N r (fa j) (fb j):=.step (.refl a) c b
 have hlb:c6 N r (fb j)=m:=by rw[←E5 hs cab];exact h1
 have hl:=LE hs hf (k+1)
 have lo:=(kO (r:=r) b).2 _ (hl _ b).2
 have hup:xF fa fb n (k+1) (fb j)≤m:=by
  show Ce fa fb (xF fa fb n k) n (fb j)≤m
  refine Nat.le_trans (V4 fa fb _ (j:=j+1) (by omega) _) ?_
  show jn _ _ _ _≤m
  unfold jn
  rw[if_pos rfl]
  have h3:=V4 fa fb (xF fa fb n k) (j:=0) (k:=j) (Nat.zero_le _) (fa j)
  have h4:Ce fa fb (xF fa fb n k) 0 (fa j)=m:=h2
  omega
 omega
theorem Bx(hs:∀i j,r i j=r j i){fa fb:Nat→Nat}{n:Nat}(hf:∀k,k<n→fa k<N∧fb k<N∧r (fa k) (fb k)=true){m v:Nat}(hv:v<N)(hm:c6 N r v=m)(k:Nat)(h:xF fa fb n k v=m):xF fa fb n (k+1) v=m:=by
 have h1:xF fa fb n (k+1) v≤m:=by
  have:=V4 fa fb (xF fa fb n k) (j:=0) (k:=n) (Nat.zero_le _) v
  have h2:Ce fa fb (xF fa fb n k) 0 v=m:=h
  show Ce fa fb (xF fa fb n k) n v≤m
  omega
 have h2:=(kO (r:=r) hv).2 _ (LE hs hf (k+1) v hv).2
 omega
theorem Gh(hs:∀i j,r i j=r j i){fa fb:Nat→Nat}{n:Nat}(hf:∀k,k<n→fa k<N∧fb k<N∧r (fa k) (fb k)=true)(hr:∀a b,a<N→r a b=true→∃k,k<n∧fa k=a∧fb k=b){v:Nat}(hv:v<N):xF fa fb n N v=c6 N r v:=by
 obtain⟨m,hm⟩:∃m,m=c6 N r v:=⟨_,rfl⟩
 have hmN:m<N:=by rw[hm];exact(kO (r:=r) hv).1.lt.2
 have hml:c6 N r m=m:=by rw[hm];exact pE hs hv
 let P:Nat→Nat→Bool:=fun k x=>decide (c6 N r x=m)&&decide (xF fa fb n k x=m)
 have hP:∀k x,P k x=true↔c6 N r x=m∧xF fa fb n k x=m:=fun k x=>by
  show (decide _&&decide _)=true↔_
  rw[Bool.and_eq_true,decide_eq_true_eq,decide_eq_true_eq]
 have mono:∀k x,x<N→P k x=true→P (k+1) x=true:=fun k x hx h=>by
  rw[hP] at h ⊢
  exact⟨h.1,Bx hs hf hx h.1 k h.2⟩
 have cmono:∀{A B:Nat→Bool} (M:Nat),(∀x,x<M→A x=true→B x=true)→cnt A M≤cnt B M:=fun {A B} M h=>by
  induction M with
  | zero=>exact Nat.le_refl _
  | succ M ih=>
   have:=ih fun x hx=>h x (by omega)
   simp only[cnt]
   by_cases e:A M=true
   ·rw[if_pos e,if_pos (h M (by omega) e)];omega
   ·rw[if_neg e];split <;> omega
 have cstrict:∀{A B:Nat→Bool} (M:Nat),(∀x,x<M→A x=true→B x=true)→(∃x,x<M∧A x=false∧B x=true)→cnt A M<cnt B M:=fun {A B} M h=>by
  induction M with
  | zero=>rintro ⟨x,hx,_⟩;omega
  | succ M ih=>
   rintro ⟨x,hx,h1,h2⟩
   simp only[cnt]
   by_cases e:x=M
   ·subst e
    have:=cmono (A:=A) (B:=B) x fun y hy=>h y (by omega)
    rw[h1,if_pos h2];simp only[Bool.false_eq_true,if_false];omega
   ·have:=ih (fun y hy=>h y (by omega)) ⟨x,by omega,h1,h2⟩
    by_cases e2:A M=true
    ·rw[if_pos e2,if_pos (h M (by omega) e2)];omega
    ·rw[if_neg e2];split <;> omega
 have grow:∀k,(∃j,j≤k∧∀x,x<N→c6 N r x=m→P j x=true)∨k+1≤cnt (P k) N:=by
  intro k
  induction k with
  | zero=>
   right
   have:0<cnt (P 0) N:=IJ.2 ⟨m,hmN,(hP 0 m).2 ⟨hml,rfl⟩⟩
   omega
  | succ k ih=>
   rcases ih with⟨j,hj,h⟩ | ih
   ·exact .inl ⟨j,by omega,h⟩
   ·by_cases hc:∀x,x<N→c6 N r x=m→P k x=true
    ·exact .inl ⟨k,by omega,hc⟩
    ·right
     have hex:∃a b,a<N∧b<N∧r a b=true∧P k a=true∧P k b=false:=by
      refine Classical.byContradiction fun hno=>hc fun x hx hlx=>?_
      have hmk:P k m=true:=by
       have:∀k,P k m=true:=fun k=>by
        induction k with
        | zero=>exact(hP 0 m).2 ⟨hml,rfl⟩
        | succ k ih2=>exact mono k m hmN ih2
       exact this k
      have hcm:Conn N r m x:=by
       have:=(kO (r:=r) hx).1
       rw[hlx] at this
       exact this.symm hs
      clear hlx hx
      induction hcm with
      | refl _=>exact hmk
      | step hc' hrr hk' ih3=>
       rename_i y z
       have h5:=ih3
       cases hz:P k z with
       | true=>rfl
       | false=>exact absurd ⟨y,z,hc'.lt.2,hk',hrr,h5,hz⟩ hno
     obtain⟨a,b,ha,hb,hab,pa,pb⟩:=hex
     obtain⟨j,hj,ea,eb⟩:=hr a b ha hab
     have h6:=(hP k a).1 pa
     have h7:=Bv hs hf k hj (m:=m) (by rw[ea];exact h6.1) (by rw[ea];exact h6.2)
     rw[eb] at h7
     have hlb:c6 N r b=m:=by rw[←E5 hs (.step (.refl ha) hab hb)];exact h6.1
     have:=cstrict (A:=P k) (B:=P (k+1)) N (fun x hx=>mono k x hx) ⟨b,hb,pb,(hP (k+1) b).2 ⟨hlb,h7⟩⟩
     omega
 have hall:∀j d x,x<N→P j x=true→P (j+d) x=true:=fun j d x hx h=>by
  induction d with
  | zero=>exact h
  | succ d ih=>exact mono _ x hx ih
 rcases grow N with⟨j,hj,h⟩ | h
 ·have h8:=hall j (N-j) v hv (h v hv hm.symm)
  have:j+(N-j)=N:=by omega
  rw[this] at h8
  rw[←hm];exact((hP N v).1 h8).2
 ·have:=sN (P N) N
  omega
end
abbrev zT(t:Tp):List T:=tN (zL t t.hs.length)
def W2(t:Tp)(r:Nat)(ks:List Int)(x:Nat)(m:List Nat)(k:Nat):Unit×List T×List T×Int×Unit×Int×T×List T×Int×Int×Int×Int×List T×List T×T×T×T×Unit:=
 ((),zT t,tK ks,(r:Int),(),((k+1:Nat):Int),tI (cur x m k:Nat),t.rs.map tR,(t.rs.length:Int),(r:Int),t.V,t.F,t.hs.map tH,t.rs.map tR,tI (x:Int),tI (rG t.rs r).v,tI (rG t.rs r).c,())
theorem Vp{t:Tp}(hn:t.hs.length≤1000){r:Nat}{ks:List Int}{x:Nat}{m:List Nat}(hc:Cyc (nx t) x m)(hb:∀y∈x::m,y<t.hs.length)(hi:∀y∈x::m,(hG t.hs y).n=(nx t y:Int)):
 aC eY (W2 t r ks x m 0)=some (.inl ((),zT t,tK ks,(r:Int),((m.length+1:Nat):Int),t.rs.map tR,(t.rs.length:Int),(r:Int),t.V,t.F,t.hs.map tH,t.rs.map tR,())):=by
 have hl:m.length+1≤t.hs.length:=by
  have:=SU hc.2 hb;simpa using this
 have h1:=aH (F:=eY) m.length (W2 t r ks x m) (fun k hk=>by
  have hm:=ES (x:=x) hk
  have hne:=hc.cur_ne hk
  have hlt:=hb _ (List.mem_cons_of_mem _ hm)
  have hd:decide (((cur x m k:Nat):Int)=(x:Int))=false:=decide_eq_false (by omega)
  unfold eY W2
  simp only[aQ,aL,aP,hd,Bool.not_false,cond_true,jZ,qB (l:=t.hs) (i:=((cur x m k:Nat):Int)) (by omega) (by omega),P9,hi _ (List.mem_cons_of_mem _ hm),hc.curS hk,aE,wk (k:=k+1) (by omega)])
 rw[h1]
 refine aF ?_
 unfold eY W2
 simp only[II,aQ,aL,aP,decide_true,Bool.not_true,cond_false]
def W1(t:Tp)(r:Nat):Unit×List T×List T×List T×Int×Int×Int×Int×List T×List T×Unit:=((),zT t,tK (kL t r),t.rs.map tR,(t.rs.length:Int),(r:Int),t.V,t.F,t.hs.map tH,t.rs.map tR,())
theorem Vq{t:Tp}(ht:Hok t){r:Nat}(hr:r<t.rs.length):dO (W1 t r)=some (bif rB t r then .inl (W1 t (r+1)) else .inr (.inl (false,()))):=by
 have hn:=ht.n
 have hR:=ht.R
 have hlt:decide ((r:Int)<(t.rs.length:Int))=true:=decide_eq_true (by omega)
 have hl:lenL (zT t)=(t.rs.length:Int):=by rw[cH,sQ,GQ]
 have hzg:=xB (LC t t.hs.length hr)
 have hk:mapPut (tI (rG t.rs r).c) (tB true) (tK (kL t r))=tK (kL t (r+1)):=Fv _ _
 unfold dO W1 rB
 simp only[aA,hlt,cond_true,Aq (l:=t.rs) (i:=(r:Int)) (by omega) (by omega),aL,Ez,Fa,Fb,aQ,QC,hl,uC]
 cases hc:GL (rG t.rs r).c t.F with
 | false=>rfl
 | true=>
  simp only[Bool.not_true,cond_false,aP,Bool.true_and]
  cases hh:decide ((rG t.rs r).h=-1) with
  | true=>
   simp only[cond_true]
   cases hv:GL (rG t.rs r).v t.V with
   | false=>rfl
   | true=>
    simp only[Bool.not_true,cond_false,kJ (n:=(t.rs.length:Int)) (i:=r) (by omega),aL,aU,hzg,cD,aQ,Bool.true_and]
    cases decide ((0:Int)<(cnt (GP t r) t.hs.length:Int)) with
    | true=>rfl
    | false=>simp only[cond_false,aL,oA,aI,aE,wk (k:=r) (by omega),aO,zZ,hk,Bool.not_false,cond_true]
  | false=>
   simp only[cond_false]
   cases hi:GL (rG t.rs r).h t.hs.length with
   | false=>rfl
   | true=>
    obtain⟨hi0,hi1⟩:=lX.1 hi
    obtain⟨x,hx⟩:∃x:Nat,(rG t.rs r).h=(x:Int):=⟨(rG t.rs r).h.toNat,by omega⟩
    have hxl:x<t.hs.length:=by omega
    simp only[Bool.not_true,cond_false,hx,jZ,qB (l:=t.hs) (i:=(x:Int)) (by omega) (by omega),aL,KZ,aQ,Bool.true_and,Int.toNat_natCast]
    cases h2:decide ((rG t.rs r).v=-1) with
    | false=>simp only[Bool.not_false,cond_true,aL,aI,Bool.false_and,Bool.and_false,cond_false]
    | true=>
     cases h1:decide ((hG t.hs (x:Int)).r=(r:Int)) with
     | false=>rfl
     | true=>
      obtain⟨m,hm,hb⟩:=ht.ncyc hxl
      have hlp:=Vp (t:=t) (by omega) (r:=r) (ks:=kL t (r+1)) hm hb (fun y hy=>ht.nx_i (hb y hy))
      have e0:((),zT t,tK (kL t (r+1)),(r:Int),(),(1:Int),tI (nx t x:Nat),t.rs.map tR,(t.rs.length:Int),(r:Int),t.V,t.F,t.hs.map tH,t.rs.map tR,tI (x:Int),tI (rG t.rs r).v,tI (rG t.rs r).c,())=W2 t r (kL t (r+1)) x m 0:=by
       unfold W2;rw[hm.cur0];rfl
      simp only[Bool.not_true,cond_false,P9,ht.nx_i hxl,aO,zZ,hk]
      rw[e0,hlp]
      simp only[aL,aI,hl,kJ (n:=(t.rs.length:Int)) (i:=r) (by omega),aU,hzg,cD,aQ,Bool.true_and,rE hm]
      cases decide (((m.length+1:Nat):Int)=(cnt (GP t r) t.hs.length:Int)) with
      | false=>rfl
      | true=>simp only[Bool.not_true,cond_false,cond_true,aL,oA,aI,aE,wk (k:=r) (by omega)]
theorem Gi{t:Tp}(ht:Hok t):iE (oK t)=some (LB t,()):=by
 have hF0:=ht.F0
 have hn:=ht.n
 have hR:=ht.R
 have h0:=aH (F:=dN) t.hs.length (Z0 t) (fun k hk=>Wo ht hk)
 have o0:dN (Z0 t t.hs.length)=some (.inr (.inl ((),zT t,t.V,t.F,t.hs.map tH,t.rs.map tR,()))):=by
  have hlt:decide ((t.hs.length:Int)<(t.hs.length:Int))=false:=decide_eq_false (by omega)
  unfold dN Z0;simp only[aA,hlt,cond_false]
 have l1:=gX (F:=dO) t.rs.length (W1 t) (rB t) (.inl (false,())) (.inr (.inl ((),tK (kL t t.rs.length),t.V,t.F,t.hs.map tH,t.rs.map tR,()))) (fun k hk _=>Vq ht hk) (fun _=>by
  have hlt:decide ((t.rs.length:Int)<(t.rs.length:Int))=false:=decide_eq_false (by omega)
  unfold dO W1;simp only[aA,hlt,cond_false])
 unfold iE oK
 simp only[uD,uC,gN (l:=(t.rs.length:Int)) (c:=(t.rs.length:Int)) (b:=8) (by omega) (by omega) (by omega) (by decide),aL,lR,aO,Int.toNat_natCast]
 have e0:((),List.replicate t.rs.length (tI 0),t.hs.map tH,(t.hs.length:Int),(0:Int),t.V,t.F,t.hs.map tH,t.rs.map tR,())=Z0 t 0:=by
  unfold Z0
  have:tN (zL t 0)=List.replicate t.rs.length (tI 0):=by
   have hz:zL t 0=List.replicate t.rs.length 0:=by
    apply List.ext_getElem?
    intro i
    by_cases hi:i<t.rs.length
    ·rw[LC t 0 hi];simp[cnt,hi]
    ·rw[List.getElem?_eq_none (by rw[GQ];omega),List.getElem?_eq_none (by simp;omega)]
   rw[hz];simp[tN]
  rw[this];rfl
 rw[e0,h0,aF o0]
 simp only[aL,aI,uD]
 have e1:((),zT t,[],t.rs.map tR,(t.rs.length:Int),(0:Int),t.V,t.F,t.hs.map tH,t.rs.map tR,())=W1 t 0:=rfl
 rw[e1,l1]
 unfold LB
 cases h:(List.range t.rs.length).all (rB t) with
 | false=>rfl
 | true=>
  have hc:∀r,r<t.rs.length→0≤(rG t.rs r).c∧(rG t.rs r).c<t.F:=fun r hr=>by
   have:=lY.1 h r hr
   unfold rB at this
   exact lX.1 (Bool.and_eq_true_iff.1 this).1
  have hlk:lenL (tK (kL t t.rs.length))=((kL t t.rs.length).length:Int):=by rw[cH];simp[tK]
  simp only[cond_true,aL,oA,aI,Bool.true_and,hlk,aP,Pt (by omega:0≤t.F) hc]
def fi(P:Nat→Bool):Nat→Int
 | 0=>-1
 | k+1=>bif P k then (bif decide (fi P k<0) then (k:Int) else fi P k) else fi P k
def la(P:Nat→Bool):Nat→Nat
 | 0=>0
 | k+1=>bif P k then k else la P k
theorem X9{P:Nat→Bool}{n:Nat}(h:0<cnt P n):∃k:Nat,k<n∧fi P n=(k:Int)∧P k=true:=by
 induction n with
 | zero=>exact absurd h (by simp[cnt])
 | succ n ih=>
  simp only[fi]
  cases hp:P n with
  | true=>
   cases hd:decide (fi P n<0) with
   | true=>exact⟨n,by omega,rfl,hp⟩
   | false=>
    have h2:=of_decide_eq_false hd
    have h3:0<cnt P n:=by
     by_cases h4:0<cnt P n
     ·exact h4
     ·exfalso
      have h5:∀k,k<n→P k=false:=fun k hk=>by
       cases hk2:P k with
       | false=>rfl
       | true=>exact absurd (IJ.2 ⟨k,hk,hk2⟩) h4
      have h6:∀m,m≤n→fi P m=-1:=by
       intro m
       induction m with
       | zero=>intro _;rfl
       | succ m ih=>intro hm;simp only[fi,h5 m (by omega),cond_false];exact ih (by omega)
      have:=h6 n (Nat.le_refl _);omega
    obtain⟨k,h4,h5,h6⟩:=ih h3
    exact⟨k,by omega,h5,h6⟩
  | false=>
   simp only[cnt,hp,Bool.false_eq_true,if_false,Nat.add_zero] at h
   obtain⟨k,h4,h5,h6⟩:=ih h
   exact⟨k,by omega,h5,h6⟩
theorem QS{P:Nat→Bool}{n:Nat}(h:0<cnt P n):la P n<n∧P (la P n)=true:=by
 induction n with
 | zero=>exact absurd h (by simp[cnt])
 | succ n ih=>
  simp only[la]
  cases hp:P n with
  | true=>exact⟨by simp only[cond_true];omega,hp⟩
  | false=>
   simp only[cnt,hp,Bool.false_eq_true,if_false,Nat.add_zero] at h
   have:=ih h
   exact⟨by simp only[cond_false];omega,this.2⟩
def jQ(t:Tp)(v:Int)(k:Nat):Bool:=decide ((hG t.hs k).f=v)
def DB(t:Tp)(v:Int)(r:Nat):Bool:=decide ((rG t.rs r).h=-1)&&decide ((rG t.rs r).v=v)
abbrev vc(t:Tp)(v:Int):Nat:=cnt (jQ t v) t.hs.length
abbrev sc(t:Tp)(v:Int):Nat:=cnt (DB t v) t.rs.length
noncomputable def vB(t:Tp)(v:Nat):Bool:=bif decide ((1:Int)<(sc t v:Int)) then false else bif decide ((sc t v:Int)=1)&&decide ((0:Int)<(vc t v:Int)) then false else bif decide ((sc t v:Int)+(vc t v:Int)=0) then false else
 bif decide ((vc t v:Int)=0) then true else decide ((MQ (sg t) (fi (jQ t v) t.hs.length).toNat:Int)=(vc t v:Int))
noncomputable def V6(t:Tp):Bool:=(List.range t.V.toNat).all (vB t)
def V1(t:Tp)(v:Nat)(r:Nat):Unit×Int×Int×Int×Int×Int×Int×Int×List T×List T×Unit:=((),(v:Int),(cnt (DB t v) r:Int),-1,0,(r:Int),t.V,t.F,t.hs.map tH,t.rs.map tR,())
theorem Wv{t:Tp}(hR:t.rs.length≤1000)(v:Nat):aC gO (V1 t v 0)=some (.inl ((),(v:Int),(sc t v:Int),-1,0,t.V,t.F,t.hs.map tH,t.rs.map tR,())):=by
 have h1:=aH (F:=gO) t.rs.length (V1 t v) (fun r hr=>by
  have hlt:decide ((r:Int)<(t.rs.length:Int))=true:=decide_eq_true (by omega)
  have hc:=sN (DB t v) r
  unfold gO V1
  simp only[aA,uD,hlt,cond_true,Aq (l:=t.rs) (i:=(r:Int)) (by omega) (by omega),aL,Ez,Fa,aQ,aP,cnt]
  cases h1:decide ((rG t.rs r).h=-1) with
  | false=>
   have ha:DB t v r=false:=by unfold DB;rw[h1];rfl
   simp only[cond_false,aL,aI,aE,wk (k:=r) (by omega),ha,Bool.false_eq_true,if_false,Nat.add_zero]
  | true=>
   simp only[cond_true]
   cases h2:decide ((rG t.rs r).v=(v:Int)) with
   | false=>
    have ha:DB t v r=false:=by unfold DB;rw[h1,h2];rfl
    simp only[cond_false,aL,aI,aE,wk (k:=r) (by omega),ha,Bool.false_eq_true,if_false,Nat.add_zero]
   | true=>
    have ha:DB t v r=true:=by unfold DB;rw[h1,h2];rfl
    simp only[cond_true,aL,aI,aE,wk (k:=r) (by omega),wk (k:=cnt (DB t v) r) (by omega),ha,if_true])
 rw[h1]
 refine aF ?_
 have hlt:decide ((t.rs.length:Int)<(t.rs.length:Int))=false:=decide_eq_false (by omega)
 unfold gO V1
 simp only[aA,uD,hlt,cond_false]
def V3(t:Tp)(v:Nat)(s:Int)(k:Nat):Unit×Int×Int×Int×Int×Int×Int×Int×List T×List T×Unit:=((),(v:Int),s,fi (jQ t v) k,(cnt (jQ t v) k:Int),(k:Int),t.V,t.F,t.hs.map tH,t.rs.map tR,())
theorem Ww{t:Tp}(hn:t.hs.length≤1000)(v:Nat)(s:Int):aC gP (V3 t v s 0)=some (.inl ((),(v:Int),s,fi (jQ t v) t.hs.length,(vc t v:Int),t.V,t.F,t.hs.map tH,t.rs.map tR,())):=by
 have h1:=aH (F:=gP) t.hs.length (V3 t v s) (fun k hk=>by
  have hlt:decide ((k:Int)<(t.hs.length:Int))=true:=decide_eq_true (by omega)
  have hc:=sN (jQ t v) k
  unfold gP V3
  simp only[aA,uC,hlt,cond_true,qB (l:=t.hs) (i:=(k:Int)) (by omega) (by omega),aL,KY,aQ,aP,cnt,fi]
  cases h2:decide ((hG t.hs k).f=(v:Int)) with
  | false=>
   have ha:jQ t v k=false:=h2
   simp only[cond_false,aL,aI,aE,wk (k:=k) (by omega),ha,Bool.false_eq_true,if_false,Nat.add_zero]
  | true=>
   have ha:jQ t v k=true:=h2
   simp only[cond_true,ha]
   cases decide (fi (jQ t v) k<0) <;> simp only[cond_true,cond_false,aL,aI,aE,wk (k:=k) (by omega),wk (k:=cnt (jQ t v) k) (by omega),if_true])
 rw[h1]
 refine aF ?_
 have hlt:decide ((t.hs.length:Int)<(t.hs.length:Int))=false:=decide_eq_false (by omega)
 unfold gP V3
 simp only[aA,uC,hlt,cond_false]
def V5(t:Tp)(v c:Int)(x:Nat)(m:List Nat)(k:Nat):Unit×Int×Int×Int×Int×Int×Int×Int×List T×List T×Unit:=((),v,(x:Int),c,((k+1:Nat):Int),((cur x m k:Nat):Int),t.V,t.F,t.hs.map tH,t.rs.map tR,())
theorem Wx{t:Tp}(ht:Hok t)(v c:Int){x:Nat}{m:List Nat}(hc:Cyc (sg t) x m)(hb:∀y∈x::m,y<t.hs.length):
 aC eZ (V5 t v c x m 0)=some (.inl ((),v,c,((m.length+1:Nat):Int),t.V,t.F,t.hs.map tH,t.rs.map tR,())):=by
 have hn:=ht.n
 have hl:m.length+1≤t.hs.length:=by
  have:=SU hc.2 hb;simpa using this
 have h1:=aH (F:=eZ) m.length (V5 t v c x m) (fun k hk=>by
  have hm:=ES (x:=x) hk
  have hne:=hc.cur_ne hk
  have hlt:=hb _ (List.mem_cons_of_mem _ hm)
  have hd:decide (((cur x m k:Nat):Int)=(x:Int))=false:=decide_eq_false (by omega)
  have hp:=ht.pv_lt hlt
  have hs:mt (pv t (cur x m k))=cur x m (k+1):=hc.curS hk
  unfold eZ V5
  simp only[aP,hd,Bool.not_false,cond_true,qB (l:=t.hs) (i:=((cur x m k:Nat):Int)) (by omega) (by omega),aL,H8,aQ,ht.pv_i hlt,GK (k:=pv t (cur x m k)) (by omega),hs,aE,wk (k:=k+1) (by omega)])
 rw[h1]
 refine aF ?_
 unfold eZ V5
 simp only[II,aP,decide_true,Bool.not_true,cond_false]
def V0(t:Tp)(v:Nat):Unit×Int×Int×Int×List T×List T×Unit:=((),(v:Int),t.V,t.F,t.hs.map tH,t.rs.map tR,())
theorem Wy{t:Tp}(ht:Hok t){v:Nat}(hv:v<t.V.toNat):gQ (V0 t v)=some (bif vB t v then .inl (V0 t (v+1)) else .inr (.inl (false,()))):=by
 have hn:=ht.n
 have hR:=ht.R
 have hV:=ht.V1
 have hlt:decide ((v:Int)<t.V)=true:=decide_eq_true (by omega)
 have h1:=Wv (t:=t) (by omega) v
 have h3:=Ww (t:=t) (by omega) v (sc t v)
 have e1:((),(v:Int),(0:Int),(-1:Int),(0:Int),(0:Int),t.V,t.F,t.hs.map tH,t.rs.map tR,())=V1 t v 0:=rfl
 have e3:((),(v:Int),(sc t v:Int),(-1:Int),(0:Int),(0:Int),t.V,t.F,t.hs.map tH,t.rs.map tR,())=V3 t v (sc t v) 0:=rfl
 have hsl:sc t v≤t.rs.length:=sN (DB t v) t.rs.length
 have hcl:vc t v≤t.hs.length:=sN (jQ t v) t.hs.length
 have hw:wr .i64 ((sc t v:Int)+(vc t v:Int))=(sc t v:Int)+(vc t v:Int):=mY (by omega) (by omega)
 have fan:0<vc t v→∃m,(fi (jQ t v) t.hs.length)=(((fi (jQ t v) t.hs.length).toNat:Nat):Int)∧(fi (jQ t v) t.hs.length).toNat<t.hs.length∧Cyc (sg t) (fi (jQ t v) t.hs.length).toNat m∧(∀y∈(fi (jQ t v) t.hs.length).toNat::m,y<t.hs.length):=fun h=>by
  obtain⟨k,hk,he,_⟩:=X9 h
  obtain⟨m,hm,hb⟩:=ht.scyc hk
  rw[he,Int.toNat_natCast]
  exact⟨m,rfl,hk,hm,hb⟩
 unfold gQ V0 vB
 simp only[aA,hlt,cond_true]
 rw[e1,h1]
 simp only[aL,aI]
 rw[e3,h3]
 simp only[aL,aI,aP,aE,hw]
 cases hA:decide ((1:Int)<(sc t v:Int)) with
 | true=>rfl
 | false=>
  simp only[cond_false]
  have hA':=of_decide_eq_false hA
  have Ma:∀(hz:decide ((vc t v:Int)=0)=false),∃m,Cyc (sg t) (fi (jQ t v) t.hs.length).toNat m∧(ob (idxL (t.hs.map tH) (fi (jQ t v) t.hs.length)) fun x=>ob (T.int? .i64 (T.cell x 2)) fun y=>fX (y,()))=some (((cur (fi (jQ t v) t.hs.length).toNat m 0:Nat):Int),())∧(∀y∈(fi (jQ t v) t.hs.length).toNat::m,y<t.hs.length)∧fi (jQ t v) t.hs.length=(((fi (jQ t v) t.hs.length).toNat:Nat):Int):=fun hz=>by
   have hz':=of_decide_eq_false hz
   obtain⟨m,he,hk,hm,hb⟩:=fan (by omega)
   refine⟨m,hm,?_,hb,he⟩
   have hp:=ht.pv_lt hk
   have hs:mt (pv t (fi (jQ t v) t.hs.length).toNat)=cur (fi (jQ t v) t.hs.length).toNat m 0:=hm.cur0
   rw[he]
   simp only[Int.toNat_natCast]
   rw[qB (l:=t.hs) (by omega) (by omega)]
   simp only[aL,H8,aQ,ht.pv_i hk,GK (k:=pv t (fi (jQ t v) t.hs.length).toNat) (by omega),hs]
  cases hB:decide ((sc t v:Int)=1) with
  | true=>
   simp only[cond_true,Bool.true_and]
   cases hC:decide ((0:Int)<(vc t v:Int)) with
   | true=>rfl
   | false=>
    have hC':=of_decide_eq_false hC
    have hB':=of_decide_eq_true hB
    have hD:decide ((sc t v:Int)+(vc t v:Int)=0)=false:=decide_eq_false (by omega)
    have hE:decide ((vc t v:Int)=0)=true:=decide_eq_true (by omega)
    simp only[hD,hE,cond_true,cond_false,aL,oA,aI,wk (k:=v) (by omega)]
  | false=>
   simp only[cond_false,Bool.false_and]
   cases hD:decide ((sc t v:Int)+(vc t v:Int)=0) with
   | true=>rfl
   | false=>
    simp only[cond_false]
    cases hE:decide ((vc t v:Int)=0) with
    | true=>simp only[cond_true,aL,oA,aI,wk (k:=v) (by omega)]
    | false=>
     obtain⟨m,hm,hw2,hb,he⟩:=Ma hE
     have h5:=Wx ht v (vc t v) hm hb
     have hk:(fi (jQ t v) t.hs.length).toNat<t.hs.length:=hb _ (by simp)
     have hp:=ht.pv_lt hk
     have hs:mt (pv t (fi (jQ t v) t.hs.length).toNat)=cur (fi (jQ t v) t.hs.length).toNat m 0:=hm.cur0
     generalize hg:(fi (jQ t v) t.hs.length).toNat=x at *
     have e5:((),(v:Int),(x:Int),(vc t v:Int),(1:Int),(((cur x m 0:Nat):Int)),t.V,t.F,t.hs.map tH,t.rs.map tR,())=V5 t v (vc t v) x m 0:=rfl
     simp only[cond_false,he,qB (l:=t.hs) (i:=(x:Int)) (by omega) (by omega),aL,H8,aQ,ht.pv_i hk,GK (k:=pv t x) (by omega),hs]
     rw[e5,h5]
     simp only[aL,aI,rE hm]
     cases decide (((m.length+1:Nat):Int)=(vc t v:Int)) with
     | false=>rfl
     | true=>simp only[Bool.not_true,cond_false,cond_true,aL,oA,aI,wk (k:=v) (by omega)]
theorem TG{t:Tp}(ht:Hok t):lW (oK t)=some (V6 t,()):=by
 have hV0:=ht.V0
 have l0:=gX (F:=gQ) t.V.toNat (V0 t) (vB t) (.inl (false,())) (.inr (.inl ())) (fun k hk _=>Wy ht hk) (fun _=>by
  have hlt:decide ((t.V.toNat:Int)<t.V)=false:=decide_eq_false (by omega)
  unfold gQ V0;simp only[aA,hlt,cond_false])
 unfold lW oK
 have e0:((),(0:Int),t.V,t.F,t.hs.map tH,t.rs.map tR,())=V0 t 0:=rfl
 simp only[]
 rw[e0,l0]
 unfold V6
 cases(List.range t.V.toNat).all (vB t) <;> rfl
def nK(t:Tp)(g:Int→Nat):List Nat:=(List.range t.V.toNat).map fun(v:Nat)=>g (v:Int)
theorem AD(t:Tp)(g:Int→Nat):(nK t g).length=t.V.toNat:=by simp[nK]
theorem mO{t:Tp}{g:Int→Nat}{v:Nat}(h:v<t.V.toNat):(nK t g)[v]?=some (g (v:Int)):=by simp[nK,h]
theorem LF{t:Tp}{g g':Int→Nat}{v x:Nat}(h:v<t.V.toNat)(hx:g' (v:Int)=x)(ho:∀w:Int,w≠(v:Int)→g' w=g w):(nK t g).set v x=nK t g':=by
 apply List.ext_getElem?
 intro i
 rw[List.getElem?_set]
 by_cases hi:i<t.V.toNat
 ·rw[mO (g:=g') hi,AD]
  by_cases e:v=i
  ·subst e;rw[if_pos rfl,if_pos h,hx]
  ·rw[if_neg e,mO (g:=g) hi,ho _ (by omega)]
 ·have h1:(nK t g')[i]?=none:=List.getElem?_eq_none (by rw[AD];omega)
  have h2:(nK t g)[i]?=none:=List.getElem?_eq_none (by rw[AD];omega)
  rw[h1,h2,if_neg (by omega)]
theorem By{t:Tp}:tN (nK t fun _=>0)=List.replicate t.V.toNat (tI 0):=by
 have:nK t (fun _=>0)=List.replicate t.V.toNat 0:=by
  apply List.ext_getElem?
  intro i
  by_cases hi:i<t.V.toNat
  ·rw[mO hi];simp[hi]
  ·rw[List.getElem?_eq_none (by rw[AD];omega),List.getElem?_eq_none (by simp;omega)]
 rw[this];simp[tN]
theorem rN(t:Tp)(h:0≤t.V)(g:Int→Nat):lenL (tN (nK t g))=t.V:=by rw[cH,sQ,AD];omega
def K0(t:Tp)(r:Nat):Unit×List T×List T×List T×List T×Int×Int×Int×Int×List T×List T×Unit:=((),tN (nK t fun v=>cnt (DB t v) r),tN (nK t fun _=>0),tN (nK t fun _=>0),t.rs.map tR,(t.rs.length:Int),(r:Int),t.V,t.F,t.hs.map tH,t.rs.map tR,())
theorem Wz{t:Tp}(ht:Hok t)(hr:∀r,r<t.rs.length→rB t r=true){r:Nat}(hk:r<t.rs.length):cJ (K0 t r)=some (.inl (K0 t (r+1))):=by
 have hR:=ht.R
 have hV:=ht.V0
 have hV1:=ht.V1
 have hlt:decide ((r:Int)<(t.rs.length:Int))=true:=decide_eq_true (by omega)
 have hrb:=hr r hk
 unfold rB at hrb
 have hrb2:=(Bool.and_eq_true_iff.1 hrb).2
 unfold cJ K0
 simp only[aA,hlt,cond_true,Aq (l:=t.rs) (i:=(r:Int)) (by omega) (by omega),aL,Ez,Fa,aQ,aP]
 cases h1:decide ((rG t.rs r).h=-1) with
 | false=>
  have ha:∀v,DB t v r=false:=fun v=>by unfold DB;rw[h1];rfl
  simp only[cond_false,aL,aI,aE,wk (k:=r) (by omega),cnt,ha,Bool.false_eq_true,if_false,Nat.add_zero]
 | true=>
  rw[h1,cond_true] at hrb2
  obtain⟨h2,h3⟩:=lX.1 (Bool.and_eq_true_iff.1 hrb2).1
  obtain⟨v,hv⟩:∃v:Nat,(rG t.rs r).v=(v:Int):=⟨(rG t.rs r).v.toNat,by omega⟩
  have hvl:v<t.V.toNat:=by omega
  have hc:=sN (DB t v) r
  have hs:(nK t fun v=>cnt (DB t v) r).set v (cnt (DB t v) r+1)=nK t fun v=>cnt (DB t v) (r+1):=by
   refine LF hvl ?_ ?_
   ·have:DB t v r=true:=by unfold DB;rw[h1,hv];simp
    simp only[cnt,this,if_true]
   ·intro w hw
    have:DB t w r=false:=by unfold DB;rw[h1,hv];simpa using fun e=>hw e.symm
    simp only[cnt,this,Bool.false_eq_true,if_false,Nat.add_zero]
  simp only[cond_true,hv,jZ,aL,rN t (by omega),kJ (n:=t.V) (i:=v) (by omega),aU,xB (mO (t:=t) (g:=fun v=>cnt (DB t v) r) hvl),cD,aQ,aO,iR,aE,wk (k:=cnt (DB t v) r) (by omega),wk (k:=r) (by omega),VY,hs,aI]
def K2(t:Tp)(k:Nat):Unit×List T×List T×List T×List T×Int×Int×Int×Int×List T×List T×Unit:=((),tN (nK t fun v=>sc t v),tN (nK t fun v=>cnt (jQ t v) k),tN (nK t fun v=>la (jQ t v) k),t.hs.map tH,(t.hs.length:Int),(k:Int),t.V,t.F,t.hs.map tH,t.rs.map tR,())
theorem Xa{t:Tp}(ht:Hok t){k:Nat}(hk:k<t.hs.length):cK (K2 t k)=some (.inl (K2 t (k+1))):=by
 have hn:=ht.n
 have hV:=ht.V0
 have hV1:=ht.V1
 have hlt:decide ((k:Int)<(t.hs.length:Int))=true:=decide_eq_true (by omega)
 obtain⟨⟨h2,h3⟩,_⟩:=uE.1 (ht.b1 k hk)
 obtain⟨v,hv⟩:∃v:Nat,(hG t.hs k).f=(v:Int):=⟨(hG t.hs k).f.toNat,by omega⟩
 have hvl:v<t.V.toNat:=by omega
 have hc:=sN (jQ t v) k
 have hs:(nK t fun v=>cnt (jQ t v) k).set v (cnt (jQ t v) k+1)=nK t fun v=>cnt (jQ t v) (k+1):=by
  refine LF hvl ?_ ?_
  ·have:jQ t v k=true:=by unfold jQ;rw[hv];simp
   simp only[cnt,this,if_true]
  ·intro w hw
   have:jQ t w k=false:=by unfold jQ;rw[hv];simpa using fun e=>hw e.symm
   simp only[cnt,this,Bool.false_eq_true,if_false,Nat.add_zero]
 have hs2:(nK t fun v=>la (jQ t v) k).set v k=nK t fun v=>la (jQ t v) (k+1):=by
  refine LF hvl ?_ ?_
  ·have:jQ t v k=true:=by unfold jQ;rw[hv];simp
   simp only[la,this,cond_true]
  ·intro w hw
   have:jQ t w k=false:=by unfold jQ;rw[hv];simpa using fun e=>hw e.symm
   simp only[la,this,cond_false]
 unfold cK K2
 simp only[aA,hlt,cond_true,qB (l:=t.hs) (i:=(k:Int)) (by omega) (by omega),aL,KY,hv,jZ,rN t (by omega),kJ (n:=t.V) (i:=v) (by omega),aU,xB (mO (t:=t) (g:=fun v=>cnt (jQ t v) k) hvl),xB (mO (t:=t) (g:=fun v=>la (jQ t v) k) hvl),cD,aQ,aO,iR,aE,wk (k:=cnt (jQ t v) k) (by omega),wk (k:=k) (by omega),VY,hs,hs2]
noncomputable def vP(t:Tp)(v:Nat):Bool:=bif decide ((vc t v:Int)=0) then decide ((sc t v:Int)=1) else bif decide ((0:Int)<(sc t v:Int)) then false else decide ((MQ (sg t) (la (jQ t v) t.hs.length):Int)=(vc t v:Int))
abbrev aT(t:Tp):List T:=tN (nK t fun v=>sc t v)
abbrev dT(t:Tp):List T:=tN (nK t fun v=>vc t v)
abbrev fT(t:Tp):List T:=tN (nK t fun v=>la (jQ t v) t.hs.length)
def K4(t:Tp)(v:Nat)(x:Nat)(m:List Nat)(k:Nat):Unit×List T×List T×List T×Int×Int×Int×Int×Int×Int×Int×List T×List T×Unit:=((),aT t,dT t,fT t,(v:Int),((k+1:Nat):Int),((cur x m k:Nat):Int),t.V,(v:Int),t.V,t.F,t.hs.map tH,t.rs.map tR,())
theorem Xb{t:Tp}(ht:Hok t){v:Nat}(hv:v<t.V.toNat){m:List Nat}(hc:Cyc (sg t) (la (jQ t v) t.hs.length) m)(hb:∀y∈(la (jQ t v) t.hs.length)::m,y<t.hs.length):
 aC c8 (K4 t v (la (jQ t v) t.hs.length) m 0)=some (.inl ((),aT t,dT t,fT t,(v:Int),((m.length+1:Nat):Int),t.V,(v:Int),t.V,t.F,t.hs.map tH,t.rs.map tR,())):=by
 have hn:=ht.n
 have hV:=ht.V0
 have hl:m.length+1≤t.hs.length:=by
  have:=SU hc.2 hb;simpa using this
 have hg:=xB (mO (t:=t) (g:=fun v=>la (jQ t v) t.hs.length) hv)
 generalize hx:la (jQ t v) t.hs.length=x at *
 have h1:=aH (F:=c8) m.length (K4 t v x m) (fun k hk=>by
  have hm:=ES (x:=x) hk
  have hne:=hc.cur_ne hk
  have hlt:=hb _ (List.mem_cons_of_mem _ hm)
  have hd:decide (((cur x m k:Nat):Int)=(x:Int))=false:=decide_eq_false (by omega)
  have hp:=ht.pv_lt hlt
  have hs:mt (pv t (cur x m k))=cur x m (k+1):=hc.curS hk
  unfold c8 K4
  simp only[rN t (by omega),kJ (n:=t.V) (i:=v) (by omega),aL,aU,hg,cD,aQ,aP,hd,Bool.not_false,cond_true,qB (l:=t.hs) (i:=((cur x m k:Nat):Int)) (by omega) (by omega),H8,ht.pv_i hlt,QB (k:=pv t (cur x m k)) (by omega),hs,aE,wk (k:=k+1) (by omega)])
 rw[h1]
 refine aF ?_
 unfold c8 K4
 simp only[rN t (by omega),kJ (n:=t.V) (i:=v) (by omega),aL,aU,hg,cD,aQ,II,aP,decide_true,Bool.not_true,cond_false]
def K3(t:Tp)(v:Nat):Unit×List T×List T×List T×Int×Int×Int×Int×List T×List T×Unit:=((),aT t,dT t,fT t,t.V,(v:Int),t.V,t.F,t.hs.map tH,t.rs.map tR,())
theorem Xd{t:Tp}(ht:Hok t){v:Nat}(hv:v<t.V.toNat):cL (K3 t v)=some (bif vP t v then .inl (K3 t (v+1)) else .inr (.inl (false,()))):=by
 have hn:=ht.n
 have hV:=ht.V0
 have hV1:=ht.V1
 have hlt:decide ((v:Int)<t.V)=true:=decide_eq_true (by omega)
 have ha:=xB (mO (t:=t) (g:=fun v=>sc t v) hv)
 have hd:=xB (mO (t:=t) (g:=fun v=>vc t v) hv)
 have hf:=xB (mO (t:=t) (g:=fun v=>la (jQ t v) t.hs.length) hv)
 unfold cL K3 vP
 simp only[aA,hlt,cond_true,rN t (by omega),kJ (n:=t.V) (i:=v) (by omega),aL,aU,ha,hd,hf,cD,aQ,jZ,aP]
 cases hE:decide ((vc t v:Int)=0) with
 | true=>
  simp only[cond_true]
  cases decide ((sc t v:Int)=1) with
  | false=>rfl
  | true=>simp only[Bool.not_true,cond_false,cond_true,aL,oA,aI,aE,wk (k:=v) (by omega)]
 | false=>
  have hz:=of_decide_eq_false hE
  have hp0:0<cnt (jQ t v) t.hs.length:=by
   have:(vc t v:Int)=(cnt (jQ t v) t.hs.length:Int):=rfl
   omega
  obtain⟨hll,hlv⟩:=QS hp0
  obtain⟨m,hm,hb⟩:=ht.scyc hll
  have h4:=Xb ht hv hm hb
  have hp:=ht.pv_lt hll
  have hs:mt (pv t (la (jQ t v) t.hs.length))=cur (la (jQ t v) t.hs.length) m 0:=hm.cur0
  generalize hx:la (jQ t v) t.hs.length=x at *
  have e4:((),aT t,dT t,fT t,(v:Int),(1:Int),(((cur x m 0:Nat):Int)),t.V,(v:Int),t.V,t.F,t.hs.map tH,t.rs.map tR,())=K4 t v x m 0:=rfl
  simp only[cond_false,qB (l:=t.hs) (i:=(x:Int)) (by omega) (by omega),aL,H8,aQ,ht.pv_i hll,QB (k:=pv t x) (by omega),hs]
  rw[e4,h4]
  simp only[aL,aI,rN t (by omega),kJ (n:=t.V) (i:=v) (by omega),ha,hd,cD,aQ,rE hm]
  cases decide ((0:Int)<(sc t v:Int)) with
  | true=>rfl
  | false=>
   simp only[cond_false]
   cases decide (((m.length+1:Nat):Int)=(vc t v:Int)) with
   | false=>rfl
   | true=>simp only[Bool.not_true,cond_false,cond_true,aL,oA,aI,aE,wk (k:=v) (by omega)]
theorem TH{t:Tp}(ht:Hok t){v:Int}{a b:Nat}(ha:a<t.hs.length)(hb:b<t.hs.length)(hav:jQ t v a=true)(hbv:jQ t v b=true)(h:MQ (sg t) a=vc t v):MQ (sg t) b=vc t v:=by
 obtain⟨m,hm,hl⟩:=ht.scyc ha
 have hP:∀y∈a::m,y<t.hs.length∧jQ t v y=true:=by
  refine KV (P:=fun y=>y<t.hs.length∧jQ t v y=true) ?_ hm.1 ⟨ha,hav⟩
  rintro y ⟨hy,hyv⟩
  refine⟨ht.sg_lt hy,?_⟩
  unfold jQ;rw[ht.sg_f hy];exact hyv
 rw[rE hm] at h
 have hmem:=N2 hm.2 hP (by simp only[List.length_cons];exact Nat.le_of_eq h.symm) hb hbv
 rcases List.mem_cons.1 hmem with e | hmem
 ·subst e;rw[rE hm];exact h
 ·obtain⟨l,hl2,_,hle⟩:=hm.rot hmem
  rw[rE hl2,hle];exact h
theorem Nh{t:Tp}(ht:Hok t)(v:Nat):vP t v=vB t v:=by
 unfold vP vB
 by_cases h0:0<vc t v
 ·obtain⟨x,hx,hfx,hxv⟩:=X9 (P:=jQ t v) h0
  obtain⟨hy,hyv⟩:=QS (P:=jQ t v) h0
  have he:decide ((MQ (sg t) (la (jQ t v) t.hs.length):Int)=(vc t v:Int))=decide ((MQ (sg t) (fi (jQ t v) t.hs.length).toNat:Int)=(vc t v:Int)):=by
   rw[hfx,Int.toNat_natCast,decide_eq_decide]
   constructor
   ·intro h;have:=TH ht hy hx hyv hxv (by omega);omega
   ·intro h;have:=TH ht hx hy hxv hyv (by omega);omega
  rw[he]
  have h1:decide ((vc t v:Int)=0)=false:=decide_eq_false (by omega)
  have h2:decide ((0:Int)<(vc t v:Int))=true:=decide_eq_true (by omega)
  have h3:decide ((sc t v:Int)+(vc t v:Int)=0)=false:=decide_eq_false (by omega)
  rw[h1,h2,h3]
  simp only[cond_false,Bool.and_true]
  by_cases hs:0<sc t v
  ·have h4:decide ((0:Int)<(sc t v:Int))=true:=decide_eq_true (by omega)
   rw[h4]
   by_cases hs1:sc t v=1
   ·have h5:decide ((sc t v:Int)=1)=true:=decide_eq_true (by omega)
    rw[h5];simp
   ·have h5:decide ((1:Int)<(sc t v:Int))=true:=decide_eq_true (by omega)
    rw[h5];rfl
  ·have h4:decide ((0:Int)<(sc t v:Int))=false:=decide_eq_false (by omega)
   have h5:decide ((sc t v:Int)=1)=false:=decide_eq_false (by omega)
   have h6:decide ((1:Int)<(sc t v:Int))=false:=decide_eq_false (by omega)
   rw[h4,h5,h6];rfl
 ·have h1:decide ((vc t v:Int)=0)=true:=decide_eq_true (by omega)
  have h2:decide ((0:Int)<(vc t v:Int))=false:=decide_eq_false (by omega)
  rw[h1,h2]
  simp only[cond_true,Bool.and_false,cond_false]
  by_cases hs:sc t v=1
  ·have h5:decide ((sc t v:Int)=1)=true:=decide_eq_true (by omega)
   have h6:decide ((1:Int)<(sc t v:Int))=false:=decide_eq_false (by omega)
   have h3:decide ((sc t v:Int)+(vc t v:Int)=0)=false:=decide_eq_false (by omega)
   rw[h5,h6,h3];rfl
  ·have h5:decide ((sc t v:Int)=1)=false:=decide_eq_false (by omega)
   rw[h5]
   by_cases h6:1<sc t v
   ·have h7:decide ((1:Int)<(sc t v:Int))=true:=decide_eq_true (by omega)
    rw[h7];rfl
   ·have h7:decide ((1:Int)<(sc t v:Int))=false:=decide_eq_false (by omega)
    have h3:decide ((sc t v:Int)+(vc t v:Int)=0)=true:=decide_eq_true (by omega)
    rw[h7,h3];rfl
theorem TI{t:Tp}(ht:Hok t)(hr:LB t=true):dP (oK t)=some (V6 t,()):=by
 have hV0:=ht.V0
 have hV1:=ht.V1
 have hrb:∀r,r<t.rs.length→rB t r=true:=fun r h=>by
  unfold LB at hr;exact lY.1 (Bool.and_eq_true_iff.1 hr).1 r h
 have l0:=aH (F:=cJ) t.rs.length (K0 t) (fun r h=>Wz ht hrb h)
 have o0:cJ (K0 t t.rs.length)=some (.inr (.inl ((),aT t,tN (nK t fun _=>0),tN (nK t fun _=>0),t.V,t.F,t.hs.map tH,t.rs.map tR,()))):=by
  have hlt:decide ((t.rs.length:Int)<(t.rs.length:Int))=false:=decide_eq_false (by omega)
  unfold cJ K0;simp only[aA,hlt,cond_false]
 have l2:=aH (F:=cK) t.hs.length (K2 t) (fun k h=>Xa ht h)
 have o2:cK (K2 t t.hs.length)=some (.inr (.inl ((),aT t,dT t,fT t,t.V,t.F,t.hs.map tH,t.rs.map tR,()))):=by
  have hlt:decide ((t.hs.length:Int)<(t.hs.length:Int))=false:=decide_eq_false (by omega)
  unfold cK K2;simp only[aA,hlt,cond_false]
 have l3:=gX (F:=cL) t.V.toNat (K3 t) (vP t) (.inl (false,())) (.inr (.inl ())) (fun k hk _=>Xd ht hk) (fun _=>by
  have hlt:decide ((t.V.toNat:Int)<t.V)=false:=decide_eq_false (by omega)
  unfold cL K3;simp only[aA,hlt,cond_false])
 unfold dP oK
 have e0:((),List.replicate t.V.toNat (tI 0),List.replicate t.V.toNat (tI 0),List.replicate t.V.toNat (tI 0),t.rs.map tR,(t.rs.length:Int),(0:Int),t.V,t.F,t.hs.map tH,t.rs.map tR,())=K0 t 0:=by
  unfold K0;rw[←By];rfl
 have e2:((),aT t,tN (nK t fun _=>0),tN (nK t fun _=>0),t.hs.map tH,(t.hs.length:Int),(0:Int),t.V,t.F,t.hs.map tH,t.rs.map tR,())=K2 t 0:=rfl
 have e3:((),aT t,dT t,fT t,t.V,(0:Int),t.V,t.F,t.hs.map tH,t.rs.map tR,())=K3 t 0:=rfl
 simp only[gN (l:=t.V) (c:=t.V) (b:=8) (by omega) (by omega) (by omega) (by decide),aL,lR,aO,uD]
 rw[e0,l0,aF o0]
 simp only[aL,aI,uC]
 rw[e2,l2,aF o2]
 simp only[aL,aI]
 rw[e3,l3,As fun v _=>Nh ht v]
 unfold V6
 cases(List.range t.V.toNat).all (vB t) <;> rfl
def Ud(t:Tp):Bool:=decide (t.hs.length≤256)&&(decide (t.hs.length%2=0)&&(decide (1≤t.V)&&(decide (t.V≤257)&&(decide (1≤t.F)&&(decide (t.F≤257)&&decide (t.rs.length≤257))))))
theorem A8{t:Tp}:Ud t=true↔Sz t:=by
 unfold Ud
 simp only[Bool.and_eq_true,decide_eq_true_eq]
 exact⟨fun⟨a,b,c,d,e,f,g⟩=>⟨a,b,c,d,e,f,g⟩,fun⟨a,b,c,d,e,f,g⟩=>⟨a,b,c,d,e,f,g⟩⟩
noncomputable def Ni(t:Tp):Bool:=Ud t&&(hokB t&&(LB t&&V6 t))
theorem LG(t:Tp):hJ (oK t)=some (Ni t,()):=by
 unfold hJ Ni
 have e0:(t.V,t.F,t.hs.map tH,t.rs.map tR,())=oK t:=rfl
 by_cases hz:Sz t
 ·have h1:=hz.n
  have h2:=hz.e
  have h3:=hz.V0
  have h4:=hz.V1
  have h5:=hz.F0
  have h6:=hz.F1
  have h7:=hz.R
  have hm:((t.hs.length:Int)).tmod 2=0:=by
   have:((t.hs.length:Int)).tmod 2=((t.hs.length%2:Nat):Int):=rfl
   rw[this,h2];rfl
  have d1:decide ((256:Int)<(t.hs.length:Int))=false:=decide_eq_false (by omega)
  have d3:decide (t.V<1)=false:=decide_eq_false (by omega)
  have d4:decide ((257:Int)<t.V)=false:=decide_eq_false (by omega)
  have d5:decide (t.F<1)=false:=decide_eq_false (by omega)
  have d6:decide ((257:Int)<t.F)=false:=decide_eq_false (by omega)
  have d7:decide ((257:Int)<(t.rs.length:Int))=false:=decide_eq_false (by omega)
  have hs:=A8.2 hz
  simp only[oK,uC,uD,aA,tE,aP,hm,decide_true,Bool.not_true,d1,d3,d4,d5,d6,d7,cond_false]
  rw[e0,Ar hz,hs]
  simp only[aL,Bool.true_and]
  cases hh:hokB t with
  | false=>rfl
  | true=>
   have hk:=VW hz hh
   simp only[cond_true,Fu hk,aL,Bool.true_and]
   cases hr:LB t with
   | false=>rfl
   | true=>simp only[cond_true,TG hk,aL,Bool.true_and]
 ·have hs:Ud t=false:=Bool.eq_false_iff.2 fun h=>hz (A8.1 h)
  rw[hs]
  simp only[oK,uC,uD,aA,tE,aP,Bool.false_and]
  cases d1:decide ((256:Int)<(t.hs.length:Int)) with
  | true=>rfl
  | false=>cases d2:decide (((t.hs.length:Int)).tmod 2=0) with
   | false=>rfl
   | true=>cases d3:decide (t.V<1) with
    | true=>rfl
    | false=>cases d4:decide ((257:Int)<t.V) with
     | true=>rfl
     | false=>cases d5:decide (t.F<1) with
      | true=>rfl
      | false=>cases d6:decide ((257:Int)<t.F) with
       | true=>rfl
       | false=>cases d7:decide ((257:Int)<(t.rs.length:Int)) with
        | true=>rfl
        | false=>
         exfalso;apply hz
         have:=of_decide_eq_false d1
         have h2:=of_decide_eq_true d2
         have h2':((t.hs.length%2:Nat):Int)=0:=h2
         have:=of_decide_eq_false d3
         have:=of_decide_eq_false d4
         have:=of_decide_eq_false d5
         have:=of_decide_eq_false d6
         have:=of_decide_eq_false d7
         exact⟨by omega,by omega,by omega,by omega,by omega,by omega,by omega⟩
theorem LH(t:Tp):b9 (oK t)=some (Ni t,()):=by
 unfold b9 Ni
 have e0:(t.V,t.F,t.hs.map tH,t.rs.map tR,())=oK t:=rfl
 by_cases hz:Sz t
 ·have h1:=hz.n
  have h2:=hz.e
  have h3:=hz.V0
  have h4:=hz.V1
  have h5:=hz.F0
  have h6:=hz.F1
  have h7:=hz.R
  have hm:((t.hs.length:Int)).tmod 2=0:=by
   have:((t.hs.length:Int)).tmod 2=((t.hs.length%2:Nat):Int):=rfl
   rw[this,h2];rfl
  have d1:decide ((256:Int)<(t.hs.length:Int))=false:=decide_eq_false (by omega)
  have d2:decide ((0:Int)=1)=false:=rfl
  have d3:decide (t.V<1)=false:=decide_eq_false (by omega)
  have d4:decide ((257:Int)<t.V)=false:=decide_eq_false (by omega)
  have d5:decide (t.F<1)=false:=decide_eq_false (by omega)
  have d6:decide ((257:Int)<t.F)=false:=decide_eq_false (by omega)
  have d7:decide ((257:Int)<(t.rs.length:Int))=false:=decide_eq_false (by omega)
  have hs:=A8.2 hz
  simp only[oK,uC,uD,aA,tE,aP,hm,d1,d2,d3,d4,d5,d6,d7,cond_false]
  rw[e0,At hz,hs]
  simp only[aL,Bool.true_and]
  cases hh:hokB t with
  | false=>rfl
  | true=>
   have hk:=VW hz hh
   simp only[cond_true,Gi hk,aL,Bool.true_and]
   cases hr:LB t with
   | false=>rfl
   | true=>simp only[cond_true,TI hk hr,aL,Bool.true_and]
 ·have hs:Ud t=false:=Bool.eq_false_iff.2 fun h=>hz (A8.1 h)
  rw[hs]
  simp only[oK,uC,uD,aA,tE,aP,Bool.false_and]
  cases d1:decide ((256:Int)<(t.hs.length:Int)) with
  | true=>rfl
  | false=>cases d2:decide (((t.hs.length:Int)).tmod 2=1) with
   | true=>rfl
   | false=>cases d3:decide (t.V<1) with
    | true=>rfl
    | false=>cases d4:decide ((257:Int)<t.V) with
     | true=>rfl
     | false=>cases d5:decide (t.F<1) with
      | true=>rfl
      | false=>cases d6:decide ((257:Int)<t.F) with
       | true=>rfl
       | false=>cases d7:decide ((257:Int)<(t.rs.length:Int)) with
        | true=>rfl
        | false=>
         exfalso;apply hz
         have:=of_decide_eq_false d1
         have h2:=of_decide_eq_false d2
         have h2':¬((t.hs.length%2:Nat):Int)=1:=h2
         have:=of_decide_eq_false d3
         have:=of_decide_eq_false d4
         have:=of_decide_eq_false d5
         have:=of_decide_eq_false d6
         have:=of_decide_eq_false d7
         exact⟨by omega,by omega,by omega,by omega,by omega,by omega,by omega⟩
def Orb(f:Nat→Nat)(n:Nat)(P:Nat→Bool):Prop:=∃x m,Cyc f x m∧∀y,y∈x::m↔y<n∧P y=true
theorem Orb.cnt{f:Nat→Nat}{n:Nat}{P:Nat→Bool}{x:Nat}{m:List Nat}(hc:Cyc f x m)(h:∀y,y∈x::m↔y<n∧P y=true):cnt P n=m.length+1:=by
 rw[SV hc.2 h];rfl
theorem Orb.at{f:Nat→Nat}{n:Nat}{P:Nat→Bool}(h:Orb f n P){a:Nat}(ha:a<n)(hp:P a=true):∃m,Cyc f a m∧∀y,y∈a::m↔y<n∧P y=true:=by
 obtain⟨x,m,hc,hm⟩:=h
 rcases List.mem_cons.1 ((hm a).2 ⟨ha,hp⟩) with e | h2
 ·subst e;exact⟨m,hc,hm⟩
 ·obtain⟨l,hl,hlm,_⟩:=hc.rot h2
  exact⟨l,hl,fun y=>(hlm y).trans (hm y)⟩
theorem QT{f:Nat→Nat}{n:Nat}{P:Nat→Bool}(hcl:∀y,y<n→P y=true→f y<n∧P (f y)=true){a:Nat}(ha:a<n)(hp:P a=true){m:List Nat}(hm:Cyc f a m):MQ f a=Tl.cnt P n↔Orb f n P:=by
 constructor
 ·intro h
  rw[rE hm] at h
  have hP:∀y∈a::m,y<n∧P y=true:=KV (P:=fun y=>y<n∧P y=true) (fun y hy=>hcl y hy.1 hy.2) hm.1 ⟨ha,hp⟩
  exact⟨a,m,hm,fun y=>⟨hP y,fun hy=>N2 hm.2 hP (by simp only[List.length_cons];omega) hy.1 hy.2⟩⟩
 ·intro h
  obtain⟨l,hl,hlm⟩:=h.at ha hp
  rw[rE hl,Orb.cnt hl hlm]
theorem Orb.ext{f g:Nat→Nat}{n n':Nat}{P P':Nat→Bool}(h:Orb f n P)(ge:∀y,y<n→P y=true→g y=f y)(hP:∀y,(y<n'∧P' y=true)↔(y<n∧P y=true)):Orb g n' P':=by
 obtain⟨x,m,hm,hmm⟩:=h
 exact⟨x,m,hm.ext fun y hy=>(ge y ((hmm y).1 hy).1 ((hmm y).1 hy).2).symm,fun y=>(hmm y).trans (hP y).symm⟩
theorem Orb.one{g:Nat→Nat}{n':Nat}{P':Nat→Bool}{a:Nat}(ga:g a=a)(hP:∀y,(y<n'∧P' y=true)↔y=a):Orb g n' P':=
 ⟨a,[],⟨ga,by simp⟩,fun y=>by rw[hP y];simp⟩
structure CKP (t:Tp):Prop extends Hok t where
 rc:∀r,r<t.rs.length→0≤(rG t.rs r).c∧(rG t.rs r).c<t.F
 rr:∀r:Nat,r<t.rs.length→((rG t.rs r).h=-1∧0≤(rG t.rs r).v∧(rG t.rs r).v<t.V∧∀k,k<t.hs.length→GP t r k=false)∨(0≤(rG t.rs r).h∧(rG t.rs r).h<t.hs.length∧(hG t.hs (rG t.rs r).h).r=r∧(rG t.rs r).v=-1∧Orb (nx t) t.hs.length (GP t r))
 fc:∀f:Nat,f<t.F.toNat→∃j,j<t.rs.length∧(rG t.rs j).c.toNat=f
 vv:∀v:Nat,v<t.V.toNat→(cnt (DB t v) t.rs.length=1∧∀k,k<t.hs.length→jQ t v k=false)∨((∀r,r<t.rs.length→DB t v r=false)∧Orb (sg t) t.hs.length (jQ t v))
theorem qC{P:Nat→Bool}{n:Nat}:cnt P n=0↔∀k,k<n→P k=false:=by
 constructor
 ·intro h k hk
  cases hp:P k with
  | false=>rfl
  | true=>have:=IJ.2 ⟨k,hk,hp⟩;omega
 ·intro h
  by_cases h2:0<cnt P n
  ·obtain⟨k,hk,hp⟩:=IJ.1 h2
   rw[h k hk] at hp;cases hp
  ·omega
theorem Hok.rcl{t:Tp}(ht:Hok t)(r:Int):∀y,y<t.hs.length→GP t r y=true→nx t y<t.hs.length∧GP t r (nx t y)=true:=fun y hy hp=>
 ⟨ht.nx_lt hy,by unfold GP at *;rw[ht.rg hy];exact hp⟩
theorem Hok.vcl{t:Tp}(ht:Hok t)(v:Int):∀y,y<t.hs.length→jQ t v y=true→sg t y<t.hs.length∧jQ t v (sg t y)=true:=fun y hy hp=>
 ⟨ht.sg_lt hy,by unfold jQ at *;rw[ht.sg_f hy];exact hp⟩
theorem V7{t:Tp}(ht:Hok t)(r:Nat):rB t r=true↔(0≤(rG t.rs r).c∧(rG t.rs r).c<t.F)∧(((rG t.rs r).h=-1∧0≤(rG t.rs r).v∧(rG t.rs r).v<t.V∧∀k,k<t.hs.length→GP t r k=false)∨(0≤(rG t.rs r).h∧(rG t.rs r).h<t.hs.length∧(hG t.hs (rG t.rs r).h).r=r∧(rG t.rs r).v=-1∧Orb (nx t) t.hs.length (GP t r))):=by
 unfold rB
 rw[Bool.and_eq_true,lX]
 refine and_congr_right fun _=>?_
 by_cases h:(rG t.rs r).h=-1
 ·rw[decide_eq_true h,cond_true,Bool.and_eq_true,lX]
  constructor
  ·rintro ⟨h1,h2⟩
   refine .inl ⟨h,h1.1,h1.2,qC.1 ?_⟩
   have:=of_decide_eq_false (Bool.not_eq_true' _▸h2)
   omega
  ·rintro (⟨_,h1,h2,h3⟩ | ⟨h1,_⟩)
   ·refine⟨⟨h1,h2⟩,?_⟩
    rw[qC.2 h3];rfl
   ·omega
 ·rw[decide_eq_false h,cond_false,Bool.and_eq_true,Bool.and_eq_true,Bool.and_eq_true,lX,decide_eq_true_eq,decide_eq_true_eq,decide_eq_true_eq]
  constructor
  ·rintro ⟨⟨h1,h2⟩,h3,h4,h5⟩
   obtain⟨x,hx⟩:∃x:Nat,(rG t.rs r).h=(x:Int):=⟨(rG t.rs r).h.toNat,by omega⟩
   rw[hx] at h2 h3 h5 ⊢
   rw[Int.toNat_natCast] at h5
   obtain⟨m,hm,_⟩:=ht.ncyc (k:=x) (by omega)
   exact .inr ⟨by omega,h2,h3,h4,(QT (ht.rcl r) (by omega) (decide_eq_true h3) hm).1 (by omega)⟩
  ·rintro (⟨h1,_⟩ | ⟨h1,h2,h3,h4,h5⟩)
   ·exact absurd h1 h
   ·obtain⟨x,hx⟩:∃x:Nat,(rG t.rs r).h=(x:Int):=⟨(rG t.rs r).h.toNat,by omega⟩
    rw[hx] at h2 h3 ⊢
    rw[Int.toNat_natCast]
    obtain⟨m,hm,_⟩:=ht.ncyc (k:=x) (by omega)
    have:=(QT (ht.rcl r) (by omega) (decide_eq_true h3) hm).2 h5
    exact⟨⟨by omega,h2⟩,h3,h4,by omega⟩
theorem Gj{t:Tp}(ht:Hok t)(v:Nat):vB t v=true↔(cnt (DB t v) t.rs.length=1∧∀k,k<t.hs.length→jQ t v k=false)∨((∀r,r<t.rs.length→DB t v r=false)∧Orb (sg t) t.hs.length (jQ t v)):=by
 rw[←Nh ht v]
 unfold vP
 by_cases h0:vc t v=0
 ·have h1:decide ((vc t v:Int)=0)=true:=decide_eq_true (by omega)
  rw[h1,cond_true,decide_eq_true_eq]
  constructor
  ·intro h;exact .inl ⟨by have:(sc t v:Int)=(cnt (DB t v) t.rs.length:Int):=rfl;omega,qC.1 h0⟩
  ·rintro (⟨h,_⟩ | ⟨_,x,m,_,hm⟩)
   ·have:(sc t v:Int)=(cnt (DB t v) t.rs.length:Int):=rfl
    omega
   ·have h2:=(hm x).1 (by simp)
    rw[qC.1 h0 x h2.1] at h2;cases h2.2
 ·have h1:decide ((vc t v:Int)=0)=false:=decide_eq_false (by omega)
  rw[h1,cond_false]
  obtain⟨hl,hlv⟩:=QS (P:=jQ t v) (n:=t.hs.length) (by have:vc t v=cnt (jQ t v) t.hs.length:=rfl;omega)
  obtain⟨m,hm,_⟩:=ht.scyc hl
  have ho:=QT (ht.vcl v) hl hlv hm
  by_cases h2:0<sc t v
  ·have h3:decide ((0:Int)<(sc t v:Int))=true:=decide_eq_true (by omega)
   rw[h3,cond_true]
   constructor
   ·intro h;cases h
   ·rintro (⟨_,h⟩ | ⟨h,_⟩)
    ·exact absurd (qC.2 h) h0
    ·have h4:sc t v=0:=qC.2 h
     omega
  ·have h3:decide ((0:Int)<(sc t v:Int))=false:=decide_eq_false (by omega)
   rw[h3,cond_false,decide_eq_true_eq]
   constructor
   ·intro h
    exact .inr ⟨qC.1 (by have:sc t v=cnt (DB t v) t.rs.length:=rfl;omega),ho.1 (by have:vc t v=cnt (jQ t v) t.hs.length:=rfl;omega)⟩
   ·rintro (⟨_,h⟩ | ⟨_,h⟩)
    ·exact absurd (qC.2 h) h0
    ·have:=ho.2 h
     have:vc t v=cnt (jQ t v) t.hs.length:=rfl
     omega
theorem E6{t:Tp}:Ni t=true↔CKP t:=by
 unfold Ni
 rw[Bool.and_eq_true,Bool.and_eq_true,Bool.and_eq_true]
 constructor
 ·rintro ⟨hz,hh,hr,hv⟩
  have ht:=VW (A8.1 hz) hh
  unfold LB at hr
  rw[Bool.and_eq_true] at hr
  unfold V6 at hv
  have h1:=lY.1 hr.1
  have h2:=lY.1 hr.2
  have h3:=lY.1 hv
  exact { ht with rc:=fun r h=>((V7 ht r).1 (h1 r h)).1,rr:=fun r h=>((V7 ht r).1 (h1 r h)).2,fc:=fun f h=>of_decide_eq_true (h2 f h),vv:=fun v h=>(Gj ht v).1 (h3 v h) }
 ·intro h
  refine⟨A8.2 h.toSz,h.hokB,?_,?_⟩
  ·unfold LB
   rw[Bool.and_eq_true]
   exact⟨lY.2 fun r hr=>(V7 h.toHok r).2 ⟨h.rc r hr,h.rr r hr⟩,lY.2 fun f hf=>decide_eq_true (h.fc f hf)⟩
  ·unfold V6
   exact lY.2 fun v hv=>(Gj h.toHok v).2 (h.vv v hv)
def fZ(n:Nat)(g:Nat→Int):List T:=(List.range n).map fun v=>tI (g v)
theorem GS(n:Nat)(g:Nat→Int):(fZ n g).length=n:=by simp[fZ]
theorem eB{n:Nat}{g:Nat→Int}{v:Nat}(h:v<n):(fZ n g)[v]?=some (tI (g v)):=by simp[fZ,h]
theorem xG{n:Nat}{g:Nat→Int}{v:Nat}(h:v<n):idxL (fZ n g) (v:Int)=some (tI (g v)):=by rw[mH,eB h]
theorem cM{n:Nat}{g g':Nat→Int}(h:∀v,v<n→g v=g' v):fZ n g=fZ n g':=by
 unfold fZ
 refine List.map_congr_left fun v hv=>?_
 rw[h v (List.mem_range.1 hv)]
theorem kD{n:Nat}{g:Nat→Int}{v:Nat}{x:Int}:(fZ n g).set v (tI x)=fZ n (fun w=>if w=v then x else g w):=by
 refine List.ext_getElem? fun i=>?_
 rw[List.getElem?_set]
 by_cases hi:i<n
 ·rw[eB (g:=fun w=>if w=v then x else g w) hi]
  by_cases e:v=i
  ·subst e
   rw[if_pos rfl,if_pos (by rw[GS];exact hi)]
   exact congrArg (fun z=>some (tI z)) (if_pos rfl).symm
  ·rw[if_neg e,eB hi]
   exact congrArg (fun z=>some (tI z)) (if_neg (fun h:i=v=>e h.symm)).symm
 ·have h1:(fZ n g)[i]?=none:=List.getElem?_eq_none (by rw[GS];omega)
  have h2:(fZ n (fun w=>if w=v then x else g w))[i]?=none:=List.getElem?_eq_none (by rw[GS];omega)
  rw[h1,h2]
  split
  ·split
   ·rename_i h3 h4;rw[GS] at h4;omega
   ·rfl
  ·rfl
theorem xH(n:Nat)(c:Int):List.replicate n (tI c)=fZ n (fun _=>c):=by
 unfold fZ
 rw[List.map_const',List.length_range]
theorem cN(n:Nat)(g:Nat→Int):lenL (fZ n g)=(n:Int):=by rw[cH,GS]
theorem kE{n i:Nat}(h:i<n):chkI (n:Int) (i:Int)=some i:=kJ (by omega)
theorem Ue(a b:Nat):mmI false (a:Int) (b:Int)=((min a b:Nat):Int):=by
 unfold mmI;simp only[Bool.false_eq_true,if_false];omega
def ff(t:Tp)(k:Nat):Nat:=(rG t.rs (hG t.hs k).r).c.toNat
def nF(t:Tp):Nat:=t.F.toNat
theorem CKP.ff_i{t:Tp}(h:CKP t){k:Nat}(hk:k<t.hs.length):(rG t.rs (hG t.hs k).r).c=(ff t k:Int)∧ff t k<nF t:=by
 obtain⟨_,_,_,h1,h2⟩:=uE.1 (h.b1 k hk)
 obtain⟨r,hr⟩:∃r:Nat,(hG t.hs k).r=(r:Int):=⟨(hG t.hs k).r.toNat,by omega⟩
 have:=h.rc r (by omega)
 unfold ff nF
 rw[hr]
 omega
theorem CKP.nF_i{t:Tp}(h:CKP t):((nF t:Nat):Int)=t.F∧nF t≤257:=by
 have:=h.F0;have:=h.F1
 unfold nF;omega
open Classical in
noncomputable def rl(t:Tp)(a b:Nat):Bool:=decide (∃k,k<t.hs.length∧ff t k=a∧ff t (mt k)=b)
theorem LI{t:Tp}{a b:Nat}:rl t a b=true↔∃k,k<t.hs.length∧ff t k=a∧ff t (mt k)=b:=by
 unfold rl;exact decide_eq_true_iff
theorem tQ{t:Tp}(h:CKP t)(a b:Nat):rl t a b=rl t b a:=by
 have key:∀a b,rl t a b=true→rl t b a=true:=fun a b h1=>by
  obtain⟨k,hk,e1,e2⟩:=LI.1 h1
  exact LI.2 ⟨mt k,EV h.e hk,e2,by rw[Fe];exact e1⟩
 cases h1:rl t a b with
 | true=>exact(key a b h1).symm
 | false=>
  cases h2:rl t b a with
  | false=>rfl
  | true=>rw[key b a h2] at h1;cases h1
theorem CKP.idx{t:Tp}(h:CKP t){k:Nat}(hk:k<t.hs.length):idxL (t.hs.map tH) (k:Int)=some (tH (hG t.hs k))∧idxL (t.rs.map tR) (hG t.hs k).r=some (tR (rG t.rs (hG t.hs k).r)):=by
 obtain⟨_,_,_,h1,h2⟩:=uE.1 (h.b1 k hk)
 exact⟨qB (by omega) (by omega),Aq h1 h2⟩
def Nj(t:Tp)(i:Nat):Unit×List T×Int×Int×Int×List T×List T×Unit:=((),fZ (nF t) (fun v=>if v<i then (v:Int) else 0),(i:Int),t.V,t.F,t.hs.map tH,t.rs.map tR,())
theorem Xe{t:Tp}(h:CKP t){i:Nat}(hi:i<nF t):gG (Nj t i)=some (.inl (Nj t (i+1))):=by
 have hN:=h.nF_i.2
 have hlt:decide ((i:Int)<(nF t:Int))=true:=decide_eq_true (by omega)
 unfold gG Nj
 simp only[aA,cN,hlt,cond_true,kE hi,aL,aU,eB hi,aO,iR,aE,wk (k:=i) (by omega),kD]
 have e:fZ (nF t) (fun w=>if w=i then (i:Int) else if w<i then (w:Int) else 0)=fZ (nF t) (fun v=>if v<i+1 then (v:Int) else 0):=cM fun v _=>by
  by_cases e1:v=i
  ·subst e1;rw[if_pos rfl,if_pos (by omega)]
  ·rw[if_neg e1]
   by_cases e2:v<i
   ·rw[if_pos e2,if_pos (by omega)]
   ·rw[if_neg e2,if_neg (by omega)]
 rw[e]
theorem Kp{t:Tp}:gG (Nj t (nF t))=some (.inr (.inl ((),fZ (nF t) (fun v=>(v:Int)),t.V,t.F,t.hs.map tH,t.rs.map tR,()))):=by
 have hlt:decide ((nF t:Int)<(nF t:Int))=false:=decide_eq_false (by omega)
 unfold gG Nj
 simp only[aA,cN,hlt,cond_false]
 rw[cM (g:=fun v=>if v<nF t then (v:Int) else 0) (g':=fun v=>(v:Int)) fun v hv=>if_pos hv]
def Kq(t:Tp)(lb:Nat→Nat)(r k:Nat):Unit×List T×Int×Int×Int×Int×List T×List T×Unit:=((),fZ (nF t) (fun v=>(lb v:Int)),(r:Int),(k:Int),t.V,t.F,t.hs.map tH,t.rs.map tR,())
theorem Vf{t:Tp}(h:CKP t){lb:Nat→Nat}{r k:Nat}(hk:k<t.hs.length):gH (Kq t lb r k)=some (.inl (Kq t (jn lb (ff t k) (ff t (mt k))) r (k+1))):=by
 have hn:=h.n
 have hm:=EV h.e hk
 have hlt:decide ((k:Int)<(t.hs.length:Int))=true:=decide_eq_true (by omega)
 obtain⟨i1,i2⟩:=h.idx hk
 obtain⟨j1,j2⟩:=h.idx hm
 obtain⟨a1,a2⟩:=h.ff_i hk
 obtain⟨c1,c2⟩:=h.ff_i hm
 unfold gH Kq
 simp only[aA,uC,hlt,cond_true,i1,i2,aL,KZ,jZ,GK (k:=k) (by omega),j1,j2,Fb,a1,c1,cN,kE a2,kE c2,aU,eB a2,eB c2,cD,aQ,Ue,aO,iR,kD,aE,wk (k:=k) (by omega)]
 rw[cM (g':=fun v=>((jn lb (ff t k) (ff t (mt k)) v:Nat):Int)) fun v _=>by
  unfold jn
  by_cases e1:v=ff t (mt k)
  ·simp only[if_pos e1]
  ·by_cases e2:v=ff t k
   ·simp only[if_neg e1,if_pos e2]
   ·simp only[if_neg e1,if_neg e2]]
theorem Gk{t:Tp}(h:CKP t)(lb:Nat→Nat)(r:Nat):aC gH (Kq t lb r 0)=some (.inl ((),fZ (nF t) (fun v=>((Ce (fun k=>ff t k) (fun k=>ff t (mt k)) lb t.hs.length v:Nat):Int)),(r:Int),t.V,t.F,t.hs.map tH,t.rs.map tR,())):=by
 have hlt:decide ((t.hs.length:Int)<(t.hs.length:Int))=false:=decide_eq_false (by omega)
 have h1:=aH (F:=gH) t.hs.length (fun k=>Kq t (Ce (fun k=>ff t k) (fun k=>ff t (mt k)) lb k) r k) (fun k hk=>Vf h hk)
 have h0:Kq t (Ce (fun k=>ff t k) (fun k=>ff t (mt k)) lb 0) r 0=Kq t lb r 0:=rfl
 rw[←h0,h1]
 refine aF ?_
 unfold gH Kq
 simp only[aA,uC,hlt,cond_false]
def Qg(t:Tp)(r:Nat):Unit×List T×Int×Int×Int×List T×List T×Unit:=((),fZ (nF t) (fun v=>((xF (fun k=>ff t k) (fun k=>ff t (mt k)) t.hs.length r v:Nat):Int)),(r:Int),t.V,t.F,t.hs.map tH,t.rs.map tR,())
theorem YA{t:Tp}(h:CKP t){r:Nat}(hr:r<nF t):gI (Qg t r)=some (.inl (Qg t (r+1))):=by
 obtain⟨hN1,hN2⟩:=h.nF_i
 have hlt:decide ((r:Int)<t.F)=true:=decide_eq_true (by omega)
 have hl:=Gk h (xF (fun k=>ff t k) (fun k=>ff t (mt k)) t.hs.length r) r
 unfold Kq at hl
 unfold gI Qg
 simp only[aA,hlt,cond_true]
 have e0:((0:Nat):Int)=0:=rfl
 rw[e0] at hl
 rw[hl]
 simp only[aL,aI,aE,wk (k:=r) (by omega)]
 rfl
theorem Kr{t:Tp}(h:CKP t):gI (Qg t (nF t))=some (.inr (.inl (fZ (nF t) (fun v=>((c6 (nF t) (rl t) v:Nat):Int)),()))):=by
 obtain⟨hN1,hN2⟩:=h.nF_i
 have hlt:decide ((nF t:Int)<t.F)=false:=decide_eq_false (by omega)
 unfold gI Qg
 simp only[aA,hlt,cond_false]
 rw[cM (g':=fun v=>((c6 (nF t) (rl t) v:Nat):Int)) fun v hv=>by
  rw[Gh (r:=rl t) (tQ h) (fa:=fun k=>ff t k) (fb:=fun k=>ff t (mt k)) (n:=t.hs.length) (fun k hk=>⟨(h.ff_i hk).2,(h.ff_i (EV h.e hk)).2,LI.2 ⟨k,hk,rfl,rfl⟩⟩) (fun a b _ hr=>LI.1 hr) hv]]
noncomputable def Nl(t:Tp)(i:Nat):List T×List T×Int×Int×Unit:=(fZ (nF t) (fun v=>((c6 (nF t) (rl t) v:Nat):Int)),fZ (nF t) (fun v=>if v<i then ((qT (nF t) (rl t) v:Nat):Int) else 0),((eO (nF t) (rl t) i:Nat):Int),(i:Int),())
theorem Xf{t:Tp}(h:CKP t){i:Nat}(hi:i<nF t):bX (Nl t i)=some (.inl (Nl t (i+1))):=by
 obtain⟨hN1,hN2⟩:=h.nF_i
 have hlt:decide ((i:Int)<(nF t:Int))=true:=decide_eq_true (by omega)
 have hle:=xE (r:=rl t) hi
 have hll:=pE (r:=rl t) (tQ h) hi
 have hrk:=A7 (N:=nF t) (r:=rl t) i
 have hset:∀x:Int,x=((qT (nF t) (rl t) i:Nat):Int)→fZ (nF t) (fun w=>if w=i then x else if w<i then ((qT (nF t) (rl t) w:Nat):Int) else 0)=fZ (nF t) (fun v=>if v<i+1 then ((qT (nF t) (rl t) v:Nat):Int) else 0):=fun x hx=>cM fun v _=>by
  by_cases e1:v=i
  ·subst e1;rw[if_pos rfl,if_pos (by omega),hx]
  ·rw[if_neg e1]
   by_cases e2:v<i
   ·rw[if_pos e2,if_pos (by omega)]
   ·rw[if_neg e2,if_neg (by omega)]
 unfold bX Nl
 simp only[aA,cN,hlt,cond_true,xG hi,aL,cD,aQ,aP]
 by_cases hc:c6 (nF t) (rl t) i=i
 ·have hd:decide (((c6 (nF t) (rl t) i:Nat):Int)=(i:Int))=true:=decide_eq_true (by omega)
  simp only[hd,cond_true,kE hi,aL,aU,eB hi,aO,iR,kD,aI,aE,wk (k:=i) (by omega),wk (k:=eO (nF t) (rl t) i) (by omega)]
  rw[hset _ (by unfold qT;rw[hc])]
  have:eO (nF t) (rl t) (i+1)=eO (nF t) (rl t) i+1:=by
   show eO _ _ i+(if _ then 1 else 0)=_
   rw[if_pos hc]
  rw[this]
 ·have hd:decide (((c6 (nF t) (rl t) i:Nat):Int)=(i:Int))=false:=decide_eq_false (by omega)
  have hl2:c6 (nF t) (rl t) i<nF t:=by omega
  simp only[hd,cond_false,kE hi,kE hl2,aL,aU,eB hi,eB hl2,cD,jZ,aQ,aO,iR,kD,aI,aE,wk (k:=i) (by omega)]
  rw[hset _ (by rw[if_pos (by omega)];unfold qT;rw[hll])]
  have:eO (nF t) (rl t) (i+1)=eO (nF t) (rl t) i:=by
   show eO _ _ i+(if _ then 1 else 0)=_
   rw[if_neg hc];rfl
  rw[this]
noncomputable def shl(t:Tp):List T:=fZ (nF t) (fun v=>((qT (nF t) (rl t) v:Nat):Int))
theorem Gl{t:Tp}(h:CKP t):f8 (fZ (nF t) (fun v=>((c6 (nF t) (rl t) v:Nat):Int)),())=some (shl t,()):=by
 obtain⟨hN1,hN2⟩:=h.nF_i
 have hlt:decide ((nF t:Int)<(nF t:Int))=false:=decide_eq_false (by omega)
 have l0:=aH (F:=bX) (nF t) (Nl t) (fun k hk=>Xf h hk)
 have l1:aC bX (Nl t (nF t))=some (.inl (shl t,())):=by
  refine aF ?_
  unfold bX Nl
  simp only[aA,cN,hlt,cond_false]
  unfold shl
  rw[cM (g:=fun v=>if v<nF t then ((qT (nF t) (rl t) v:Nat):Int) else 0) (g':=fun v=>((qT (nF t) (rl t) v:Nat):Int)) fun v hv=>if_pos hv]
 unfold f8
 have hmk:mkLen ((nF t:Nat):Int) ((nF t:Nat):Int) 8=some (nF t,nF t):=gN (by omega) (by omega) (by omega) (by omega)
 simp only[cN,hmk,aL,lR,aO,xH]
 have e0:(fZ (nF t) (fun v=>((c6 (nF t) (rl t) v:Nat):Int)),fZ (nF t) (fun _=>0),(0:Int),(0:Int),())=Nl t 0:=by
  unfold Nl
  rw[cM (g:=fun v=>if v<0 then ((qT (nF t) (rl t) v:Nat):Int) else 0) (g':=fun _=>0) fun v _=>if_neg (by omega)]
  rfl
 rw[e0,l0,l1]
 rfl
theorem OE{t:Tp}(h:CKP t):iQ (oK t)=some (shl t,()):=by
 obtain⟨hN1,hN2⟩:=h.nF_i
 have l0:=aH (F:=gG) (nF t) (Nj t) (fun k hk=>Xe h hk)
 have l0':=aF (Kp (t:=t))
 have l1:=aH (F:=gI) (nF t) (Qg t) (fun k hk=>YA h hk)
 have l1':=aF (Kr h)
 have hck:hJ (t.V,t.F,t.hs.map tH,t.rs.map tR,())=some (true,()):=by
  have:=LG t
  rw[E6.2 h] at this
  exact this
 have hmk:mkLen t.F t.F 8=some (nF t,nF t):=gN (by omega) (by omega) (by omega) (by omega)
 unfold iQ oK
 simp only[hck,aL,Bool.not_true,cond_false,hmk,lR,aO,xH]
 have e0:((),fZ (nF t) (fun _=>0),(0:Int),t.V,t.F,t.hs.map tH,t.rs.map tR,())=Nj t 0:=by
  unfold Nj
  rw[cM (g:=fun v=>if v<0 then (v:Int) else 0) (g':=fun _=>0) fun v _=>if_neg (by omega)]
  rfl
 rw[e0,l0,l0']
 simp only[aL,aI]
 have e1:((),fZ (nF t) (fun v=>(v:Int)),(0:Int),t.V,t.F,t.hs.map tH,t.rs.map tR,())=Qg t 0:=rfl
 rw[e1,l1,l1']
 simp only[aL,aI,Gl h]
def A9(t:Tp)(v:Nat):Nat→List Nat
 | 0=>[]
 | k+1=>if ff t k=v then A9 t v k++[ff t (mt k)] else A9 t v k
theorem YB{t:Tp}{v w:Nat}:∀{k:Nat},w∈A9 t v k↔∃j,j<k∧ff t j=v∧ff t (mt j)=w
 | 0=>by simp[A9]
 | k+1=>by
  have ih:=YB (t:=t) (v:=v) (w:=w) (k:=k)
  unfold A9
  by_cases e:ff t k=v
  ·rw[if_pos e,List.mem_append,ih]
   constructor
   ·rintro (⟨j,a,b,c⟩ | h)
    ·exact⟨j,by omega,b,c⟩
    ·exact⟨k,by omega,e,(by simpa using h:w=ff t (mt k)).symm⟩
   ·rintro ⟨j,a,b,c⟩
    by_cases ej:j=k
    ·subst ej;right;simp[c]
    ·left;exact⟨j,by omega,b,c⟩
  ·rw[if_neg e,ih]
   constructor
   ·rintro ⟨j,a,b,c⟩;exact⟨j,by omega,b,c⟩
   ·rintro ⟨j,a,b,c⟩
    by_cases ej:j=k
    ·subst ej;exact absurd b e
    ·exact⟨j,by omega,b,c⟩
theorem IN(t:Tp)(v:Nat):∀k,(A9 t v k).length≤k
 | 0=>by simp[A9]
 | k+1=>by
  have ih:=IN t v k
  unfold A9
  split
  ·simp;omega
  ·omega
def fR(n:Nat)(g:Nat→List Nat):List (List T):=(List.range n).map fun v=>tN (g v)
theorem GT(n:Nat)(g:Nat→List Nat):(fR n g).length=n:=by simp[fR]
theorem LJ{n:Nat}{g:Nat→List Nat}{v:Nat}(h:v<n):(fR n g)[v]?=some (tN (g v)):=by simp[fR,h]
theorem Qh{n:Nat}{g g':Nat→List Nat}{v:Nat}{l:List Nat}(h:∀w,w<n→g' w=if w=v then l else g w):(fR n g).set v (tN l)=fR n g':=by
 refine List.ext_getElem? fun i=>?_
 rw[List.getElem?_set]
 by_cases hi:i<n
 ·rw[LJ hi,LJ hi,h i hi]
  by_cases e:v=i
  ·subst e
   rw[if_pos rfl,if_pos (by rw[GT];exact hi),if_pos rfl]
  ·rw[if_neg e,if_neg (fun h:i=v=>e h.symm)]
 ·have h1:(fR n g)[i]?=none:=List.getElem?_eq_none (by rw[GT];omega)
  have h2:(fR n g')[i]?=none:=List.getElem?_eq_none (by rw[GT];omega)
  rw[h1,h2]
  split
  ·split
   ·rename_i h3 h4;rw[GT] at h4;omega
   ·rfl
  ·rfl
def Nm(t:Tp)(k:Nat):Unit×List (List T)×List T×Int×Int×Int×Int×List T×List T×Unit:=((),fR (nF t) (fun v=>A9 t v k),t.hs.map tH,(t.hs.length:Int),(k:Int),t.V,t.F,t.hs.map tH,t.rs.map tR,())
theorem Xg{t:Tp}(h:CKP t){k:Nat}(hk:k<t.hs.length):cX (Nm t k)=some (.inl (Nm t (k+1))):=by
 have hn:=h.n
 have hm:=EV h.e hk
 have hlt:decide ((k:Int)<(t.hs.length:Int))=true:=decide_eq_true (by omega)
 obtain⟨i1,i2⟩:=h.idx hk
 obtain⟨j1,j2⟩:=h.idx hm
 obtain⟨a1,a2⟩:=h.ff_i hk
 obtain⟨c1,c2⟩:=h.ff_i hm
 have hlen:=IN t (ff t k) k
 have eN:∀a:Nat,WI a a=some ():=fun a=>by unfold WI;exact if_pos rfl
 have hl1:∀l:List (List T),lenL (List.set (fR (nF t) fun v=>A9 t v k) (ff t k) l.flatten)=(nF t:Int):=fun l=>by rw[cH,List.length_set,GT]
 have hrm:room (tN (A9 t (ff t k) k)) [tI ((ff t (mt k):Nat):Int)] 8=some (tN (A9 t (ff t k) k++[ff t (mt k)])):=by
  rw[mR (by rw[sQ];simp;omega) (by omega)]
  rw[VX];rfl
 have hset:(fR (nF t) fun v=>A9 t v k).set (ff t k) (tN (A9 t (ff t k) k++[ff t (mt k)]))=fR (nF t) fun v=>A9 t v (k+1):=Qh fun w _=>by
  show (if ff t k=w then _ else _)=_
  by_cases e:ff t k=w
  ·rw[if_pos e,if_pos e.symm,e]
  ·rw[if_neg e,if_neg (fun e'=>e e'.symm)]
 have hget:(fR (nF t) fun v=>A9 t v (k+1))[ff t k]?=some (tN (A9 t (ff t k) (k+1))):=LJ a2
 unfold cX Nm
 simp only[aA,hlt,cond_true,i1,i2,aL,KZ,jZ,QB (k:=k) (by omega),j1,j2,Fb,a1,c1,cH,GT,kE a2,aU,LJ a2,aQ,aO,hrm,hset,eN,aE,wk (k:=k) (by omega)]
theorem Ks{t:Tp}:cX (Nm t t.hs.length)=some (.inr (.inl ((),n4 1 (fR (nF t) (fun v=>A9 t v t.hs.length)),t.V,t.F,t.hs.map tH,t.rs.map tR,()))):=by
 have hlt:decide ((t.hs.length:Int)<(t.hs.length:Int))=false:=decide_eq_false (by omega)
 unfold cX Nm
 simp only[aA,hlt,cond_false]
def E7(t:Tp):List T:=n4 1 (fR (nF t) (fun v=>A9 t v t.hs.length))
theorem Bz{t:Tp}{v:Nat}(h:v<nF t):idxL (E7 t) (v:Int)=some (T.sl 1 (tN (A9 t v t.hs.length))):=by
 rw[mH]
 unfold E7 n4
 rw[List.getElem?_map,LJ h]
 rfl
def Nn(t:Tp)(i:Nat):List T×List T×Int×Int×Unit:=(E7 t,fZ (nF t) (fun v=>if v<i then -1 else 0),(nF t:Int),(i:Int),())
theorem Xh{t:Tp}(h:CKP t){i:Nat}(hi:i<nF t):cY (Nn t i)=some (.inl (Nn t (i+1))):=by
 have hN:=h.nF_i.2
 have hlt:decide ((i:Int)<(nF t:Int))=true:=decide_eq_true (by omega)
 unfold cY Nn
 simp only[aA,cN,hlt,cond_true,kE hi,aL,aU,eB hi,aO,iR,aE,wk (k:=i) (by omega),kD]
 have e:fZ (nF t) (fun w=>if w=i then (-1:Int) else if w<i then -1 else 0)=fZ (nF t) (fun v=>if v<i+1 then (-1:Int) else 0):=cM fun v _=>by
  by_cases e1:v=i
  ·subst e1;rw[if_pos rfl,if_pos (by omega)]
  ·rw[if_neg e1]
   by_cases e2:v<i
   ·rw[if_pos e2,if_pos (by omega)]
   ·rw[if_neg e2,if_neg (by omega)]
 rw[e]
theorem Kt{t:Tp}:cY (Nn t (nF t))=some (.inr (.inl (E7 t,fZ (nF t) (fun _=>-1),()))):=by
 have hlt:decide ((nF t:Int)<(nF t:Int))=false:=decide_eq_false (by omega)
 unfold cY Nn
 simp only[aA,hlt,cond_false]
 rw[cM (g:=fun v=>if v<nF t then (-1:Int) else 0) (g':=fun _=>-1) fun v hv=>if_pos hv]
def No(t:Tp)(out:Nat→Int)(sh:Nat)(todo:List Nat)(i:Nat):List T×List T×Int×List T×Int×Int×Unit:=(E7 t,fZ (nF t) out,(sh:Int),tN todo,(nF t:Int),(i:Int),())
theorem Np{nb:Nat→List Nat}{B:Nat}(h:∀v,(nb v).length≤B)(out:Nat→Int):∀n,wt nb out n≤n*B
 | 0=>by simp[wt]
 | n+1=>by
  have ih:=Np h out n
  have:=h n
  simp only[wt,Nat.add_mul,Nat.one_mul]
  split <;> omega
theorem YC{t:Tp}{out:Nat→Int}{sh i:Nat}:cZ (No t out sh [] i)=some (.inr (.inl (E7 t,fZ (nF t) out,(sh:Int),(nF t:Int),(i:Int),()))):=by
 unfold cZ No
 simp only[aA,cH,sQ,List.length_nil]
 rfl
theorem Xi{t:Tp}{out:Nat→Int}{sh i g:Nat}{todo:List Nat}(hg:g<nF t)(hl:todo.length≤1000000)(hh:t.hs.length≤256):cZ (No t out sh (g::todo) i)=some (.inl (bif decide (out g<0) then No t (fun v=>if v=g then (sh:Int) else out v) sh (todo++A9 t g t.hs.length) i else No t out sh todo i)):=by
 have hlen:=IN t g t.hs.length
 have hlt:decide ((0:Int)<((g::todo).length:Int))=true:=decide_eq_true (by simp only[List.length_cons];omega)
 have hc:chkI ((g::todo).length:Int) (0:Int)=some 0:=kJ (i:=0) (by simp only[List.length_cons];omega)
 have hcut:Y1 ((g::todo).length:Int) (1:Int) ((g::todo).length:Int)=some (1,todo.length):=by
  unfold Y1
  rw[if_pos ⟨by omega,by simp only[List.length_cons];omega,by omega⟩]
  have:(((g::todo).length:Int)-1).toNat=todo.length:=by simp only[List.length_cons];omega
  rw[this];rfl
 have hcn:k5 (tN (g::todo)) 1 todo.length=tN todo:=by
  have h1:(tN (g::todo)).drop 1=tN todo:=rfl
  have h2:todo.length=(tN todo).length:=by rw[sQ]
  unfold k5
  rw[h1,h2,List.take_length]
 have h0:(tN (g::todo))[0]?=some (tI (g:Int)):=rfl
 have hrm:room (tN todo) (tN (A9 t g t.hs.length)) 8=some (tN (todo++A9 t g t.hs.length)):=by
  rw[mR (by rw[sQ,sQ];omega) (by omega),VX]
 have hrw:T.rw? 1 (T.sl 1 (tN (A9 t g t.hs.length)))=some (tN (A9 t g t.hs.length)):=P0 _ _ (by omega)
 unfold cZ No
 simp only[aA,cH,sQ,hlt,cond_true,hc,aL,aU,h0,hcut,cD,jZ,GS,kE hg,eB hg,aQ,Bz hg,Al,hrw,hcn,hrm,aO,iR,kD]
 cases decide (out g<0) <;> rfl
theorem Gm{t:Tp}(h:CKP t){i:Nat}(hi:i<nF t)(hl:c6 (nF t) (rl t) i=i):∀(m:Nat) (out:Nat→Int) (todo:List Nat),Srch (nF t) (rl t) i out todo→todo.length+wt (fun v=>A9 t v t.hs.length) out (nF t)≤m→m≤1000000→aC cZ (No t out (eO (nF t) (rl t) i) todo i)=some (.inl (E7 t,fZ (nF t) (rI (nF t) (rl t) (i+1)),((eO (nF t) (rl t) i:Nat):Int),(nF t:Int),(i:Int),())):=by
 intro m
 induction m with
 | zero=>
  intro out todo hs hm _
  have:todo=[]:=List.length_eq_zero_iff.1 (by omega)
  subst this
  rw[aF YC,cM (TF (tQ h) hi hl hs)]
 | succ m ih=>
  intro out todo hs hm hB
  cases todo with
  | nil=>rw[aF YC,cM (TF (tQ h) hi hl hs)]
  | cons g todo=>
   obtain⟨hgN,hgl⟩:=hs.td g (by simp)
   simp only[List.length_cons] at hm
   rw[iZ (Xi hgN (by omega) h.n)]
   by_cases hg:out g<0
   ·have hd:decide (out g<0)=true:=decide_eq_true hg
    rw[hd,cond_true]
    have hnb:∀w,w∈A9 t g t.hs.length↔w<nF t∧rl t g w=true:=fun w=>by
     rw[YB,LI]
     constructor
     ·rintro ⟨j,a,b,c⟩
      exact⟨by rw[←c];exact(h.ff_i (EV h.e a)).2,j,a,b,c⟩
     ·rintro ⟨_,j,a,b,c⟩;exact⟨j,a,b,c⟩
    have hw:=Qf (nb:=fun v=>A9 t v t.hs.length) (out:=out) (g:=g) (x:=((eO (nF t) (rl t) i:Nat):Int)) (by omega) hg (nF t)
    rw[if_pos hgN] at hw
    refine ih _ _ (Gf (tQ h) hs hnb) ?_ (by omega)
    rw[List.length_append]
    have:(A9 t g t.hs.length).length=((fun v=>A9 t v t.hs.length) g).length:=rfl
    omega
   ·have hd:decide (out g<0)=false:=decide_eq_false hg
    rw[hd,cond_false]
    exact ih _ _ (Ge (tQ h) hs hg) (by omega) (by omega)
def Nq(t:Tp)(out:Nat→Int)(sh i:Nat):List T×List T×Int×Int×Int×Unit:=(E7 t,fZ (nF t) out,(sh:Int),(nF t:Int),(i:Int),())
theorem Xj{t:Tp}(h:CKP t){i:Nat}(hi:i<nF t):cG (Nq t (rI (nF t) (rl t) i) (eO (nF t) (rl t) i) i)=some (.inl (Nq t (rI (nF t) (rl t) (i+1)) (eO (nF t) (rl t) (i+1)) (i+1))):=by
 obtain⟨hN1,hN2⟩:=h.nF_i
 have hlt:decide ((i:Int)<(nF t:Int))=true:=decide_eq_true (by omega)
 have hle:=xE (r:=rl t) hi
 have hll:=pE (r:=rl t) (tQ h) hi
 have hrk:=A7 (N:=nF t) (r:=rl t) i
 unfold cG Nq
 simp only[aA,sA,hlt,cond_true,cN,kE hi,aL,aU,eB hi,cD,aQ]
 by_cases hc:c6 (nF t) (rl t) i=i
 ·have hd:decide ((0:Int)≤rI (nF t) (rl t) i i)=false:=decide_eq_false (by unfold rI;rw[if_neg (by omega)];omega)
  have hs:=Gm h hi hc 1000000 _ _ (V2 hi hc) (by
   have hB:=Np (nb:=fun v=>A9 t v t.hs.length) (B:=256) (fun v=>Nat.le_trans (IN t v _) h.n) (rI (nF t) (rl t) i) (nF t)
   have:nF t*256≤257*256:=Nat.mul_le_mul_right _ hN2
   simp only[List.length_singleton];omega) (Nat.le_refl _)
  unfold No at hs
  have e1:tN [i]=[tI (i:Int)]:=rfl
  rw[e1] at hs
  simp only[hd,cond_false,aO,hs,aL,aI,aE,wk (k:=i) (by omega),wk (k:=eO (nF t) (rl t) i) (by omega)]
  have:eO (nF t) (rl t) (i+1)=eO (nF t) (rl t) i+1:=by
   show eO _ _ i+(if _ then 1 else 0)=_
   rw[if_pos hc]
  rw[this]
 ·have hd:decide ((0:Int)≤rI (nF t) (rl t) i i)=true:=decide_eq_true (by unfold rI;rw[if_pos (by omega)];omega)
  have hr:eO (nF t) (rl t) (i+1)=eO (nF t) (rl t) i:=by
   show eO _ _ i+(if _ then 1 else 0)=_
   rw[if_neg hc];rfl
  simp only[hd,cond_true,aI,aL,aE,wk (k:=i) (by omega),hr]
  rw[cM (g:=rI (nF t) (rl t) i) (g':=rI (nF t) (rl t) (i+1)) fun v hv=>by
   unfold rI
   have:c6 (nF t) (rl t) v≠i:=fun e=>hc (by rw[←e];exact pE (tQ h) hv)
   by_cases e1:c6 (nF t) (rl t) v<i
   ·rw[if_pos e1,if_pos (by omega)]
   ·rw[if_neg e1,if_neg (by omega)]]
theorem OF{t:Tp}(h:CKP t):cC (oK t)=some (shl t,()):=by
 obtain⟨hN1,hN2⟩:=h.nF_i
 have hlt:decide ((nF t:Int)<(nF t:Int))=false:=decide_eq_false (by omega)
 have l0:=aH (F:=cX) t.hs.length (Nm t) (fun k hk=>Xg h hk)
 have l0':=aF (Ks (t:=t))
 have l1:=aH (F:=cY) (nF t) (Nn t) (fun k hk=>Xh h hk)
 have l1':=aF (Kt (t:=t))
 have l2:=aH (F:=cG) (nF t) (fun i=>Nq t (rI (nF t) (rl t) i) (eO (nF t) (rl t) i) i) (fun k hk=>Xj h hk)
 have l2':aC cG (Nq t (rI (nF t) (rl t) (nF t)) (eO (nF t) (rl t) (nF t)) (nF t))=some (.inl (shl t,())):=by
  refine aF ?_
  unfold cG Nq
  simp only[aA,hlt,cond_false]
  unfold shl
  rw[cM (g:=rI (nF t) (rl t) (nF t)) (g':=fun v=>((qT (nF t) (rl t) v:Nat):Int)) fun v hv=>by
   unfold rI
   have:=xE (r:=rl t) hv
   rw[if_pos (by omega)]]
 have hck:b9 (t.V,t.F,t.hs.map tH,t.rs.map tR,())=some (true,()):=by
  have:=LH t
  rw[E6.2 h] at this
  exact this
 have hmk:mkLen t.F t.F 24=some (nF t,nF t):=gN (by omega) (by omega) (by omega) (by omega)
 have hmk8:mkLen t.F t.F 8=some (nF t,nF t):=gN (by omega) (by omega) (by omega) (by omega)
 unfold cC oK
 simp only[hck,aL,Bool.not_true,cond_false,hmk,lR,uC]
 have e0:((),List.replicate (nF t) ([]:List T),t.hs.map tH,(t.hs.length:Int),(0:Int),t.V,t.F,t.hs.map tH,t.rs.map tR,())=Nm t 0:=by
  unfold Nm fR
  have:(List.range (nF t)).map (fun v=>tN (A9 t v 0))=List.replicate (nF t) []:=by
   have e:(fun v=>tN (A9 t v 0))=fun _=>([]:List T):=rfl
   rw[e,List.map_const',List.length_range]
  rw[this];rfl
 rw[e0,l0,l0']
 simp only[aL,aI,hmk8,aO,xH,cN]
 have e1:(n4 1 (fR (nF t) fun v=>A9 t v t.hs.length),fZ (nF t) (fun _=>0),(nF t:Int),(0:Int),())=Nn t 0:=by
  unfold Nn
  rw[cM (g:=fun v=>if v<0 then (-1:Int) else 0) (g':=fun _=>0) fun v _=>if_neg (by omega)]
  rfl
 rw[e1,l1,l1']
 simp only[aL,aI,cN]
 have e2:(E7 t,fZ (nF t) (fun _=>-1),(0:Int),(nF t:Int),(0:Int),())=Nq t (rI (nF t) (rl t) 0) (eO (nF t) (rl t) 0) 0:=by
  unfold Nq
  rw[cM (g:=rI (nF t) (rl t) 0) (g':=fun _=>-1) fun v _=>by unfold rI;exact if_neg (by omega)]
  rfl
 rw[e2,l2,l2']
 rfl
def shr(e e':Ed):Bool:=(decide (e.a=e'.a)&&decide (e.b=e'.b))||(decide (e.a=e'.b)&&decide (e.b=e'.a))
def cl(F:Fs)(f g:Nat):Bool:=(aG F).any fun e=>(aG F).any fun e'=>decide (e.f=f)&&(decide (e'.f=g)&&shr e e')
theorem QU{e e':Ed}:shr e e'=true↔(e.a=e'.a∧e.b=e'.b)∨(e.a=e'.b∧e.b=e'.a):=by unfold shr;simp
theorem LK(e e':Ed):shr e e'=shr e' e:=by
 rw[Bool.eq_iff_iff,QU,QU]
 constructor
 ·rintro (⟨h1,h2⟩ | ⟨h1,h2⟩)
  ·exact .inl ⟨h1.symm,h2.symm⟩
  ·exact .inr ⟨h2.symm,h1.symm⟩
 ·rintro (⟨h1,h2⟩ | ⟨h1,h2⟩)
  ·exact .inl ⟨h1.symm,h2.symm⟩
  ·exact .inr ⟨h2.symm,h1.symm⟩
theorem DC{F:Fs}{f g:Nat}:cl F f g=true↔∃e∈aG F,∃e'∈aG F,e.f=f∧e'.f=g∧shr e e'=true:=by
 unfold cl
 simp only[List.any_eq_true,Bool.and_eq_true,decide_eq_true_eq]
theorem BA(F:Fs)(f g:Nat):cl F f g=cl F g f:=by
 rw[Bool.eq_iff_iff,DC,DC]
 constructor
 ·rintro ⟨e,h1,e',h2,h3,h4,h5⟩;exact⟨e',h2,e,h1,h4,h3,by rw[LK];exact h5⟩
 ·rintro ⟨e,h1,e',h2,h3,h4,h5⟩;exact⟨e',h2,e,h1,h4,h3,by rw[LK];exact h5⟩
theorem DD{F:Fs}{e:Ed}(h:e∈aG F):e.f<F.length∧e.l<(F.getD e.f []).length∧e.i<((F.getD e.f []).getD e.l []).length∧e=uK e.f e.l ((F.getD e.f []).getD e.l []) e.i:=by
 obtain⟨f,hf,h⟩:=List.mem_flatMap.1 h
 obtain⟨l,hl,h⟩:=List.mem_flatMap.1 h
 obtain⟨i,hi,rfl⟩:=List.mem_map.1 h
 exact⟨List.mem_range.1 hf,List.mem_range.1 hl,List.mem_range.1 hi,rfl⟩
theorem QV{N:Nat}{r:Nat→Nat→Bool}{lb:Nat→Nat}(h:Hr N r lb)(hc:∀a b,a<N→b<N→r a b=true→lb a=lb b){v:Nat}(hv:v<N):lb v=c6 N r v:=by
 have hcon:∀{a b:Nat},Conn N r a b→lb a=lb b:=fun {a b} hab=>by
  induction hab with
  | refl h=>rfl
  | step h hr hk ih=>exact ih.trans (hc _ _ h.lt.2 hk hr)
 obtain⟨h1,h2⟩:=kO (r:=r) hv
 have e1:=hcon h1
 obtain⟨h3,h4⟩:=h (c6 N r v) h1.lt.2
 have h5:=h2 _ (h1.trans h4)
 omega
def Sl{α:Type}(g:Nat→α→α):Nat→α→α
 | 0,a=>a
 | n+1,a=>g n (Sl g n a)
theorem OG{S E α:Type}{F:S→Option (S⊕E)}{g:Nat→α→α}(st:Nat→α→S){n:Nat}(h:∀k a,k<n→F (st k a)=some (.inl (st (k+1) (g k a))))(a:α):aC F (st 0 a)=aC F (st n (Sl g n a)):=
 aH n (fun k=>st k (Sl g k a)) fun k hk=>h k _ hk
theorem YD{α:Type}{g:Nat→α→α}{n:Nat}{a:α}(P:Nat→α→Prop)(h0:P 0 a)(hs:∀k a,k<n→P k a→P (k+1) (g k a)):P n (Sl g n a):=by
 induction n with
 | zero=>exact h0
 | succ n ih=>exact hs n _ (by omega) (ih fun k a hk=>hs k a (by omega))
abbrev Cf:=(Nat→Nat)×Bool
def gE(es:List Ed)(i:Nat):Ed:=es.getD i ⟨0,0,0,0,0⟩
theorem GU{es:List Ed}{i:Nat}(h:i<es.length):gE es i∈es:=bA h _
theorem LL{es:List Ed}{i:Nat}(h:i<es.length):idxL (es.map uF) (i:Int)=some (uF (gE es i)):=by
 rw[QQ h];unfold gE;rw[List.getD_eq_getElem?_getD,List.getElem?_eq_getElem h];rfl
def p3(es:List Ed)(i k:Nat)(p:Cf):Cf:=bif shr (gE es i) (gE es k)&&!decide (p.1 (gE es i).f=p.1 (gE es k).f) then (jn p.1 (gE es i).f (gE es k).f,true) else p
def lZ(N:Nat)(lb:Nat→Nat):List T:=fZ N fun v=>(lb v:Int)
def S3(N:Nat)(es:List Ed)(i k:Nat)(p:Cf):List T×List T×Bool×Int×Int×Unit:=(lZ N p.1,es.map uF,p.2,(i:Int),(k:Int),())
theorem Vs(a b:Nat):decide ((a:Int)=(b:Int))=decide (a=b):=by rw[Bool.eq_iff_iff,decide_eq_true_eq,decide_eq_true_eq];omega
theorem Ku{N:Nat}{lb:Nat→Nat}{f g:Nat}:(fZ N (fun v=>(lb v:Int))).set f (tI ((min (lb f) (lb g):Nat):Int))=fZ N (fun w=>if w=f then ((min (lb f) (lb g):Nat):Int) else (lb w:Int)):=kD
theorem Ug{N:Nat}{lb:Nat→Nat}{f g:Nat}:fZ N (fun w=>if w=g then ((min (lb f) (lb g):Nat):Int) else if w=f then ((min (lb f) (lb g):Nat):Int) else (lb w:Int))=lZ N (jn lb f g):=by
 unfold lZ jn
 refine cM fun v _=>?_
 split
 ·rfl
 ·split <;> rfl
theorem Xk{N:Nat}(hN:N≤1000){es:List Ed}(he:es.length≤1000)(hf:∀e∈es,e.f<N){i:Nat}(hi:i<es.length)(k:Nat)(p:Cf)(hk:k<i):cR (S3 N es i k p)=some (.inl (S3 N es i (k+1) (p3 es i k p))):=by
 have hk':k<es.length:=by omega
 have f1:=hf _ (GU hi)
 have f2:=hf _ (GU hk')
 obtain⟨lb,ch⟩:=p
 have g1:(fZ N (fun v=>(lb v:Int)))[(gE es i).f]?=some (tI (lb (gE es i).f)):=eB f1
 have g2:(fZ N (fun v=>(lb v:Int)))[(gE es k).f]?=some (tI (lb (gE es k).f)):=eB f2
 unfold cR S3 p3 lZ
 simp only[aA,decide_eq_true (show (k:Int)<(i:Int) by omega),cond_true,LL hi,LL hk',aL,(DA _).1,(DA _).2.1,(DA _).2.2.1,qM,jZ,aP,cN,kE f1,kE f2,aU,g1,g2,cD,Vs,Ue,aO,iR,Ku]
 have g3:(fZ N (fun w=>if w=(gE es i).f then ((min (lb (gE es i).f) (lb (gE es k).f):Nat):Int) else (lb w:Int)))[(gE es k).f]?=some (tI (if (gE es k).f=(gE es i).f then ((min (lb (gE es i).f) (lb (gE es k).f):Nat):Int) else (lb (gE es k).f:Int))):=eB f2
 simp only[cN,kE f2,aL,g3,iR,kD,Ug]
 unfold shr
 cases decide ((gE es i).a=(gE es k).a) <;> cases decide ((gE es i).b=(gE es k).b) <;> cases decide ((gE es i).a=(gE es k).b) <;> cases decide ((gE es i).b=(gE es k).a) <;> cases decide (lb (gE es i).f=lb (gE es k).f) <;>
  simp only[Bool.not_true,Bool.not_false,cond_true,cond_false,aL,aI,aE,wk (show k≤1000000 by omega),Bool.true_and,Bool.false_and,Bool.and_true,Bool.and_false,Bool.or_true,Bool.or_false,Bool.true_or,Bool.false_or] <;> rfl
theorem Kv{N:Nat}{es:List Ed}{i:Nat}(p:Cf):cR (S3 N es i i p)=some (.inr (.inl (lZ N p.1,es.map uF,p.2,(i:Int),()))):=by
 unfold cR S3
 simp only[aA,decide_eq_false (Int.lt_irrefl _),cond_false]
def S2(N:Nat)(es:List Ed)(i:Nat)(p:Cf):List T×List T×Bool×Int×Unit:=(lZ N p.1,es.map uF,p.2,(i:Int),())
def p2(es:List Ed)(i:Nat)(p:Cf):Cf:=Sl (p3 es i) i p
theorem Xl{N:Nat}(hN:N≤1000){es:List Ed}(he:es.length≤1000)(hf:∀e∈es,e.f<N)(i:Nat)(p:Cf)(hi:i<es.length):cS (S2 N es i p)=some (.inl (S2 N es (i+1) (p2 es i p))):=by
 have hl:=OG (F:=cR) (S3 N es i) (n:=i) (fun k p hk=>Xk hN he hf hi k p hk) p
 unfold cS S2
 simp only[aA,lE,decide_eq_true (show (i:Int)<(es.length:Int) by omega),cond_true]
 show ob (aC cR (S3 N es i 0 p)) _=_
 rw[hl,aF (Kv _)]
 simp only[aL,aI,aE,wk (show i≤1000000 by omega)]
 rfl
theorem Kw{N:Nat}{es:List Ed}(p:Cf):cS (S2 N es es.length p)=some (.inr (.inl (lZ N p.1,es.map uF,p.2,()))):=by
 unfold cS S2
 simp only[aA,lE,decide_eq_false (Int.lt_irrefl _),cond_false]
def p1(es:List Ed)(lb:Nat→Nat):Cf:=Sl (p2 es) es.length (lb,false)
theorem Wb{N:Nat}(hN:N≤1000){es:List Ed}(he:es.length≤1000)(hf:∀e∈es,e.f<N)(lb:Nat→Nat):dW (lZ N lb,es.map uF,true,())=some (.inl (lZ N (p1 es lb).1,es.map uF,(p1 es lb).2,())):=by
 have hl:=OG (F:=cS) (S2 N es) (n:=es.length) (fun i p hi=>Xl hN he hf i p hi) (lb,false)
 unfold dW
 simp only[cond_true]
 show ob (aC cS (S2 N es 0 (lb,false))) _=_
 rw[hl,aF (Kw _)]
 rfl
theorem YE{N:Nat}{es:List Ed}(lb:Nat→Nat):dW (lZ N lb,es.map uF,false,())=some (.inr (.inl (lZ N lb,()))):=by
 unfold dW
 simp only[cond_false]
def Rv(N:Nat)(r:Nat→Nat→Bool)(lb0:Nat→Nat)(p:Cf):Prop:=Hr N r p.1∧(∀v,p.1 v≤lb0 v)∧(p.2=true→∃v,v<N∧p.1 v<lb0 v)∧(p.2=false→p.1=lb0)
theorem TJ{F:Fs}{lb0:Nat→Nat}(h0:Hr F.length (cl F) lb0):Rv F.length (cl F) lb0 (p1 (aG F) lb0)∧((p1 (aG F) lb0).2=false→∀i k,k<i→i<(aG F).length→shr (gE (aG F) i) (gE (aG F) k)=true→lb0 (gE (aG F) i).f=lb0 (gE (aG F) k).f):=by
 have step:∀i k p,k<i→i<(aG F).length→Rv F.length (cl F) lb0 p→Rv F.length (cl F) lb0 (p3 (aG F) i k p)∧((p3 (aG F) i k p).2=false→p.2=false∧(shr (gE (aG F) i) (gE (aG F) k)=true→lb0 (gE (aG F) i).f=lb0 (gE (aG F) k).f)):=by
  intro i k p hk hi hp
  obtain⟨q1,q2,q3,q4⟩:=hp
  have m1:=GU hi
  have m2:gE (aG F) k∈aG F:=GU (by omega)
  have f1:=(DD m1).1
  have f2:=(DD m2).1
  unfold p3
  cases hs:shr (gE (aG F) i) (gE (aG F) k) with
  | false=>exact⟨⟨q1,q2,q3,q4⟩,fun h=>⟨h,fun h=>by cases h⟩⟩
  | true=>
   by_cases he:p.1 (gE (aG F) i).f=p.1 (gE (aG F) k).f
   ·rw[decide_eq_true he]
    exact⟨⟨q1,q2,q3,q4⟩,fun h=>⟨h,fun _=>by
     have hpe:p.1=lb0:=q4 h
     rw[←hpe];exact he⟩⟩
   ·rw[decide_eq_false he]
    refine⟨⟨Gg (BA F) q1 f1 f2 (DC.2 ⟨_,m1,_,m2,rfl,rfl,hs⟩),fun v=>Nat.le_trans (Ng _ _ _ _) (q2 v),fun _=>?_,fun h=>by cases h⟩,fun h=>by cases h⟩
    rcases Nat.lt_or_gt_of_ne he with hlt | hlt
    ·refine⟨(gE (aG F) k).f,f2,?_⟩
     show jn p.1 _ _ _<_
     unfold jn
     rw[if_pos rfl]
     have:=q2 (gE (aG F) k).f
     omega
    ·refine⟨(gE (aG F) i).f,f1,?_⟩
     show jn p.1 _ _ _<_
     unfold jn
     have:=q2 (gE (aG F) i).f
     split
     ·omega
     ·rw[if_pos rfl];omega
 have key:=YD (g:=p2 (aG F)) (n:=(aG F).length) (a:=(lb0,false)) (fun i p=>Rv F.length (cl F) lb0 p∧(p.2=false→∀i' k,k<i'→i'<i→shr (gE (aG F) i') (gE (aG F) k)=true→lb0 (gE (aG F) i').f=lb0 (gE (aG F) k).f))
  ⟨⟨h0,fun _=>Nat.le_refl _,fun h=>(by simp at h),fun _=>rfl⟩,fun _ i' k _ h=>(by omega)⟩ (fun i p hi hp=>by
  have inner:=YD (g:=p3 (aG F) i) (n:=i) (a:=p) (fun k q=>Rv F.length (cl F) lb0 q∧(q.2=false→p.2=false∧∀k',k'<k→shr (gE (aG F) i) (gE (aG F) k')=true→lb0 (gE (aG F) i).f=lb0 (gE (aG F) k').f))
   ⟨hp.1,fun h=>⟨h,fun k' hk'=>by omega⟩⟩ (fun k q hk hq=>by
    obtain⟨s1,s2⟩:=step i k q hk hi hq.1
    refine⟨s1,fun h=>?_⟩
    obtain⟨t1,t2⟩:=s2 h
    obtain⟨u1,u2⟩:=hq.2 t1
    refine⟨u1,fun k' hk' hs=>?_⟩
    rcases Nat.lt_or_ge k' k with hl | hl
    ·exact u2 k' hl hs
    ·have:k'=k:=by omega
     subst this;exact t2 hs)
  refine⟨inner.1,fun h i' k hk hi' hs=>?_⟩
  obtain⟨u1,u2⟩:=inner.2 h
  rcases Nat.lt_or_ge i' i with hl | hl
  ·exact hp.2 u1 i' k hk hl hs
  ·have:i'=i:=by omega
   subst this;exact u2 k hk hs)
 exact⟨key.1,fun h i k hk hi hs=>key.2 h i k hk hi hs⟩
def sm(lb:Nat→Nat):Nat→Nat
 | 0=>0
 | n+1=>sm lb n+lb n
theorem Nr{a b:Nat→Nat}(h:∀v,a v≤b v):∀n,sm a n≤sm b n
 | 0=>Nat.le_refl _
 | n+1=>by have:=Nr h n;have:=h n;simp only[sm];omega
theorem Gn{a b:Nat→Nat}(h:∀v,a v≤b v){v:Nat}(hv:a v<b v):∀n,v<n→sm a n<sm b n
 | 0,hn=>by omega
 | n+1,hn=>by
  have h1:=Nr h n
  have h2:=h n
  simp only[sm]
  rcases Nat.lt_or_ge v n with hl | hl
  ·have:=Gn h hv n hl;omega
  ·have:v=n:=by omega
   subst this;omega
theorem Qi{F:Fs}(hb:Bd F):∀(m:Nat) (lb:Nat→Nat),sm lb F.length≤m→Hr F.length (cl F) lb→aC dW (lZ F.length lb,(aG F).map uF,true,())=some (.inl (lZ F.length (c6 F.length (cl F)),())):=by
 intro m
 induction m with
 | zero=>
  intro lb hm h
  obtain⟨⟨r1,r2,r3,r4⟩,r5⟩:=TJ h
  rw[iZ (Wb hb.n hb.e (fun e he=>(DD he).1) lb)]
  cases hp:(p1 (aG F) lb).2 with
  | true=>
   obtain⟨v,hv,hl⟩:=r3 hp
   have:=Gn r2 hl F.length hv
   omega
  | false=>
   rw[aF (YE _),r4 hp]
   congr 3
   refine cM fun v hv=>?_
   rw[QV h (fun a b ha hb' hr=>?_) hv]
   obtain⟨e,h1,e',h2,rfl,rfl,hs⟩:=DC.1 hr
   exact fin_eq (r5 hp) h1 h2 hs
 | succ m ih=>
  intro lb hm h
  obtain⟨⟨r1,r2,r3,r4⟩,r5⟩:=TJ h
  rw[iZ (Wb hb.n hb.e (fun e he=>(DD he).1) lb)]
  cases hp:(p1 (aG F) lb).2 with
  | true=>
   obtain⟨v,hv,hl⟩:=r3 hp
   have:=Gn r2 hl F.length hv
   exact ih _ (by omega) r1
  | false=>
   rw[aF (YE _),r4 hp]
   congr 3
   refine cM fun v hv=>?_
   rw[QV h (fun a b ha hb' hr=>?_) hv]
   obtain⟨e,h1,e',h2,rfl,rfl,hs⟩:=DC.1 hr
   exact fin_eq (r5 hp) h1 h2 hs
where
 fin_eq {F:Fs} {lb:Nat→Nat} (h:∀i k,k<i→i<(aG F).length→shr (gE (aG F) i) (gE (aG F) k)=true→lb (gE (aG F) i).f=lb (gE (aG F) k).f) {e e':Ed} (h1:e∈aG F) (h2:e'∈aG F) (hs:shr e e'=true):lb e.f=lb e'.f:=by
  obtain⟨i,hi,rfl⟩:=List.getElem_of_mem h1
  obtain⟨k,hk,rfl⟩:=List.getElem_of_mem h2
  have gi:gE (aG F) i=(aG F)[i]:=by unfold gE;rw[List.getD_eq_getElem?_getD,List.getElem?_eq_getElem hi];rfl
  have gk:gE (aG F) k=(aG F)[k]:=by unfold gE;rw[List.getD_eq_getElem?_getD,List.getElem?_eq_getElem hk];rfl
  rcases Nat.lt_trichotomy i k with hl | hl | hl
  ·have:=h k i hl hk (by rw[gi,gk,LK];exact hs)
   rw[gi,gk] at this;exact this.symm
  ·subst hl;rfl
  ·have:=h i k hl hi (by rw[gi,gk];exact hs)
   rw[gi,gk] at this;exact this
noncomputable def Ns(N:Nat)(r:Nat→Nat→Bool)(i:Nat):List T×List T×Int×Int×Unit:=(fZ N (fun v=>((c6 N r v:Nat):Int)),fZ N (fun v=>if v<i then ((qT N r v:Nat):Int) else 0),((eO N r i:Nat):Int),(i:Int),())
theorem Vt{N:Nat}(hN2:N≤1000){r:Nat→Nat→Bool}(hs:∀i j,r i j=r j i){i:Nat}(hi:i<N):bX (Ns N r i)=some (.inl (Ns N r (i+1))):=by
 have hlt:decide ((i:Int)<(N:Int))=true:=decide_eq_true (by omega)
 have hle:=xE (r:=r) hi
 have hll:=pE (r:=r) hs hi
 have hrk:=A7 (N:=N) (r:=r) i
 have hset:∀x:Int,x=((qT N r i:Nat):Int)→fZ N (fun w=>if w=i then x else if w<i then ((qT N r w:Nat):Int) else 0)=fZ N (fun v=>if v<i+1 then ((qT N r v:Nat):Int) else 0):=fun x hx=>cM fun v _=>by
  by_cases e1:v=i
  ·subst e1;rw[if_pos rfl,if_pos (by omega),hx]
  ·rw[if_neg e1]
   by_cases e2:v<i
   ·rw[if_pos e2,if_pos (by omega)]
   ·rw[if_neg e2,if_neg (by omega)]
 unfold bX Ns
 simp only[aA,cN,hlt,cond_true,xG hi,aL,cD,aQ,aP]
 by_cases hc:c6 N r i=i
 ·have hd:decide (((c6 N r i:Nat):Int)=(i:Int))=true:=decide_eq_true (by omega)
  simp only[hd,cond_true,kE hi,aL,aU,eB hi,aO,iR,kD,aI,aE,wk (k:=i) (by omega),wk (k:=eO N r i) (by omega)]
  rw[hset _ (by unfold qT;rw[hc])]
  have:eO N r (i+1)=eO N r i+1:=by
   show eO _ _ i+(if _ then 1 else 0)=_
   rw[if_pos hc]
  rw[this]
 ·have hd:decide (((c6 N r i:Nat):Int)=(i:Int))=false:=decide_eq_false (by omega)
  have hl2:c6 N r i<N:=by omega
  simp only[hd,cond_false,kE hi,kE hl2,aL,aU,eB hi,eB hl2,cD,jZ,aQ,aO,iR,kD,aI,aE,wk (k:=i) (by omega)]
  rw[hset _ (by rw[if_pos (by omega)];unfold qT;rw[hll])]
  have:eO N r (i+1)=eO N r i:=by
   show eO _ _ i+(if _ then 1 else 0)=_
   rw[if_neg hc];rfl
  rw[this]
noncomputable def Nt(N:Nat)(r:Nat→Nat→Bool):List T:=fZ N (fun v=>((qT N r v:Nat):Int))
theorem Ca{N:Nat}(hN2:N≤1000){r:Nat→Nat→Bool}(hs:∀i j,r i j=r j i):f8 (fZ N (fun v=>((c6 N r v:Nat):Int)),())=some (Nt N r,()):=by
 have hlt:decide ((N:Int)<(N:Int))=false:=decide_eq_false (by omega)
 have l0:=aH (F:=bX) N (Ns N r) (fun k hk=>Vt hN2 hs hk)
 have l1:aC bX (Ns N r N)=some (.inl (Nt N r,())):=by
  refine aF ?_
  unfold bX Ns
  simp only[aA,cN,hlt,cond_false]
  unfold Nt
  rw[cM (g:=fun v=>if v<N then ((qT N r v:Nat):Int) else 0) (g':=fun v=>((qT N r v:Nat):Int)) fun v hv=>if_pos hv]
 unfold f8
 have hmk:mkLen ((N:Nat):Int) ((N:Nat):Int) 8=some (N,N):=gN (by omega) (by omega) (by omega) (by omega)
 simp only[cN,hmk,aL,lR,aO,xH]
 have e0:(fZ N (fun v=>((c6 N r v:Nat):Int)),fZ N (fun _=>0),(0:Int),(0:Int),())=Ns N r 0:=by
  unfold Ns
  rw[cM (g:=fun v=>if v<0 then ((qT N r v:Nat):Int) else 0) (g':=fun _=>0) fun v _=>if_neg (by omega)]
  rfl
 rw[e0,l0,l1]
 rfl
noncomputable def Kx(F:Fs):List T:=if xY F=true then Nt F.length (cl F) else []
theorem Qj(N:Nat)(r:Nat→Nat→Bool):Hr N r (fun v=>v):=fun v hv=>⟨Nat.le_refl _,.refl hv⟩
def c0(F:Fs)(i:Nat):List T×List T×Int×Unit:=(eS F,fZ F.length (fun v=>if v<i then (v:Int) else 0),(i:Int),())
theorem OH{N i:Nat}:fZ N (fun w=>if w=i then (i:Int) else if w<i then (w:Int) else 0)=fZ N (fun v=>if v<i+1 then (v:Int) else 0):=cM fun v _=>by
 by_cases e1:v=i
 ·subst e1;rw[if_pos rfl,if_pos (by omega)]
 ·rw[if_neg e1]
  by_cases e2:v<i
  ·rw[if_pos e2,if_pos (by omega)]
  ·rw[if_neg e2,if_neg (by omega)]
theorem TK{N:Nat}:fZ N (fun v=>if v<N then (v:Int) else 0)=lZ N (fun v=>v):=cM fun v hv=>if_pos hv
theorem OI{N:Nat}:fZ N (fun v=>if v<0 then (v:Int) else 0)=fZ N (fun _=>0):=cM fun v _=>if_neg (by omega)
theorem CE{F:Fs}(hb:Bd F):fU (eS F,())=some (Kx F,()):=by
 have hn:=hb.n
 have hmk:mkLen ((F.length:Nat):Int) ((F.length:Nat):Int) 8=some (F.length,F.length):=gN (by omega) (by omega) (by omega) (by omega)
 have l0:=aH (F:=fI) F.length (c0 F) (fun i hi=>by
  unfold fI c0
  simp only[aA,cN,decide_eq_true (show (i:Int)<(F.length:Int) by omega),cond_true,kE hi,aL,aU,eB hi,aO,iR,kD,aE,wk (show i≤1000000 by omega),OH])
 have l1:fI (c0 F F.length)=some (.inr (.inl (eS F,lZ F.length (fun v=>v),()))):=by
  unfold fI c0
  simp only[aA,cN,decide_eq_false (Int.lt_irrefl _),cond_false]
  rw[TK]
 unfold fU Kx
 rw[AA hb]
 simp only[aL]
 cases xY F with
 | false=>rfl
 | true=>
  simp only[Bool.not_true,cond_false,if_true,dR,hmk,aL,lR,aO,xH]
  have e0:(eS F,fZ F.length (fun _=>0),(0:Int),())=c0 F 0:=by unfold c0;rw[OI];rfl
  rw[e0,l0,aF l1]
  simp only[aL,aI,IM hb,Qi hb _ _ (Nat.le_refl _) (Qj _ _)]
  rw[show lZ F.length (c6 F.length (cl F))=fZ F.length (fun v=>((c6 F.length (cl F) v:Nat):Int)) from rfl,Ca hn (BA F)]
  rfl
def rt(top:Nat→Nat)(v:Nat):Nat:=if top v<v then rt top (top v) else v
termination_by v
theorem LM{top:Nat→Nat}{v:Nat}(h:top v<v):rt top v=rt top (top v):=by rw[rt,if_pos h]
theorem tS{top:Nat→Nat}{v:Nat}(h:¬top v<v):rt top v=v:=by rw[rt,if_neg h]
def Up(top:Nat→Nat):Prop:=∀v,top v≤v
theorem LN{top:Nat→Nat}(P:Nat→Prop)(h1:∀v,top v<v→P (top v)→P v)(h2:∀v,¬top v<v→P v)(v:Nat):P v:=by
 induction v using Nat.strongRecOn with
 | _ v ih=>
  by_cases h:top v<v
  ·exact h1 v h (ih _ h)
  ·exact h2 v h
theorem Gp(top:Nat→Nat)(v:Nat):rt top v≤v:=LN (top:=top) (fun v=>rt top v≤v) (fun v h ih=>by rw[LM h];omega) (fun v h=>by rw[tS h];exact Nat.le_refl _) v
theorem Gq(top:Nat→Nat)(v:Nat):¬top (rt top v)<rt top v:=LN (top:=top) (fun v=>¬top (rt top v)<rt top v) (fun v h ih=>by rw[LM h];exact ih) (fun v h=>by rw[tS h];exact h) v
theorem QW{N:Nat}{r:Nat→Nat→Bool}{top:Nat→Nat}(hc:∀v,v<N→Conn N r v (top v))(v:Nat):v<N→Conn N r v (rt top v):=LN (top:=top) (fun v=>v<N→Conn N r v (rt top v)) (fun v h ih hv=>by rw[LM h];exact(hc v hv).trans (ih (by omega))) (fun v h hv=>by rw[tS h];exact .refl hv) v
def un(top:Nat→Nat)(a b:Nat):Nat→Nat:=fun w=>if w=max a b then min a b else top w
theorem Uh{top:Nat→Nat}(h:Up top)(a b:Nat):Up (un top a b):=fun v=>by
 unfold un
 split
 ·omega
 ·exact h v
theorem Ui{top:Nat→Nat}(hu:Up top){a b:Nat}(ha:¬top a<a)(hb:¬top b<b)(v:Nat):rt (un top a b) v=if rt top v=max a b then min a b else rt top v:=by
 have hm:¬top (max a b)<max a b:=by rcases Nat.le_total a b with h | h <;> simp only[Nat.max_def] <;> split <;> assumption
 have hmin:¬top (min a b)<min a b:=by rcases Nat.le_total a b with h | h <;> simp only[Nat.min_def] <;> split <;> assumption
 refine LN (top:=top) (fun v=>rt (un top a b) v=if rt top v=max a b then min a b else rt top v) (fun v h ih=>?_) (fun v h=>?_) v
 ·have hne:v≠max a b:=fun e=>hm (e▸h)
  have he:un top a b v=top v:=if_neg hne
  rw[LM h,LM (top:=un top a b) (by rw[he];exact h),he]
  exact ih
 ·rw[tS h]
  by_cases hv:v=max a b
  ·rw[if_pos hv]
   have he:un top a b v=min a b:=if_pos hv
   by_cases hab:min a b<v
   ·rw[LM (top:=un top a b) (by rw[he];exact hab),he]
    refine tS ?_
    have:un top a b (min a b)=top (min a b):=if_neg (by omega)
    rw[this];exact hmin
   ·rw[tS (top:=un top a b) (by rw[he];exact hab)];omega
  ·rw[if_neg hv]
   have he:un top a b v=top v:=if_neg hv
   exact tS (by rw[he];exact h)
def sF(N:Nat)(top:Nat→Nat)(v:Nat):Int×Unit×List T×Unit:=((v:Int),(),lZ N top,())
theorem Cb{N:Nat}{top:Nat→Nat}(hu:Up top)(v:Nat):v<N→aC a9 (sF N top v)=some (.inl (((rt top v:Nat):Int),lZ N top,())):=by
 refine LN (top:=top) (fun v=>v<N→aC a9 (sF N top v)=some (.inl (((rt top v:Nat):Int),lZ N top,()))) (fun v h ih hv=>?_) (fun v h hv=>?_) v
 ·have g1:(fZ N (fun v=>(top v:Int)))[v]?=some (tI (top v)):=eB hv
  have hd:decide (((top v:Nat):Int)=(v:Int))=false:=decide_eq_false (by omega)
  have:a9 (sF N top v)=some (.inl (sF N top (top v))):=by
   unfold a9 sF lZ
   simp only[cN,kE hv,aL,aU,g1,cD,aQ,aP,hd,Bool.not_false,cond_true]
  rw[iZ this,ih (by omega),LM h]
 ·have g1:(fZ N (fun v=>(top v:Int)))[v]?=some (tI (top v)):=eB hv
  have hte:top v=v:=by have:=hu v;omega
  have hd:decide (((top v:Nat):Int)=(v:Int))=true:=decide_eq_true (by omega)
  rw[tS h]
  refine aF ?_
  unfold a9 sF lZ
  simp only[cN,kE hv,aL,aU,g1,cD,aQ,aP,hd,Bool.not_true,cond_false]
theorem V8{N:Nat}{top:Nat→Nat}(hu:Up top){v:Nat}(hv:v<N):aV ((v:Int),(),lZ N top,())=some (((rt top v:Nat):Int),lZ N top,()):=by
 unfold aV
 show ob (aC a9 (sF N top v)) _=_
 rw[Cb hu v hv]
 rfl
def Ed.n(e:Ed):Kk:=(min e.a e.b,max e.a e.b)
theorem Nu{e e':Ed}:shr e e'=true↔e.n=e'.n:=by
 rw[QU]
 unfold Ed.n
 rw[Prod.mk.injEq]
 omega
theorem Gr(e:Ed):u__shell_edge__line (e.a,e.b,())=some (e.n.1,e.n.2,()):=by
 unfold u__shell_edge__line mmI Ed.n
 simp
theorem Xm(a b:Nat):mmI true (a:Int) (b:Int)=((max a b:Nat):Int):=by
 unfold mmI;simp only[if_true];omega
theorem Uj{N:Nat}{top:Nat→Nat}{a b:Nat}:(lZ N top).set (max a b) (tI ((min a b:Nat):Int))=lZ N (un top a b):=by
 unfold lZ
 rw[kD]
 refine cM fun v _=>?_
 unfold un
 split <;> rfl
theorem TL{N:Nat}{L:Am}{top:Nat→Nat}{e:Ed}(h:lk L e.n=none):dY (eM L,(),lZ N top,()) e=some (eM (put L e.n e.f),(),lZ N top,()):=by
 unfold dY cF
 simp only[Gr,aL,aO,C9]
 rw[show ((e.n.1,e.n.2):Kk)=e.n from rfl]
 simp only[xC,xD,aL,QL,h,Option.isSome_none,Bool.not_false,cond_true,Fy]
theorem TM{N:Nat}{L:Am}{top:Nat→Nat}{e:Ed}{g:Nat}(hu:Up top)(h:lk L e.n=some (g:Int))(hf:e.f<N)(hg:g<N):
 dY (eM L,(),lZ N top,()) e=some (eM L,(),lZ N (un top (rt top e.f) (rt top g)),()):=by
 have h1:=Gp top e.f
 have h2:=Gp top g
 have hm:max (rt top e.f) (rt top g)<N:=by omega
 have g1:(lZ N top)[max (rt top e.f) (rt top g)]?=some (tI (top (max (rt top e.f) (rt top g)))):=eB hm
 have hl:lenL (lZ N top)=(N:Int):=cN _ _
 unfold dY cF
 simp only[Gr,aL,aO,C9]
 rw[show ((e.n.1,e.n.2):Kk)=e.n from rfl]
 simp only[xC,xD,aL,QL,h,Option.isSome_some,Bool.not_true,cond_false,V8 hu hf,Option.getD_some,qM,V8 hu hg,Xm,Ue,hl,kE hm,aU,g1,iR,Uj]
structure Uf (F:Fs) (pre:List Ed) (L:Am) (top:Nat→Nat):Prop where
 nk:Nk L
 up:Up top
 con:∀v,v<F.length→Conn F.length (cl F) v (top v)
 key:∀k v,lk L k=some v→∃e∈pre,e.n=k∧v=(e.f:Int)
 all:∀e∈pre,∃v:Nat,lk L e.n=some (v:Int)∧v<F.length∧rt top v=rt top e.f
theorem QX{F:Fs}:∀(es pre:List Ed) (L:Am) (top:Nat→Nat),pre++es=aG F→Uf F pre L top→∃L' top',es.foldlM dY (eM L,(),lZ F.length top,())=some (eM L',(),lZ F.length top',())∧Uf F (aG F) L' top'
 | [],pre,L,top,he,h=>⟨L,top,rfl,by rw[List.append_nil] at he;rw[←he];exact h⟩
 | e::es,pre,L,top,he,h=>by
  have hm:e∈aG F:=by rw[←he];simp
  have hsub:∀x∈pre,x∈aG F:=fun x hx=>by rw[←he];simp[hx]
  have hf:=(DD hm).1
  have he':(pre++[e])++es=aG F:=by rw[List.append_assoc];exact he
  rw[List.foldlM_cons]
  cases hk:lk L e.n with
  | none=>
   rw[TL hk]
   have hlk:=fun k'=>QM h.nk e.n k' (e.f:Int)
   refine QX es (pre++[e]) _ top he' ⟨h.nk.put _ _,h.up,h.con,fun k v hv=>?_,fun x hx=>?_⟩
   ·rw[hlk] at hv
    split at hv
    ·rename_i hke
     cases hv
     exact⟨e,by simp,hke.symm,rfl⟩
    ·obtain⟨x,hx,h1,h2⟩:=h.key k v hv
     exact⟨x,by simp[hx],h1,h2⟩
   ·rw[hlk]
    rcases List.mem_append.1 hx with hx | hx
    ·obtain⟨v,h1,h2,h3⟩:=h.all x hx
     rw[if_neg (fun hn=>by rw[hn,hk] at h1;cases h1)]
     exact⟨v,h1,h2,h3⟩
    ·have hx':x=e:=by simpa using hx
     subst hx'
     rw[if_pos rfl]
     exact⟨x.f,rfl,hf,rfl⟩
  | some v=>
   obtain⟨e0,he0,hn0,rfl⟩:=h.key _ _ hk
   have hg:e0.f<F.length:=(DD (hsub e0 he0)).1
   rw[TM h.up hk hf hg]
   have ra:=Gq top e.f
   have rb:=Gq top e0.f
   have hun:=Ui h.up ra rb
   have cef:=QW h.con e.f hf
   have ceg:=QW h.con e0.f hg
   have cab:Conn F.length (cl F) (rt top e.f) (rt top e0.f):=(cef.symm (BA F)).trans ((Conn.step (.refl hf) (DC.2 ⟨e,hm,e0,hsub e0 he0,rfl,rfl,Nu.2 hn0.symm⟩) hg).trans ceg)
   refine QX es (pre++[e]) L _ he' ⟨h.nk,Uh h.up _ _,fun v hv=>?_,fun k v hv=>?_,fun x hx=>?_⟩
   ·unfold un
    split
    ·rename_i hve
     subst hve
     rcases Nat.le_total (rt top e.f) (rt top e0.f) with hle | hle
     ·rw[Nat.max_eq_right hle,Nat.min_eq_left hle];exact cab.symm (BA F)
     ·rw[Nat.max_eq_left hle,Nat.min_eq_right hle];exact cab
    ·exact h.con v hv
   ·obtain⟨x,hx,h1,h2⟩:=h.key k v hv
    exact⟨x,by simp[hx],h1,h2⟩
   ·rcases List.mem_append.1 hx with hx | hx
    ·obtain⟨v,h1,h2,h3⟩:=h.all x hx
     exact⟨v,h1,h2,by rw[hun,hun,h3]⟩
    ·have hx':x=e:=by simpa using hx
     subst hx'
     refine⟨e0.f,hk,hg,?_⟩
     rw[hun,hun]
     split <;> split <;> omega
theorem Ky{F:Fs}{L:Am}{top:Nat→Nat}(h:Uf F (aG F) L top){v:Nat}(hv:v<F.length):rt top v=c6 F.length (cl F) v:=by
 refine QV (lb:=rt top) (fun v hv=>⟨Gp top v,QW h.con v hv⟩) (fun a b _ _ hr=>?_) hv
 obtain⟨e,h1,e',h2,rfl,rfl,hs⟩:=DC.1 hr
 obtain⟨v,a1,_,a3⟩:=h.all e h1
 obtain⟨v',b1,_,b3⟩:=h.all e' h2
 rw[Nu.1 hs,b1] at a1
 have:v'=v:=by have:=Option.some.inj a1;omega
 subst this
 exact a3.symm.trans b3
def nT(L:List (Nat×Nat)):List T:=L.map fun p=>.agg [tI p.1,tI p.2]
open Classical in
noncomputable def nM(N:Nat)(r:Nat→Nat→Bool):Nat→List (Nat×Nat)
 | 0=>[]
 | i+1=>nM N r i++if c6 N r i=i then [(i,eO N r i)] else []
theorem TN(N:Nat)(r:Nat→Nat→Bool):∀i,(nM N r i).length=eO N r i
 | 0=>rfl
 | i+1=>by
  show (nM N r i++_).length=eO N r i+_
  rw[List.length_append,TN N r i]
  split <;> rfl
theorem AE{N:Nat}{r:Nat→Nat→Bool}{k v:Nat}:∀{i},(k,v)∈nM N r i↔k<i∧c6 N r k=k∧v=eO N r k
 | 0=>by simp[nM]
 | i+1=>by
  show (k,v)∈nM N r i++_↔_
  rw[List.mem_append,AE (i:=i)]
  constructor
  ·rintro (⟨h1,h2,h3⟩ | h)
   ·exact⟨by omega,h2,h3⟩
   ·split at h
    ·rename_i hl
     have:=List.mem_singleton.1 h
     cases this
     exact⟨by omega,hl,rfl⟩
    ·cases h
  ·rintro ⟨h1,h2,h3⟩
   rcases Nat.lt_or_ge k i with hl | hl
   ·exact .inl ⟨hl,h2,h3⟩
   ·have:k=i:=by omega
    subst this
    right
    rw[if_pos h2,h3]
    simp
theorem QY(k:Nat)(L:List (Nat×Nat)):bL (tI k) (nT L)=L.findIdx? fun p=>decide (k=p.1):=by
 unfold bL nT
 rw[pQ]
 congr 1
 funext p
 show ((k:Int)==(p.1:Int))=decide (k=p.1)
 rw[Bool.eq_iff_iff]
 simp only[beq_iff_eq,decide_eq_true_eq]
 omega
theorem Gs{N:Nat}{r:Nat→Nat→Bool}{k i:Nat}(h1:k<i)(h2:c6 N r k=k):mapGetD (tI k) (nT (nM N r i)) (tI 0)=tI (eO N r k)∧mapHas (tI k) (nT (nM N r i))=true:=by
 have hm:(k,eO N r k)∈nM N r i:=AE.2 ⟨h1,h2,rfl⟩
 cases hf:(nM N r i).findIdx? fun p=>decide (k=p.1) with
 | none=>
  rw[List.findIdx?_eq_none_iff] at hf
  have:=hf _ hm
  simp at this
 | some j=>
  have hfj:=hf
  rw[List.findIdx?_eq_some_iff_getElem] at hf
  obtain⟨hj,h3,_⟩:=hf
  have h3:=of_decide_eq_true h3
  have h4:(nM N r i)[j]=(k,(nM N r i)[j].2):=by rw[h3]
  have h5:=List.getElem_mem hj
  rw[h4] at h5
  have h6:=(AE.1 h5).2.2
  unfold mapGetD mapHas
  rw[QY,hfj]
  refine⟨?_,rfl⟩
  simp only
  have:(nT (nM N r i)).getD j (tI 0)=.agg [tI k,tI (eO N r k)]:=by
   rw[List.getD_eq_getElem?_getD];unfold nT;rw[List.getElem?_map,List.getElem?_eq_getElem hj,h4,h6];rfl
  rw[this];rfl
theorem Qk{N:Nat}{r:Nat→Nat→Bool}{k i:Nat}(h1:i≤k):mapHas (tI k) (nT (nM N r i))=false∧∀v,mapPut (tI k) (tI v) (nT (nM N r i))=nT (nM N r i)++[.agg [tI k,tI v]]:=by
 have hf:(nM N r i).findIdx? (fun p=>decide (k=p.1))=none:=by
  rw[List.findIdx?_eq_none_iff]
  intro p hp
  have:=(AE.1 (show (p.1,p.2)∈nM N r i from hp)).1
  exact decide_eq_false (by omega)
 unfold mapHas mapPut
 rw[QY,hf]
 exact⟨rfl,fun _=>rfl⟩
theorem Ql(L:List (Nat×Nat)):lenL (nT L)=(L.length:Int):=by rw[cH];simp[nT]
noncomputable def q1(F:Fs)(top:Nat→Nat)(i:Nat):Unit×List T×List T×Int×Int×Unit×List T×Unit:=
 ((),fZ F.length (fun v=>if v<i then ((qT F.length (cl F) v:Nat):Int) else 0),nT (nM F.length (cl F) i),(F.length:Int),(i:Int),(),lZ F.length top,())
theorem Xn{F:Fs}(hn:F.length≤1000){L:Am}{top:Nat→Nat}(h:Uf F (aG F) L top){i:Nat}(hi:i<F.length):b7 (q1 F top i)=some (.inl (q1 F top (i+1))):=by
 have hle:=xE (r:=cl F) hi
 have hll:=pE (r:=cl F) (BA F) hi
 have hrk:=A7 (N:=F.length) (r:=cl F) i
 have hfd:aV ((i:Int),(),lZ F.length top,())=some (((c6 F.length (cl F) i:Nat):Int),lZ F.length top,()):=by
  rw[V8 h.up hi,Ky h hi]
 have hset:fZ F.length (fun w=>if w=i then ((qT F.length (cl F) i:Nat):Int) else if w<i then ((qT F.length (cl F) w:Nat):Int) else 0)=fZ F.length (fun v=>if v<i+1 then ((qT F.length (cl F) v:Nat):Int) else 0):=cM fun v _=>by
  by_cases e1:v=i
  ·subst e1;rw[if_pos rfl,if_pos (by omega)]
  ·rw[if_neg e1]
   by_cases e2:v<i
   ·rw[if_pos e2,if_pos (by omega)]
   ·rw[if_neg e2,if_neg (by omega)]
 unfold b7 q1
 simp only[aA,decide_eq_true (show (i:Int)<(F.length:Int) by omega),cond_true,hfd,aL,aO]
 by_cases hc:c6 F.length (cl F) i=i
 ·have hnum:nM F.length (cl F) (i+1)=nM F.length (cl F) i++[(i,eO F.length (cl F) i)]:=by
   show nM _ _ i++_=_
   rw[if_pos hc]
  obtain⟨n1,n2⟩:=Qk (N:=F.length) (r:=cl F) (k:=i) (i:=i) (Nat.le_refl _)
  obtain⟨n3,_⟩:=Gs (N:=F.length) (r:=cl F) (k:=i) (i:=i+1) (by omega) hc
  have e3:nT (nM F.length (cl F) i)++[.agg [tI (i:Int),tI ((eO F.length (cl F) i:Nat):Int)]]=nT (nM F.length (cl F) (i+1)):=by rw[hnum];simp[nT]
  have e4:qT F.length (cl F) i=eO F.length (cl F) i:=by unfold qT;rw[hc]
  have hgo:∀x,T.one? (mapGetD (tI ((c6 F.length (cl F) i:Nat):Int)) x (tI 0))=T.one? (mapGetD (tI (i:Int)) x (tI 0)):=fun x=>by rw[hc]
  have hone:∃y,T.one? (mapGetD (tI (i:Int)) (nT (nM F.length (cl F) i)) (tI 0))=some y:=by
   unfold mapGetD
   rw[QY]
   have hf:(nM F.length (cl F) i).findIdx? (fun p=>decide (i=p.1))=none:=by
    rw[List.findIdx?_eq_none_iff]
    intro p hp
    have:=(AE.1 (show (p.1,p.2)∈nM F.length (cl F) i from hp)).1
    exact decide_eq_false (by omega)
   rw[hf]
   exact⟨_,rfl⟩
  obtain⟨y,hy⟩:=hone
  rw[hc]
  simp only[hy,aL,n1,Bool.not_false,cond_true,Ql,TN,n2,e3,aI,n3,xD,cN,kE hi,qM,aU,eB hi,iR,kD,aE,wk (show i≤1000000 by omega)]
  rw[←e4,hset]
 ·have hnum:nM F.length (cl F) (i+1)=nM F.length (cl F) i:=by
   show nM _ _ i++_=_
   rw[if_neg hc,List.append_nil]
  obtain⟨n1,n2⟩:=Gs (N:=F.length) (r:=cl F) (k:=c6 F.length (cl F) i) (i:=i) (by omega) hll
  have e4:qT F.length (cl F) i=eO F.length (cl F) (c6 F.length (cl F) i):=rfl
  simp only[n1,n2,xD,aL,Bool.not_true,cond_false,aI,cN,kE hi,qM,aU,eB hi,iR,kD,aE,wk (show i≤1000000 by omega)]
  rw[←e4,hset,hnum]
def q0(F:Fs)(i:Nat):List T×Unit×Int×Int×List T×Unit:=(eS F,(),(F.length:Int),(i:Int),fZ F.length (fun v=>if v<i then (v:Int) else 0),())
theorem E8{F:Fs}(hb:Bd F):cV (eS F,())=some (Kx F,()):=by
 have hn:=hb.n
 have hmk:mkLen ((F.length:Nat):Int) ((F.length:Nat):Int) 8=some (F.length,F.length):=gN (by omega) (by omega) (by omega) (by omega)
 have l0:=aH (F:=dU) F.length (q0 F) (fun i hi=>by
  unfold dU q0
  simp only[aA,cN,decide_eq_true (show (i:Int)<(F.length:Int) by omega),cond_true,kE hi,aL,aU,eB hi,aO,iR,kD,aE,wk (show i≤1000000 by omega),OH])
 have l1:dU (q0 F F.length)=some (.inr (.inl (eS F,(),lZ F.length (fun v=>v),()))):=by
  unfold dU q0
  simp only[aA,decide_eq_false (Int.lt_irrefl _),cond_false]
  rw[TK]
 obtain⟨L,top,h1,h2⟩:=QX (aG F) [] [] (fun v=>v) rfl ⟨.nil,fun v=>Nat.le_refl v,fun v hv=>.refl hv,fun k v hv=>(by cases hv),fun e he=>(by cases he)⟩
 have l2:=aH (F:=b7) F.length (q1 F top) (fun i hi=>Xn hn h2 hi)
 have l3:b7 (q1 F top F.length)=some (.inr (.inl (Nt F.length (cl F),()))):=by
  unfold b7 q1
  simp only[aA,decide_eq_false (Int.lt_irrefl _),cond_false]
  unfold Nt
  rw[cM (g:=fun v=>if v<F.length then ((qT F.length (cl F) v:Nat):Int) else 0) (g':=fun v=>((qT F.length (cl F) v:Nat):Int)) fun v hv=>if_pos hv]
 unfold cV Kx
 rw[EZ hb]
 simp only[aL]
 cases xY F with
 | false=>rfl
 | true=>
  simp only[Bool.not_true,cond_false,if_true,dR,hmk,aL,lR,aO,xH,cN]
  have e0:(eS F,(),(F.length:Int),(0:Int),fZ F.length (fun _=>0),())=q0 F 0:=by unfold q0;rw[OI];rfl
  rw[e0,l0,aF l1]
  simp only[aL,aI]
  rw[Br hb (([],(),lZ F.length (fun v=>v),()):List T×Unit×List T×Unit)]
  rw[show ([]:List T)=eM [] from rfl,h1]
  simp only[aL,dR,hmk]
  have e1:((),fZ F.length (fun _=>0),eM [],(F.length:Int),(0:Int),(),lZ F.length top,())=q1 F top 0:=by
   unfold q1
   rw[cM (g:=fun v=>if v<0 then ((qT F.length (cl F) v:Nat):Int) else 0) (g':=fun _=>0) fun v _=>if_neg (by omega)]
   rfl
  rw[e1,l2,aF l3]
  rfl
structure Mf (es:List Ed):Prop where
 n:es.length≤1000
 uq:∀i j,i<es.length→j<es.length→(gE es i).k=(gE es j).k→i=j
 rv:∀i,i<es.length→∃j,j<es.length∧(gE es j).k=(gE es i).r
 ne:∀i,i<es.length→(gE es i).k≠(gE es i).r
theorem Ed.rk{e e':Ed}(h:e.k=e'.r):e.r=e'.k:=by
 unfold Ed.k Ed.r at *
 rw[Prod.mk.injEq] at h ⊢
 exact⟨h.2,h.1⟩
theorem Gt{es:List Ed}{k:Kk}{i j:Nat}(hj:j<es.length)(hij:i<j)(h1:(gE es i).k=k)(h2:(gE es j).k=k):2≤A6 es k:=by
 have hi:i<es.length:=by omega
 have e1:es=es.take j++es[j]::es.drop (j+1):=by rw[←List.drop_eq_getElem_cons hj,List.take_append_drop]
 have gj:gE es j=es[j]:=by unfold gE;rw[List.getD_eq_getElem?_getD,List.getElem?_eq_getElem hj];rfl
 have gi:gE es i=es[i]:=by unfold gE;rw[List.getD_eq_getElem?_getD,List.getElem?_eq_getElem hi];rfl
 have hm:es[i]∈es.take j:=by
  have:=List.getElem_mem (l:=es.take j) (n:=i) (by simp;omega)
  rw[List.getElem_take] at this
  exact this
 have hp:0<A6 (es.take j) k:=List.countP_pos_iff.2 ⟨_,hm,decide_eq_true (by rw[←gi];exact h1)⟩
 rw[e1]
 unfold A6 at *
 rw[List.countP_append,List.countP_cons,if_pos (decide_eq_true (by rw[←gj];exact h2))]
 omega
theorem oH{n:Nat}{P:Nat→Bool}(h:(List.range n).all P=true){i:Nat}(hi:i<n):P i=true:=List.all_eq_true.1 h i (List.mem_range.2 hi)
theorem Qm{x:Lp}(h:GR x=true){i:Nat}(hi:i<x.length):x.getD i 0≠x.getD ((i+1)%x.length) 0:=by
 unfold GR Tw at h
 rw[Bool.and_eq_true,Bool.and_eq_true,decide_eq_true_eq,decide_eq_true_eq] at h
 obtain⟨h1,h2,h3⟩:=h
 have key:∀a b,a<b→b<x.length→x.getD a 0≠x.getD b 0:=fun a b hab hb he=>by
  have:=oH h1 hb
  unfold Pu at this
  rw[Bool.and_eq_true,Bool.not_eq_true'] at this
  have hm:x.getD b 0∈x.take b:=by
   rw[←he,List.getD_eq_getElem?_getD,List.getElem?_eq_getElem (by omega)]
   have:=List.getElem_mem (l:=x.take b) (n:=a) (by simp;omega)
   rw[List.getElem_take] at this
   exact this
  rw[List.contains_iff_mem.2 hm] at this
  exact absurd this.2 (by simp)
 by_cases hl:i+1<x.length
 ·rw[Nat.mod_eq_of_lt hl];exact key i (i+1) (by omega) hl
 ·have:i+1=x.length:=by omega
  rw[this,Nat.mod_self]
  exact fun e=>key 0 i (by omega) hi e.symm
theorem YF{F:Fs}(h:xY F=true){f l:Nat}(hf:f<F.length)(hl:l<(F.getD f []).length):GR ((F.getD f []).getD l [])=true:=by
 unfold xY at h
 rw[Bool.and_eq_true] at h
 have h1:=oH h.2 hf
 unfold MT at h1
 rw[Bool.and_eq_true,Bool.and_eq_true] at h1
 exact oH h1.2.2 hl
theorem Uk{F:Fs}(hb:Bd F)(h:Sk F=true):Mf (aG F):=by
 unfold Sk at h
 rw[Bool.and_eq_true] at h
 have hc:HO F=[]:=List.isEmpty_iff.1 h.1
 have hok:=Qe hc
 have hone:∀i,i<(aG F).length→A6 (aG F) (gE (aG F) i).k≤1:=fun i hi=>of_decide_eq_true (oH h.2 hi)
 refine⟨hb.e,fun i j hi hj he=>?_,fun i hi=>?_,fun i hi=>?_⟩
 ·rcases Nat.lt_trichotomy i j with hl | hl | hl
  ·have:=Gt hj hl he rfl;have:=hone j hj;omega
  ·exact hl
  ·have:=Gt hi hl he.symm rfl;have:=hone i hi;omega
 ·unfold HO at hc
  rw[hok,if_pos rfl,List.map_eq_nil_iff,List.filter_eq_nil_iff] at hc
  have hm:=GU hi
  have h1:=hc _ hm
  unfold QO at h1
  rw[decide_eq_true_eq] at h1
  have hp:0<A6 (aG F) (gE (aG F) i).k:=List.countP_pos_iff.2 ⟨_,hm,by simp⟩
  obtain⟨e,he,hk⟩:=List.countP_pos_iff.1 (show 0<A6 (aG F) (gE (aG F) i).r by omega)
  obtain⟨j,hj,hje⟩:=List.getElem_of_mem he
  refine⟨j,hj,?_⟩
  have gj:gE (aG F) j=e:=by unfold gE;rw[List.getD_eq_getElem?_getD,List.getElem?_eq_getElem hj];exact hje
  rw[gj];exact of_decide_eq_true hk
 ·obtain⟨h1,h2,h3,h4⟩:=DD (GU hi)
  have:=Qm (YF hok h1 h2) h3
  intro e
  unfold Ed.k Ed.r at e
  rw[h4] at e
  exact this (congrArg Prod.fst e)
def GV(es:List Ed)(i:Nat):Option Nat:=(List.range i).find? fun k=>decide ((gE es k).k=(gE es i).r)
def uG(es:List Ed)(i:Nat):Nat:=cnt (fun j=>(GV es j).isNone) i
def nm(es:List Ed)(i:Nat):Nat:=match GV es i with
 | none=>2*uG es i
 | some k=>2*uG es k+1
theorem mP{es:List Ed}{i k:Nat}(h:GV es i=some k):k<i∧(gE es k).k=(gE es i).r:=by
 unfold GV at h
 have h2:=List.find?_some (p:=fun k=>decide ((gE es k).k=(gE es i).r)) h
 exact⟨List.mem_range.1 (List.mem_of_find?_eq_some h),of_decide_eq_true h2⟩
theorem AF{es:List Ed}{i:Nat}(h:GV es i=none){k:Nat}(hk:k<i):(gE es k).k≠(gE es i).r:=by
 unfold GV at h
 rw[List.find?_eq_none] at h
 exact fun e=>h k (List.mem_range.2 hk) (decide_eq_true e)
theorem Qn{es:List Ed}(hm:Mf es){i k:Nat}(hi:i<es.length)(hk:k<i)(h:(gE es k).k=(gE es i).r):GV es i=some k:=by
 cases hr:GV es i with
 | none=>exact(AF hr hk h).elim
 | some k'=>
  obtain⟨h1,h2⟩:=mP hr
  rw[hm.uq k' k (by omega) (by omega) (h2.trans h.symm)]
theorem vU{es:List Ed}(hm:Mf es){i k:Nat}(hi:i<es.length)(h:GV es i=some k):GV es k=none:=by
 obtain⟨h1,h2⟩:=mP h
 cases hr:GV es k with
 | none=>rfl
 | some k'=>
  obtain⟨h3,h4⟩:=mP hr
  have:=hm.uq k' i (by omega) hi (h4.trans (Ed.rk h2))
  omega
theorem YG{es:List Ed}(hm:Mf es){i k:Nat}(hi:i<es.length)(h:GV es i=some k):nm es i=nm es k+1:=by
 unfold nm
 rw[h,vU hm hi h]
theorem E9(es:List Ed)(i:Nat):uG es (i+1)=uG es i+if (GV es i).isNone=true then 1 else 0:=by
 unfold uG
 simp only[cnt]
theorem QZ(es:List Ed)(i:Nat):uG es i≤i:=sN _ _
theorem Ul(es:List Ed)(i:Nat):nm es i≤2*i:=by
 unfold nm
 cases h:GV es i with
 | none=>have:=QZ es i;simp only;omega
 | some k=>
  have:=QZ es k
  have:=(mP h).1
  simp only;omega
def wI(es:List Ed)(i k:Nat):Int:=match GV es i with
 | some k0=>if k0<k then ((nm es k0:Nat):Int)+1 else -1
 | none=>-1
def nL(es:List Ed)(i:Nat)(w:Int):List T:=fZ es.length fun j=>if j=i then w else if j<i then ((nm es j:Nat):Int) else 0
def nO(es:List Ed)(i:Nat):List T:=fZ es.length fun j=>if j<i then ((nm es j:Nat):Int) else 0
def n1(es:List Ed)(i k:Nat):List T×List T×Int×Int×Int×Unit:=(es.map uF,nL es i (wI es i k),((2*uG es i:Nat):Int),(i:Int),(k:Int),())
theorem Gu{es:List Ed}{i:Nat}{w x:Int}:(nL es i w).set i (tI x)=nL es i x:=by
 unfold nL
 rw[kD]
 refine cM fun v _=>?_
 split <;> rfl
theorem Qo{es:List Ed}{i:Nat}{x:Int}:(nO es i).set i (tI x)=nL es i x:=by
 unfold nL nO
 rw[kD]
theorem Qp{es:List Ed}{i k:Nat}{w:Int}(hk:k<i)(hi:i<es.length):(nL es i w)[k]?=some (tI (nm es k)):=by
 unfold nL
 rw[eB (by omega),if_neg (by omega),if_pos hk]
theorem YH{es:List Ed}{i:Nat}{w:Int}(hi:i<es.length):(nL es i w)[i]?=some (tI w):=by
 unfold nL
 rw[eB hi,if_pos rfl]
theorem Qq{es:List Ed}{i:Nat}(hi:i<es.length):(nO es i)[i]?=some (tI 0):=by
 unfold nO
 rw[eB hi,if_neg (by omega)]
theorem Gv{es:List Ed}{i:Nat}{x:Int}(h:x=((nm es i:Nat):Int)):nL es i x=nO es (i+1):=by
 unfold nL nO
 refine cM fun v _=>?_
 by_cases e1:v=i
 ·subst e1;rw[if_pos rfl,if_pos (by omega),h]
 ·rw[if_neg e1]
  by_cases e2:v<i
  ·rw[if_pos e2,if_pos (by omega)]
  ·rw[if_neg e2,if_neg (by omega)]
theorem YI(es:List Ed)(i:Nat)(w:Int):lenL (nL es i w)=(es.length:Int):=cN _ _
theorem Kz(es:List Ed)(i:Nat):lenL (nO es i)=(es.length:Int):=cN _ _
theorem La{es:List Ed}(hm:Mf es){i k:Nat}(hi:i<es.length)(hk:k<i):wI es i (k+1)=if (gE es k).k=(gE es i).r then ((nm es k:Nat):Int)+1 else wI es i k:=by
 unfold wI
 by_cases h:(gE es k).k=(gE es i).r
 ·rw[if_pos h,Qn hm hi hk h]
  simp only
  rw[if_pos (by omega)]
 ·rw[if_neg h]
  cases hr:GV es i with
  | none=>rfl
  | some k0=>
   simp only
   have hne:k0≠k:=fun e=>h (e▸(mP hr).2)
   by_cases hl:k0<k
   ·rw[if_pos (by omega),if_pos hl]
   ·rw[if_neg (by omega),if_neg hl]
theorem Xo{es:List Ed}(hm:Mf es){i:Nat}(hi:i<es.length){k:Nat}(hk:k<i):gK (n1 es i k)=some (.inl (n1 es i (k+1))):=by
 have hn:=hm.n
 have hk':k<es.length:=by omega
 have hw:=La hm hi hk
 have hle:=Ul es k
 unfold gK n1
 simp only[aA,decide_eq_true (show (k:Int)<(i:Int) by omega),cond_true,LL hi,LL hk',aL,(DA _).1,(DA _).2.1,qM,aP,YI,kE hk',kE hi,aU,Qp hk hi,YH hi,cD,aE,aO,iR,Gu]
 by_cases h1:(gE es k).a=(gE es i).b
 ·rw[decide_eq_true h1]
  by_cases h2:(gE es k).b=(gE es i).a
  ·rw[decide_eq_true h2,hw,if_pos (show (gE es k).k=(gE es i).r by unfold Ed.k Ed.r;rw[h1,h2])]
   simp only[cond_true,aL,aI,wk (show k≤1000000 by omega)]
   rw[mY (by omega) (by omega)]
  ·rw[decide_eq_false h2,hw,if_neg (show ¬(gE es k).k=(gE es i).r from fun e=>h2 (congrArg Prod.snd e))]
   simp only[cond_true,cond_false,aL,aI,wk (show k≤1000000 by omega)]
 ·rw[decide_eq_false h1,hw,if_neg (show ¬(gE es k).k=(gE es i).r from fun e=>h1 (congrArg Prod.fst e))]
  simp only[cond_false,aL,aI,wk (show k≤1000000 by omega)]
def n0(es:List Ed)(i:Nat):List T×List T×Int×Int×Unit:=(es.map uF,nO es i,((2*uG es i:Nat):Int),(i:Int),())
theorem Xp{es:List Ed}(hm:Mf es){i:Nat}(hi:i<es.length):gL (n0 es i)=some (.inl (n0 es (i+1))):=by
 have hn:=hm.n
 have hfl:=QZ es i
 have hl:=aH (F:=gK) i (n1 es i) (fun k hk=>Xo hm hi hk)
 have ho:gK (n1 es i i)=some (.inr (.inl (es.map uF,nL es i (wI es i i),((2*uG es i:Nat):Int),(i:Int),()))):=by
  unfold gK n1
  simp only[aA,decide_eq_false (Int.lt_irrefl _),cond_false]
 have hw0:wI es i 0=-1:=by unfold wI;cases GV es i <;> simp
 have e0:(es.map uF,nL es i (-1),((2*uG es i:Nat):Int),(i:Int),(0:Int),())=n1 es i 0:=by unfold n1;rw[hw0];rfl
 have hfs:=E9 es i
 unfold gL n0
 simp only[aA,lE,decide_eq_true (show (i:Int)<(es.length:Int) by omega),cond_true,Kz,kE hi,aL,aU,Qq hi,aO,iR,Qo]
 rw[e0,hl,aF ho]
 simp only[aL,aI,YI,kE hi,aU,YH hi,cD,qM,iR,Gu,aE]
 cases hr:GV es i with
 | none=>
  have hw:wI es i i=-1:=by unfold wI;rw[hr]
  have hnm:nm es i=2*uG es i:=by unfold nm;rw[hr]
  rw[hr] at hfs
  simp only[Option.isNone_none,if_true] at hfs
  rw[hw,decide_eq_true (by omega)]
  simp only[cond_true,aI,aL,wk (show i≤1000000 by omega)]
  rw[Gv (by rw[hnm]),mY (by omega) (by omega),hfs]
  have:((2*uG es i:Nat):Int)+2=((2*(uG es i+1):Nat):Int):=by omega
  rw[this]
 | some k=>
  have hnm:=YG hm hi hr
  have hw:wI es i i=((nm es i:Nat):Int):=by
   unfold wI;rw[hr]
   simp only
   rw[if_pos (mP hr).1,hnm];omega
  rw[hr] at hfs
  simp only[Option.isNone_some,Bool.false_eq_true,if_false,Nat.add_zero] at hfs
  rw[hw,decide_eq_false (by omega)]
  simp only[cond_false,aI,aL,wk (show i≤1000000 by omega)]
  rw[Gv rfl,hfs]
theorem Cc{es:List Ed}(hm:Mf es):lD (es.map uF,())=some (fZ es.length (fun j=>((nm es j:Nat):Int)),()):=by
 have hn:=hm.n
 have hmk:mkLen ((es.length:Nat):Int) ((es.length:Nat):Int) 8=some (es.length,es.length):=gN (by omega) (by omega) (by omega) (by omega)
 have hl:=aH (F:=gL) es.length (n0 es) (fun i hi=>Xp hm hi)
 have ho:gL (n0 es es.length)=some (.inr (.inl (nO es es.length,()))):=by
  unfold gL n0
  simp only[aA,lE,decide_eq_false (Int.lt_irrefl _),cond_false]
 unfold lD
 simp only[lE,hmk,aL,lR,aO,xH]
 have e0:(es.map uF,fZ es.length (fun _=>0),(0:Int),(0:Int),())=n0 es 0:=by
  unfold n0 nO
  rw[cM (g:=fun j=>if j<0 then ((nm es j:Nat):Int) else 0) (g':=fun _=>0) fun v _=>if_neg (by omega)]
  rfl
 rw[e0,hl,aF ho]
 show some (nO es es.length,())=_
 unfold nO
 rw[cM (g:=fun j=>if j<es.length then ((nm es j:Nat):Int) else 0) (g':=fun j=>((nm es j:Nat):Int)) fun v hv=>if_pos hv]
theorem Qr{L:Am}{e:Ed}(hl:L.length≤100000)(h:lk L e.k=none):bN (eM L,()) e=some (eM (put (put L e.k L.length) e.r (L.length+1)),()):=by
 have hlen:lenL (eM L)=(L.length:Int):=by rw[cH];simp[eM]
 unfold bN fM dG
 simp only[aO,C9,aL]
 rw[show ((e.a,e.b):Kk)=e.k from rfl,show ((e.b,e.a):Kk)=e.r from rfl]
 simp only[xC,xD,aL,QL,h,Option.isSome_none,Bool.not_false,cond_true,hlen,aE,Fy]
 rw[mY (by omega) (by omega)]
theorem Qs{L:Am}{e:Ed}{v:Int}(h:lk L e.k=some v):bN (eM L,()) e=some (eM L,()):=by
 unfold bN fM dG
 simp only[aO,C9,aL]
 rw[show ((e.a,e.b):Kk)=e.k from rfl]
 simp only[xC,xD,aL,QL,h,Option.isSome_some,Bool.not_true,cond_false]
structure Jn (es:List Ed) (i:Nat) (L:Am):Prop where
 nk:Nk L
 len:L.length=2*uG es i
 ks:∀j,j<i→lk L (gE es j).k=some ((nm es j:Nat):Int)
 rs:∀j,j<i→GV es j=none→lk L (gE es j).r=some ((nm es j:Nat)+1:Int)
 ex:∀k v,lk L k=some v→∃j,j<i∧(k=(gE es j).k∨k=(gE es j).r)
theorem Ed.rr(e:Ed):∀e':Ed,e.r=e'.r→e.k=e'.k:=fun e' h=>by
 unfold Ed.k Ed.r at *
 rw[Prod.mk.injEq] at h ⊢
 exact⟨h.2,h.1⟩
theorem Lc{es:List Ed}(hm:Mf es){i:Nat}(hi:i<es.length){L:Am}(h:Jn es i L):∃L',bN (eM L,()) (gE es i)=some (eM L',())∧Jn es (i+1) L':=by
 have hn:=hm.n
 have hfl:=QZ es i
 have hfs:=E9 es i
 cases hr:GV es i with
 | some k=>
  obtain⟨h1,h2⟩:=mP hr
  have hk:=h.rs k h1 (vU hm hi hr)
  rw[show (gE es k).r=(gE es i).k from Ed.rk h2] at hk
  rw[hr] at hfs
  simp only[Option.isNone_some,Bool.false_eq_true,if_false,Nat.add_zero] at hfs
  refine⟨L,Qs hk,h.nk,by rw[hfs];exact h.len,fun j hj=>?_,fun j hj hjr=>?_,fun q v hq=>?_⟩
  ·rcases Nat.lt_or_ge j i with hl | hl
   ·exact h.ks j hl
   ·have:j=i:=by omega
    subst this
    rw[hk,YG hm hi hr]
    congr 1
  ·rcases Nat.lt_or_ge j i with hl | hl
   ·exact h.rs j hl hjr
   ·have:j=i:=by omega
    subst this
    rw[hr] at hjr;cases hjr
  ·obtain⟨j,hj,hq⟩:=h.ex q v hq
   exact⟨j,by omega,hq⟩
 | none=>
  have hnone:lk L (gE es i).k=none:=by
   cases hk:lk L (gE es i).k with
   | none=>rfl
   | some v=>
    obtain⟨j,hj,hq | hq⟩:=h.ex _ _ hk
    ·have:=hm.uq i j hi (by omega) hq;omega
    ·exact(AF hr hj (Ed.rk hq).symm).elim
  have hrnone:lk L (gE es i).r=none:=by
   cases hk:lk L (gE es i).r with
   | none=>rfl
   | some v=>
    obtain⟨j,hj,hq | hq⟩:=h.ex _ _ hk
    ·exact(AF hr hj hq.symm).elim
    ·have:=hm.uq i j hi (by omega) (Ed.rr _ _ hq);omega
  have hnm:nm es i=2*uG es i:=by unfold nm;rw[hr]
  have p1:=h.nk.put (gE es i).k L.length
  have l1:=fun k'=>QM h.nk (gE es i).k k' L.length
  have l2:=fun k'=>QM p1 (gE es i).r k' (L.length+1)
  have hne:=hm.ne i hi
  rw[hr] at hfs
  simp only[Option.isNone_none,if_true] at hfs
  refine⟨_,Qr (by rw[h.len];omega) hnone,p1.put _ _,?_,fun j hj=>?_,fun j hj hjr=>?_,fun q v hq=>?_⟩
  ·have l3:lk (put L (gE es i).k L.length) (gE es i).r=none:=by rw[l1,if_neg hne.symm];exact hrnone
   have a1:=X5 (L:=L) (k:=(gE es i).k) (v:=L.length)
   have a2:=X5 (L:=put L (gE es i).k L.length) (k:=(gE es i).r) (v:=L.length+1)
   rw[l3] at a2
   rw[hnone] at a1
   simp only[Option.isSome_none,Bool.false_eq_true,if_false] at a1 a2
   have:=h.len
   omega
  ·rw[l2,l1]
   rcases Nat.lt_or_ge j i with hl | hl
   ·rw[if_neg (fun e=>AF hr hl e),if_neg (fun e=>by have:=hm.uq j i (by omega) hi e;omega)]
    exact h.ks j hl
   ·have:j=i:=by omega
    subst this
    rw[if_neg hne,if_pos rfl,hnm,h.len]
  ·rw[l2,l1]
   rcases Nat.lt_or_ge j i with hl | hl
   ·rw[if_neg (fun e=>by have:=hm.uq j i (by omega) hi (Ed.rr _ _ e);omega),if_neg (fun e=>AF hr hl (Ed.rk e.symm).symm)]
    exact h.rs j hl hjr
   ·have:j=i:=by omega
    subst this
    rw[if_pos rfl,hnm,h.len]
  ·rw[l2,l1] at hq
   split at hq
   ·rename_i e;exact⟨i,by omega,.inr e⟩
   ·split at hq
    ·rename_i e;exact⟨i,by omega,.inl e⟩
    ·obtain⟨j,hj,hq⟩:=h.ex q v hq
     exact⟨j,by omega,hq⟩
theorem YJ{es:List Ed}(hm:Mf es):∀(m i:Nat) (L:Am),i+m=es.length→Jn es i L→∃L',(es.drop i).foldlM bN (eM L,())=some (eM L',())∧Jn es es.length L'
 | 0,i,L,hi,h=>by
  have:i=es.length:=by omega
  subst this
  exact⟨L,by simp,h⟩
 | m+1,i,L,hi,h=>by
  have hlt:i<es.length:=by omega
  obtain⟨L1,h1,h2⟩:=Lc hm hlt h
  obtain⟨L2,h3,h4⟩:=YJ hm m (i+1) L1 (by omega) h2
  refine⟨L2,?_,h4⟩
  have gi:gE es i=es[i]:=by unfold gE;rw[List.getD_eq_getElem?_getD,List.getElem?_eq_getElem hlt];rfl
  rw[List.drop_eq_getElem_cons hlt,List.foldlM_cons,←gi,h1]
  exact h3
theorem HP{F:Fs}(hb:Bd F)(hm:Mf (aG F)):∃L,cP (eS F,(),[],())=some (eM L,())∧Jn (aG F) (aG F).length L:=by
 obtain⟨L,h1,h2⟩:=YJ hm (aG F).length 0 [] (by omega) ⟨.nil,rfl,fun j hj=>(by omega),fun j hj=>(by omega),fun k v hv=>(by cases hv)⟩
 rw[List.drop_zero] at h1
 exact⟨L,(S7 hb (([],()):List T×Unit)).trans h1,h2⟩
theorem V9:∀{l₁ l₂:List Kk},l₁.Nodup→(∀x∈l₁,x∈l₂)→l₁.length≤l₂.length
 | [],_,_,_=>Nat.zero_le _
 | a::l,l₂,hn,hs=>by
  rw[List.nodup_cons] at hn
  have hm:=hs a (List.mem_cons_self ..)
  have h1:=V9 (l₁:=l) (l₂:=l₂.erase a) hn.2 fun x hx=>by
   have hx2:=hs x (List.mem_cons_of_mem _ hx)
   have hne:x≠a:=fun e=>hn.1 (e▸hx)
   exact(List.mem_erase_of_ne hne).2 hx2
  rw[List.length_erase_of_mem hm] at h1
  have:=List.length_pos_of_mem hm
  rw[List.length_cons];omega
theorem GW{α:Type}:∀{n:Nat} {f:Nat→α},(∀i j,i<n→j<n→f i=f j→i=j)→((List.range n).map f).Nodup
 | 0,_,_=>List.nodup_nil
 | n+1,f,h=>by
  rw[List.range_succ,List.map_append,List.map_cons,List.map_nil,List.nodup_append]
  refine⟨GW fun i j hi hj=>h i j (by omega) (by omega),by simp,fun a ha b hb e=>?_⟩
  obtain⟨i,hi,rfl⟩:=List.mem_map.1 ha
  rw[List.mem_singleton] at hb
  subst hb
  have:=h i n (by have:=List.mem_range.1 hi;omega) (by omega) e
  have:=List.mem_range.1 hi
  omega
theorem YK{es:List Ed}(hm:Mf es){L:Am}(h:Jn es es.length L):2*uG es es.length=es.length:=by
 rw[←h.len]
 have h1:((List.range es.length).map (fun i=>(gE es i).k)).length≤(L.map (·.1)).length:=V9 (GW hm.uq) fun x hx=>by
  obtain⟨i,hi,rfl⟩:=List.mem_map.1 hx
  have:=h.ks i (List.mem_range.1 hi)
  rw[C8 h.nk] at this
  exact List.mem_map.2 ⟨_,this,rfl⟩
 have h2:(L.map (·.1)).length≤((List.range es.length).map (fun i=>(gE es i).k)).length:=V9 h.nk fun x hx=>by
  obtain⟨p,hp,rfl⟩:=List.mem_map.1 hx
  obtain⟨j,hj,e | e⟩:=h.ex p.1 p.2 ((C8 h.nk).2 hp)
  ·exact List.mem_map.2 ⟨j,List.mem_range.2 hj,e.symm⟩
  ·obtain⟨k,hk,e2⟩:=hm.rv j hj
   exact List.mem_map.2 ⟨k,List.mem_range.2 hk,e2.trans e.symm⟩
 rw[List.length_map,List.length_map,List.length_range] at h1
 rw[List.length_map,List.length_map,List.length_range] at h2
 omega
theorem Gw(es:List Ed){i j:Nat}(h:i≤j):uG es i≤uG es j:=by
 induction j with
 | zero=>have:i=0:=by omega
         subst this;exact Nat.le_refl _
 | succ j ih=>
  rcases Nat.lt_or_ge j i with hl | hl
  ·have:i=j+1:=by omega
   subst this;exact Nat.le_refl _
  ·have:=ih hl
   have:=E9 es j
   omega
theorem Q1{es:List Ed}{i j:Nat}(h:i<j)(hr:GV es i=none):uG es i<uG es j:=by
 have h1:=Gw es (show i+1≤j by omega)
 have h2:=E9 es i
 rw[hr] at h2
 simp only[Option.isNone_none,if_true] at h2
 omega
theorem YL{es:List Ed}{i j:Nat}(hi:GV es i=none)(hj:GV es j=none)(h:uG es i=uG es j):i=j:=by
 rcases Nat.lt_trichotomy i j with hl | hl | hl
 ·have:=Q1 hl hi;omega
 ·exact hl
 ·have:=Q1 hl hj;omega
theorem WA{es:List Ed}(hm:Mf es){i j:Nat}(hi:i<es.length)(hj:j<es.length)(h:nm es i=nm es j):i=j:=by
 unfold nm at h
 cases hri:GV es i with
 | none=>
  cases hrj:GV es j with
  | none=>rw[hri,hrj] at h;exact YL hri hrj (by simp only at h;omega)
  | some k=>rw[hri,hrj] at h;simp only at h;omega
 | some k=>
  cases hrj:GV es j with
  | none=>rw[hri,hrj] at h;simp only at h;omega
  | some k'=>
   rw[hri,hrj] at h
   have hk:=YL (vU hm hi hri) (vU hm hj hrj) (by simp only at h;omega)
   subst hk
   have h1:=(mP hri).2
   have h2:=(mP hrj).2
   exact hm.uq i j hi hj (Ed.rr _ _ (h1.symm.trans h2))
theorem FA{es:List Ed}(hm:Mf es)(ha:2*uG es es.length=es.length){i:Nat}(hi:i<es.length):nm es i<es.length:=by
 unfold nm
 cases hr:GV es i with
 | none=>have:=Q1 hi hr;simp only;omega
 | some k=>
  have:=Q1 (show k<es.length by have:=(mP hr).1;omega) (vU hm hi hr)
  simp only;omega
theorem Ld{n:Nat}{f:Nat→Nat}(h:∀i j,i<n→j<n→f i=f j→i=j)(hl:∀i,i<n→f i<n){v:Nat}(hv:v<n):∃i,i<n∧f i=v:=by
 have:=Ex (l₁:=(List.range n).map f) (l₂:=List.range n) (GW h) (fun x hx=>by
  obtain⟨i,hi,rfl⟩:=List.mem_map.1 hx
  exact List.mem_range.2 (hl i (List.mem_range.1 hi))) (by simp) v (List.mem_range.2 hv)
 obtain⟨i,hi,e⟩:=List.mem_map.1 this
 exact⟨i,List.mem_range.1 hi,e⟩
theorem Lf{es:List Ed}(hm:Mf es)(ha:2*uG es es.length=es.length){v:Nat}(hv:v<es.length):∃i,i<es.length∧nm es i=v:=
 Ld (fun _ _ hi hj=>WA hm hi hj) (fun _ hi=>FA hm ha hi) hv
def iv(es:List Ed)(v:Nat):Nat:=((List.range es.length).find? fun i=>decide (nm es i=v)).getD 0
theorem OJ{es:List Ed}(hm:Mf es){i:Nat}(hi:i<es.length):iv es (nm es i)=i:=by
 unfold iv
 cases h:(List.range es.length).find? fun k=>decide (nm es k=nm es i) with
 | none=>
  rw[List.find?_eq_none] at h
  exact absurd (decide_eq_true rfl) (h i (List.mem_range.2 hi))
 | some k=>
  have h1:=List.mem_range.1 (List.mem_of_find?_eq_some h)
  have h2:=List.find?_some (p:=fun k=>decide (nm es k=nm es i)) h
  exact WA hm h1 hi (of_decide_eq_true h2)
theorem LO{es:List Ed}(hm:Mf es)(ha:2*uG es es.length=es.length){v:Nat}(hv:v<es.length):iv es v<es.length∧nm es (iv es v)=v:=by
 obtain⟨i,hi,rfl⟩:=Lf hm ha hv
 rw[OJ hm hi]
 exact⟨hi,rfl⟩
def hZ(n:Nat)(g:Nat→Hf):List T:=(List.range n).map fun v=>tH (g v)
theorem LP(n:Nat)(g:Nat→Hf):(hZ n g).length=n:=by simp[hZ]
theorem rJ(n:Nat)(g:Nat→Hf):lenL (hZ n g)=(n:Int):=by rw[cH,LP]
theorem uI{n:Nat}{g:Nat→Hf}{v:Nat}(h:v<n):(hZ n g)[v]?=some (tH (g v)):=by simp[hZ,h]
theorem AG{n:Nat}{g g':Nat→Hf}(h:∀v,v<n→g v=g' v):hZ n g=hZ n g':=by
 unfold hZ
 exact List.map_congr_left fun v hv=>by rw[h v (List.mem_range.1 hv)]
theorem Q2{n:Nat}{g:Nat→Hf}{v:Nat}{x:Hf}:(hZ n g).set v (tH x)=hZ n (fun w=>if w=v then x else g w):=by
 refine List.ext_getElem? fun i=>?_
 rw[List.getElem?_set]
 by_cases hi:i<n
 ·rw[uI (g:=fun w=>if w=v then x else g w) hi]
  by_cases e:v=i
  ·subst e
   rw[if_pos rfl,if_pos (by rw[LP];exact hi)]
   exact congrArg (fun z=>some (tH z)) (if_pos rfl).symm
  ·rw[if_neg e,uI hi]
   exact congrArg (fun z=>some (tH z)) (if_neg (fun h:i=v=>e h.symm)).symm
 ·have h1:(hZ n g)[i]?=none:=List.getElem?_eq_none (by rw[LP];omega)
  have h2:(hZ n (fun w=>if w=v then x else g w))[i]?=none:=List.getElem?_eq_none (by rw[LP];omega)
  rw[h1,h2]
  split
  ·split
   ·rename_i h3 h4;rw[LP] at h4;omega
   ·rfl
  ·rfl
theorem Gx(n:Nat)(c:Hf):List.replicate n (tH c)=hZ n (fun _=>c):=by
 unfold hZ
 rw[List.map_const',List.length_range]
theorem Lg(x:Hf)(a b c d:Int):T.upd 4 (tH x) 0 [tI a,tI b,tI c,tI d]=tH ⟨a,b,c,d⟩:=by unfold T.upd;rfl
theorem YM(x:Hf)(a:Int):T.upd 4 (tH x) 0 [tI a]=tH ⟨a,x.n,x.p,x.r⟩:=by unfold T.upd;rfl
theorem Lh(x:Hf)(a:Int):T.upd 4 (tH x) 1 [tI a]=tH ⟨x.f,a,x.p,x.r⟩:=by unfold T.upd;rfl
theorem Li(x:Hf)(a:Int):T.upd 4 (tH x) 2 [tI a]=tH ⟨x.f,x.n,a,x.r⟩:=by unfold T.upd;rfl
theorem Lj(x:Hf)(a:Int):T.upd 4 (tH x) 3 [tI a]=tH ⟨x.f,x.n,x.p,a⟩:=by unfold T.upd;rfl
theorem Gy(a b c d:Int):T.agg [tI a,tI b,tI c,tI d]=tH ⟨a,b,c,d⟩:=rfl
def nZ(es:List Ed):List T:=fZ es.length fun j=>((nm es j:Nat):Int)
def wH(es:List Ed)(z:Int)(o n R k:Nat):Hf:=⟨z,((nm es (o+(k+1)%n):Nat):Int),((nm es (o+(k+n-1)%n):Nat):Int),(R:Int)⟩
def rH(es:List Ed)(z:Int)(o n R:Nat)(g:Nat→Hf)(k:Nat)(v:Nat):Hf:=if o≤iv es v∧iv es v<o+k then wH es z o n R (iv es v-o) else g v
def r3(F:Fs)(es:List Ed)(rs:List T)(x11 x12:Int)(x13 x14:T)(x15 x16:Int)(o f l n:Nat)(g:Nat→Hf)(R k:Nat)(m:Nat):List T×Unit×List T×Unit×List T×Int×Int×Int×Int×Int×Int×Int×Int×T×T×Int×Int×List T×List T×Unit:=
 (eS F,(),es.map uF,(),nZ es,(o:Int),(f:Int),(l:Int),(n:Int),(m:Int),(k:Int),x11,x12,x13,x14,x15,x16,hZ es.length (rH es (-1) o n R g k),rs,())
theorem YN(a n:Nat):modI (a:Int) (n:Int)=((a%n:Nat):Int):=by
 rw[tE,Int.tmod_eq_emod_of_nonneg (by omega)];rfl
theorem Gz{n k:Nat}(hn:0<n)(hn':n≤1000000)(hk:k≤1000000):modI (wr .i64 ((wr .i64 ((k:Int)+(n:Int)))-1)) (n:Int)=(((k+n-1)%n:Nat):Int):=by
 rw[mY (n:=(k:Int)+(n:Int)) (by omega) (by omega),mY (by omega) (by omega),tE]
 have:(k:Int)+(n:Int)-1=((k+n-1:Nat):Int):=by omega
 rw[this,Int.tmod_eq_emod_of_nonneg (by omega)];rfl
theorem Qt{es:List Ed}(hm:Mf es){z:Int}{o n R k:Nat}{g:Nat→Hf}(ha:2*uG es es.length=es.length)(hk:k<n)(ho:o+n≤es.length):
 hZ es.length (fun w=>if w=nm es (o+k) then wH es z o n R k else rH es z o n R g k w)=hZ es.length (rH es z o n R g (k+1)):=by
 refine AG fun v hv=>?_
 obtain⟨h1,h2⟩:=LO hm ha hv
 by_cases e:v=nm es (o+k)
 ·have hi:iv es v=o+k:=by rw[e];exact OJ hm (by omega)
  rw[if_pos e]
  unfold rH
  rw[if_pos (by omega),hi,show o+k-o=k by omega]
 ·rw[if_neg e]
  have hi:iv es v≠o+k:=fun e2=>e (by rw[←h2,e2])
  unfold rH
  by_cases c:o≤iv es v∧iv es v<o+k
  ·rw[if_pos c,if_pos (by omega)]
  ·rw[if_neg c,if_neg (by omega)]
theorem Xq{F:Fs}{es:List Ed}(hm:Mf es)(ha:2*uG es es.length=es.length){rs:List T}{x11 x12:Int}{x13 x14:T}{x15 x16:Int}{o f l n:Nat}{g:Nat→Hf}{R k m:Nat}(hk:k<n)(ho:o+n≤es.length)(hR:lenL rs=(R:Int)):
 e8 (r3 F es rs x11 x12 x13 x14 x15 x16 o f l n g R k m)=some (.inl (r3 F es rs x11 x12 x13 x14 x15 x16 o f l n g R (k+1) (min m (nm es (o+k))))):=by
 have hn:=hm.n
 have h1:o+k<es.length:=by omega
 have hm1:(k+1)%n<n:=Nat.mod_lt _ (by omega)
 have hm2:(k+n-1)%n<n:=Nat.mod_lt _ (by omega)
 have h2:o+(k+1)%n<es.length:=by omega
 have h3:o+(k+n-1)%n<es.length:=by omega
 have wo:∀j:Nat,o+j<es.length→wr .i64 ((o:Int)+(j:Int))=((o+j:Nat):Int):=fun j hj=>by rw[mY (by omega) (by omega)];push_cast;rfl
 have hx:∀j:Nat,j<es.length→idxL (nZ es) (j:Int)=some (tI ((nm es j:Nat):Int)):=fun j hj=>xG hj
 have hnz:nz (n:Int)=some (n:Int):=EB (by omega)
 have hs:=Qt (R:=R) (g:=g) (z:=-1) hm ha hk ho
 unfold e8 r3
 simp only[aA,decide_eq_true (show (k:Int)<(n:Int) by omega),cond_true,aE,EA,wo k h1,hx _ h1,aL,hnz,YN,Gz (show 0<n by omega) (show n≤1000000 by omega) (show k≤1000000 by omega),wo _ h2,hx _ h2,wo _ h3,hx _ h3,
  cD,jZ,qM,aQ,rJ,kE (FA hm ha h1),aU,uI (FA hm ha h1),aO,Lg,hR,Q2,wk (show k≤1000000 by omega),Ue]
 rw[←hs]
 rfl
theorem FB{β:Type}(d:Nat→List β)(off:Nat→Nat)(h0:off 0=0)(hs:∀k,off (k+1)=off k+(d k).length):∀n,((List.range n).flatMap d).length=off n∧∀k,k<n→∀i,i<(d k).length→((List.range n).flatMap d)[off k+i]?=(d k)[i]?
 | 0=>⟨by simp[h0],fun k hk=>absurd hk (by omega)⟩
 | n+1=>by
  obtain⟨h1,h2⟩:=FB d off h0 hs n
  have e:(List.range (n+1)).flatMap d=(List.range n).flatMap d++d n:=by rw[List.range_succ,List.flatMap_append];simp
  rw[e]
  refine⟨by rw[List.length_append,h1,hs],fun k hk i hi=>?_⟩
  rcases Nat.lt_or_ge k n with hl | hl
  ·have h3:=h2 k hl i hi
   have hlt:off k+i<((List.range n).flatMap d).length:=by
    rw[List.getElem?_eq_getElem hi] at h3
    exact(List.getElem?_eq_some_iff.1 h3).1
   rw[List.getElem?_append_left hlt]
   exact h3
  ·have:k=n:=by omega
   subst this
   rw[List.getElem?_append_right (by omega),h1,Nat.add_sub_cancel_left]
def oL(c:Fc):Nat→Nat
 | 0=>0
 | l+1=>oL c l+(c.getD l []).length
def oF(F:Fs):Nat→Nat
 | 0=>0
 | f+1=>oF F f+oL (F.getD f []) (F.getD f []).length
def nR(F:Fs):Nat→Nat
 | 0=>0
 | f+1=>nR F f+(F.getD f []).length
theorem Q3(f:Nat)(c:Fc)(l:Nat):(uM f c l).length=(c.getD l []).length:=by unfold uM;rw[List.length_map,List.length_range]
theorem Q4(F:Fs)(f:Nat):(z8 F f).length=oL (F.getD f []) (F.getD f []).length:=
 (FB (uM f (F.getD f [])) (oL (F.getD f [])) rfl (fun k=>by rw[Q3];rfl) (F.getD f []).length).1
theorem IP(F:Fs):(aG F).length=oF F F.length:=(FB (z8 F) (oF F) rfl (fun k=>by rw[Q4];rfl) F.length).1
theorem YO(c:Fc){i j:Nat}(h:i≤j):oL c i≤oL c j:=by
 induction j with
 | zero=>have:i=0:=by omega
         subst this;exact Nat.le_refl _
 | succ j ih=>
  rcases Nat.lt_or_ge j i with hl | hl
  ·have:i=j+1:=by omega
   subst this;exact Nat.le_refl _
  ·have:=ih hl
   show oL c i≤oL c j+_
   omega
theorem Lk(F:Fs){i j:Nat}(h:i≤j):oF F i≤oF F j:=by
 induction j with
 | zero=>have:i=0:=by omega
         subst this;exact Nat.le_refl _
 | succ j ih=>
  rcases Nat.lt_or_ge j i with hl | hl
  ·have:i=j+1:=by omega
   subst this;exact Nat.le_refl _
  ·have:=ih hl
   show oF F i≤oF F j+_
   omega
theorem YP{F:Fs}{f l:Nat}(hf:f<F.length)(hl:l<(F.getD f []).length):oF F f+oL (F.getD f []) l+((F.getD f []).getD l []).length≤(aG F).length:=by
 rw[IP]
 have h1:=Lk F (show f+1≤F.length by omega)
 have h2:=YO (F.getD f []) (show l+1≤(F.getD f []).length by omega)
 have e1:oF F (f+1)=oF F f+oL (F.getD f []) (F.getD f []).length:=rfl
 have e2:oL (F.getD f []) (l+1)=oL (F.getD f []) l+((F.getD f []).getD l []).length:=rfl
 omega
theorem Nv{F:Fs}{f l i:Nat}(hf:f<F.length)(hl:l<(F.getD f []).length)(hi:i<((F.getD f []).getD l []).length):gE (aG F) (oF F f+oL (F.getD f []) l+i)=uK f l ((F.getD f []).getD l []) i:=by
 have h1:=(FB (uM f (F.getD f [])) (oL (F.getD f [])) rfl (fun k=>by rw[Q3];rfl) (F.getD f []).length).2 l hl i (by rw[Q3];exact hi)
 have hlt:oL (F.getD f []) l+i<(z8 F f).length:=by
  rw[Q4]
  have:=YO (F.getD f []) (show l+1≤(F.getD f []).length by omega)
  have e2:oL (F.getD f []) (l+1)=oL (F.getD f []) l+((F.getD f []).getD l []).length:=rfl
  omega
 have h2:=(FB (z8 F) (oF F) rfl (fun k=>by rw[Q4];rfl) F.length).2 f hf (oL (F.getD f []) l+i) hlt
 have h3:(uM f (F.getD f []) l)[i]?=some (uK f l ((F.getD f []).getD l []) i):=by
  unfold uM
  rw[List.getElem?_map,List.getElem?_range hi];rfl
 have h4:(aG F)[oF F f+(oL (F.getD f []) l+i)]?=some (uK f l ((F.getD f []).getD l []) i):=h2.trans (h1.trans h3)
 unfold gE
 rw[List.getD_eq_getElem?_getD,Nat.add_assoc,h4];rfl
def mn(es:List Ed)(o:Nat):Nat→Nat
 | 0=>nm es o
 | k+1=>min (mn es o k) (nm es (o+k))
def g2(es:List Ed)(z:Int)(c:Fc)(o R:Nat)(g:Nat→Hf):Nat→(Nat→Hf)
 | 0=>g
 | l+1=>rH es z (o+oL c l) (c.getD l []).length (R+l) (g2 es z c o R g l) (c.getD l []).length
def OL(es:List Ed)(c:Fc)(f o:Nat):Nat→List Rg
 | 0=>[]
 | l+1=>OL es c f o l++[⟨((mn es (o+oL c l) (c.getD l []).length:Nat):Int),-1,(f:Int)⟩]
def gF(es:List Ed)(z:Int)(F:Fs):Nat→(Nat→Hf)
 | 0=>fun _=>⟨0,0,0,0⟩
 | f+1=>g2 es z (F.getD f []) (oF F f) (nR F f) (gF es z F f) (F.getD f []).length
def FK(es:List Ed)(F:Fs):Nat→List Rg
 | 0=>[]
 | f+1=>FK es F f++OL es (F.getD f []) f (oF F f) (F.getD f []).length
theorem TO(es:List Ed)(c:Fc)(f o l:Nat):OL es c f o (l+1)=OL es c f o l++[⟨((mn es (o+oL c l) (c.getD l []).length:Nat):Int),-1,(f:Int)⟩]:=rfl
theorem FC(es:List Ed)(c:Fc)(f o l:Nat):(OL es c f o l).length=l:=by
 induction l with
 | zero=>rfl
 | succ l ih=>unfold OL;rw[List.length_append,ih];rfl
theorem BB(es:List Ed)(F:Fs)(f:Nat):(FK es F f).length=nR F f:=by
 induction f with
 | zero=>rfl
 | succ f ih=>unfold FK nR;rw[List.length_append,ih,FC]
theorem YQ{F:Fs}(hb:Bd F):∀f,f≤F.length→nR F f≤1000*f
 | 0,_=>Nat.zero_le _
 | f+1,h=>by
  have h1:=YQ hb f (by omega)
  have h2:=hb.l _ (bA (show f<F.length by omega) [])
  unfold nR;omega
theorem Ll{F:Fs}{es:List Ed}(hm:Mf es)(ha:2*uG es es.length=es.length){rs:List T}{x11 x12:Int}{x13 x14:T}{x15 x16:Int}{o f l n:Nat}{g:Nat→Hf}{R:Nat}(ho:o+n≤es.length)(hR:lenL rs=(R:Int)):
 aC e8 (r3 F es rs x11 x12 x13 x14 x15 x16 o f l n g R 0 (mn es o 0))=some (.inl (eS F,(),es.map uF,(),nZ es,(o:Int),(f:Int),(l:Int),(n:Int),((mn es o n:Nat):Int),x11,x12,x13,x14,x15,x16,hZ es.length (rH es (-1) o n R g n),rs,())):=by
 rw[aH (F:=e8) n (fun k=>r3 F es rs x11 x12 x13 x14 x15 x16 o f l n g R k (mn es o k)) fun k hk=>Xq hm ha hk ho hR]
 apply aF
 unfold e8 r3
 simp only[aA,decide_eq_false (Int.lt_irrefl _),cond_false]
def r2(F:Fs)(es:List Ed)(x11 x12:Int)(x13 x14:T)(x15 x16:Int)(f l:Nat):List T×Unit×List T×Unit×List T×Int×Int×Int×Int×Int×T×T×Int×Int×List T×List T×Unit:=
 (eS F,(),es.map uF,(),nZ es,((oF F f+oL (F.getD f []) l:Nat):Int),(f:Int),(l:Int),x11,x12,x13,x14,x15,x16,hZ es.length (g2 es (-1) (F.getD f []) (oF F f) (nR F f) (gF es (-1) F f) l),(FK es F f++OL es (F.getD f []) f (oF F f) l).map tR,())
theorem Xr{F:Fs}(hb:Bd F)(hm:Mf (aG F))(ha:2*uG (aG F) (aG F).length=(aG F).length){x11 x12:Int}{x13 x14:T}{x15 x16:Int}{f l:Nat}(hf:f<F.length)(hl:l<(F.getD f []).length)(hp:((F.getD f []).getD l []).length≠0):
 fA (r2 F (aG F) x11 x12 x13 x14 x15 x16 f l)=some (.inl (r2 F (aG F) x11 x12 x13 x14 x15 x16 f (l+1))):=by
 have hn:=hm.n
 have ho:=YP hf hl
 have hlb:=hb.l _ (bA hf [])
 have hnr:=YQ hb f (by omega)
 have hfl:=hb.n
 have hR:lenL ((FK (aG F) F f++OL (aG F) (F.getD f []) f (oF F f) l).map tR)=((nR F f+l:Nat):Int):=by rw[uD,List.length_append,BB,FC]
 have h3:=Ll (F:=F) (x11:=x11) (x12:=x12) (x13:=x13) (x14:=x14) (x15:=x15) (x16:=x16) (f:=f) (l:=l) (g:=g2 (aG F) (-1) (F.getD f []) (oF F f) (nR F f) (gF (aG F) (-1) F f) l) hm ha ho hR
 have hx:idxL (nZ (aG F)) ((oF F f+oL (F.getD f []) l:Nat):Int)=some (tI ((nm (aG F) (oF F f+oL (F.getD f []) l):Nat):Int)):=xG (by omega)
 have e0:∀(g:Nat→Hf) (R:Nat),(hZ (aG F).length (rH (aG F) (-1) (oF F f+oL (F.getD f []) l) ((F.getD f []).getD l []).length R g 0))=hZ (aG F).length g:=fun g R=>AG fun v _=>by unfold rH;rw[if_neg (by omega)]
 unfold r3 at h3
 rw[e0] at h3
 unfold fA r2
 simp only[mZ hf,aL,j0,sO,aA,decide_eq_true (show (l:Int)<((F.getD f []).length:Int) by omega),cond_true,HL,wY hl,rF,l8,hx,cD,aQ]
 have e3:mn (aG F) (oF F f+oL (F.getD f []) l) 0=nm (aG F) (oF F f+oL (F.getD f []) l):=rfl
 rw[e3] at h3
 rw[show ((0:Nat):Int)=0 from rfl] at h3
 rw[h3]
 have hat:wr .i64 (((oF F f+oL (F.getD f []) l:Nat):Int)+(((F.getD f []).getD l []).length:Int))=((oF F f+oL (F.getD f []) (l+1):Nat):Int):=by
  have e2:oL (F.getD f []) (l+1)=oL (F.getD f []) l+((F.getD f []).getD l []).length:=rfl
  rw[mY (by omega) (by omega),e2];omega
 have hrm:room ((FK (aG F) F f++OL (aG F) (F.getD f []) f (oF F f) l).map tR) [tR ⟨((mn (aG F) (oF F f+oL (F.getD f []) l) ((F.getD f []).getD l []).length:Nat):Int),-1,(f:Int)⟩] 24=some ((FK (aG F) F f++OL (aG F) (F.getD f []) f (oF F f) (l+1)).map tR):=by
  rw[mR (by rw[List.length_map,List.length_append,BB,FC];simp only[List.length_cons,List.length_nil];omega) (by omega)]
  rw[TO,←List.append_assoc,List.map_append (l₁:=FK (aG F) F f++OL (aG F) (F.getD f []) f (oF F f) l)];rfl
 simp only[aL,aI,aO,aE,wk (show l≤1000000 by omega),hat]
 have hrm2:=hrm
 unfold tR at hrm2
 rw[show (FK (aG F) F f++OL (aG F) (F.getD f []) f (oF F f) l).map (fun x=>T.agg [tI x.h,tI x.v,tI x.c])=(FK (aG F) F f++OL (aG F) (F.getD f []) f (oF F f) l).map tR from rfl] at hrm2
 rw[hrm2]
 rfl
theorem Lm{F:Fs}(hb:Bd F)(hm:Mf (aG F))(ha:2*uG (aG F) (aG F).length=(aG F).length)(hp:∀f l,f<F.length→l<(F.getD f []).length→((F.getD f []).getD l []).length≠0){x11 x12:Int}{x13 x14:T}{x15 x16:Int}{f:Nat}(hf:f<F.length):
 aC fA (r2 F (aG F) x11 x12 x13 x14 x15 x16 f 0)=some (.inl (eS F,(),(aG F).map uF,(),nZ (aG F),((oF F (f+1):Nat):Int),(f:Int),x11,x12,x13,x14,x15,x16,hZ (aG F).length (gF (aG F) (-1) F (f+1)),(FK (aG F) F (f+1)).map tR,())):=by
 rw[aH (F:=fA) (F.getD f []).length (fun l=>r2 F (aG F) x11 x12 x13 x14 x15 x16 f l) fun l hl=>Xr hb hm ha hf hl (hp f l hf hl)]
 apply aF
 unfold fA r2
 simp only[mZ hf,aL,j0,sO,aA,decide_eq_false (Int.lt_irrefl _),cond_false]
 rfl
def r1(F:Fs)(es:List Ed)(x11 x12:Int)(x13 x14:T)(x15 x16:Int)(f:Nat):List T×Unit×List T×Unit×List T×Int×Int×Int×Int×T×T×Int×Int×List T×List T×Unit:=
 (eS F,(),es.map uF,(),nZ es,((oF F f:Nat):Int),(f:Int),x11,x12,x13,x14,x15,x16,hZ es.length (gF es (-1) F f),(FK es F f).map tR,())
theorem Ln{F:Fs}(hb:Bd F)(hm:Mf (aG F))(ha:2*uG (aG F) (aG F).length=(aG F).length)(hp:∀f l,f<F.length→l<(F.getD f []).length→((F.getD f []).getD l []).length≠0){x11 x12:Int}{x13 x14:T}{x15 x16:Int}:
 aC gU (r1 F (aG F) x11 x12 x13 x14 x15 x16 0)=some (.inl ((),(aG F).map uF,(),nZ (aG F),x11,x12,x13,x14,x15,x16,hZ (aG F).length (gF (aG F) (-1) F F.length),(FK (aG F) F F.length).map tR,())):=by
 have hn:=hb.n
 rw[aH (F:=gU) F.length (fun f=>r1 F (aG F) x11 x12 x13 x14 x15 x16 f) fun f hf=>by
  have h2:=Lm hb hm ha hp (x11:=x11) (x12:=x12) (x13:=x13) (x14:=x14) (x15:=x15) (x16:=x16) hf
  unfold r2 at h2
  rw[show OL (aG F) (F.getD f []) f (oF F f) 0=[] from rfl,List.append_nil,show g2 (aG F) (-1) (F.getD f []) (oF F f) (nR F f) (gF (aG F) (-1) F f) 0=gF (aG F) (-1) F f from rfl,show oL (F.getD f []) 0=0 from rfl,Nat.add_zero,show ((0:Nat):Int)=0 from rfl] at h2
  unfold gU r1
  simp only[aA,dR,decide_eq_true (show (f:Int)<(F.length:Int) by omega),cond_true]
  rw[h2]
  simp only[aL,aI,aE,wk (show f≤1000000 by omega)]]
 apply aF
 unfold gU r1
 simp only[aA,dR,decide_eq_false (Int.lt_irrefl _),cond_false]
theorem Lo{F:Fs}(hb:Bd F){es:List T}{x5 x6:Int}{x7 x8:T}:
 aC gT (eS F,(),es,(0:Int),(0:Int),x5,x6,x7,x8,())=some (.inl (eS F,(),es,((nR F F.length:Nat):Int),x5,x6,x7,x8,())):=by
 have hn:=hb.n
 have hl:=aH (F:=gT) F.length (fun f=>(eS F,(),es,((nR F f:Nat):Int),(f:Int),x5,x6,x7,x8,())) fun f hf=>by
  have h1:=YQ hb f (by omega)
  have h2:=hb.l _ (bA hf [])
  have e:nR F (f+1)=nR F f+(F.getD f []).length:=rfl
  unfold gT
  simp only[aA,dR,decide_eq_true (show (f:Int)<(F.length:Int) by omega),cond_true,mZ hf,aL,j0,sO,aE,wk (show f≤1000000 by omega)]
  rw[mY (by omega) (by omega),e]
  push_cast
  rfl
 have e0:((0:Int))=((0:Nat):Int):=rfl
 refine(show _=_ from hl).trans ?_
 apply aF
 unfold gT
 simp only[aA,dR,decide_eq_false (Int.lt_irrefl _),cond_false]
def pK(es:List Ed)(k:Nat)(v:Nat):Int:=if iv es v<k then (gE es (iv es v)).a else 0
def Nw(es:List Ed)(v:Nat):Int:=(gE es (iv es v)).a
def r4(es:List Ed)(x6 x7:Int)(x8 x9:T)(x10 x11:Int)(hs rs:List T)(k:Nat):Unit×List T×Unit×List T×List T×Int×Int×Int×T×T×Int×Int×List T×List T×Unit:=
 ((),es.map uF,(),nZ es,fZ es.length (pK es k),(k:Int),x6,x7,x8,x9,x10,x11,hs,rs,())
theorem Lq{es:List Ed}(hm:Mf es)(ha:2*uG es es.length=es.length){x6 x7:Int}{x8 x9:T}{x10 x11:Int}{hs rs:List T}:
 aC gV (r4 es x6 x7 x8 x9 x10 x11 hs rs 0)=some (.inl ((),(),fZ es.length (Nw es),x6,x7,x8,x9,x10,x11,hs,rs,())):=by
 have hn:=hm.n
 rw[aH (F:=gV) es.length (fun k=>r4 es x6 x7 x8 x9 x10 x11 hs rs k) fun k hk=>by
  have hs:fZ es.length (fun w=>if w=nm es k then (gE es k).a else pK es k w)=fZ es.length (pK es (k+1)):=cM fun v hv=>by
   obtain⟨h1,h2⟩:=LO hm ha hv
   by_cases e:v=nm es k
   ·have hi:iv es v=k:=by rw[e];exact OJ hm hk
    rw[if_pos e]
    unfold pK
    rw[if_pos (by omega),hi]
   ·rw[if_neg e]
    have hi:iv es v≠k:=fun e2=>e (by rw[←h2,e2])
    unfold pK
    by_cases c:iv es v<k
    ·rw[if_pos c,if_pos (by omega)]
    ·rw[if_neg c,if_neg (by omega)]
  have hx:idxL (nZ es) (k:Int)=some (tI ((nm es k:Nat):Int)):=xG hk
  unfold gV r4
  simp only[aA,lE,decide_eq_true (show (k:Int)<(es.length:Int) by omega),cond_true,hx,LL hk,aL,cD,jZ,cN,kE (FA hm ha hk),(DA _).1,aQ,aU,eB (FA hm ha hk),aO,iR,kD,aE,wk (show k≤1000000 by omega),hs]]
 apply aF
 unfold gV r4
 simp only[aA,lE,decide_eq_false (Int.lt_irrefl _),cond_false]
 rw[cM (g:=pK es es.length) (g':=Nw es) fun v hv=>by unfold pK Nw;rw[if_pos (LO hm ha hv).1]]
theorem Xs{n k:Nat}(h:k<n):(k+1)%n=if k+1<n then k+1 else 0:=by
 split
 ·exact Nat.mod_eq_of_lt (by assumption)
 ·have:k+1=n:=by omega
  rw[this,Nat.mod_self]
theorem Vu{n j:Nat}(h:j<n):(j+n-1)%n=if j=0 then n-1 else j-1:=by
 split
 ·rename_i e;subst e
  rw[Nat.zero_add];exact Nat.mod_eq_of_lt (by omega)
 ·have:j+n-1=j-1+n:=by omega
  rw[this,Nat.add_mod_right];exact Nat.mod_eq_of_lt (by omega)
def pH(es:List Ed)(o n R:Nat)(g:Nat→Hf)(k:Nat)(v:Nat):Hf:=
 if o≤iv es v∧iv es v<o+n then
  ⟨0,if iv es v-o<k then ((nm es (o+(iv es v-o+1)%n):Nat):Int) else (g v).n,if (iv es v-o+n-1)%n<k then ((nm es (o+(iv es v-o+n-1)%n):Nat):Int) else (g v).p,if iv es v-o<k then (R:Int) else (g v).r⟩
 else g v
theorem Qu{es:List Ed}{o n R:Nat}{g:Nat→Hf}:pH es o n R g n=rH es 0 o n R g n:=by
 funext v
 unfold pH rH wH
 by_cases c:o≤iv es v∧iv es v<o+n
 ·rw[if_pos c,if_pos c,if_pos (by omega),if_pos (Nat.mod_lt _ (by omega)),if_pos (by omega)]
 ·rw[if_neg c,if_neg c]
theorem Lr{es:List Ed}{o n R:Nat}{g:Nat→Hf}(hg:∀v,(g v).f=0):pH es o n R g 0=g:=by
 funext v
 unfold pH
 by_cases c:o≤iv es v∧iv es v<o+n
 ·rw[if_pos c,if_neg (by omega),if_neg (by omega),if_neg (by omega),←hg v]
 ·rw[if_neg c]
theorem Um{es:List Ed}{o n R:Nat}{g:Nat→Hf}(hg:∀v,(g v).f=0)(k v:Nat):(pH es o n R g k v).f=0:=by
 unfold pH
 split
 ·rfl
 ·exact hg v
theorem Qv{es:List Ed}(hm:Mf es)(ha:2*uG es es.length=es.length){o n R k:Nat}{g:Nat→Hf}(hg:∀v,(g v).f=0)(hn2:2≤n)(hk:k<n)(ho:o+n≤es.length){A B C:Nat→Hf}
 (hA:A=fun w=>if w=nm es (o+k) then ⟨(pH es o n R g k (nm es (o+k))).f,((nm es (o+(k+1)%n):Nat):Int),(pH es o n R g k (nm es (o+k))).p,(pH es o n R g k (nm es (o+k))).r⟩ else pH es o n R g k w)
 (hB:B=fun w=>if w=nm es (o+(k+1)%n) then ⟨(A (nm es (o+(k+1)%n))).f,(A (nm es (o+(k+1)%n))).n,((nm es (o+k):Nat):Int),(A (nm es (o+(k+1)%n))).r⟩ else A w)
 (hC:C=fun w=>if w=nm es (o+k) then ⟨(B (nm es (o+k))).f,(B (nm es (o+k))).n,(B (nm es (o+k))).p,(R:Int)⟩ else B w):
 hZ es.length C=hZ es.length (pH es o n R g (k+1)):=by
 have hm1:(k+1)%n<n:=Nat.mod_lt _ (by omega)
 have e1:=Xs hk
 have hne:nm es (o+k)≠nm es (o+(k+1)%n):=fun e=>by
  have:=WA hm (by omega) (by omega) e
  split at e1 <;> omega
 have i1:iv es (nm es (o+k))=o+k:=OJ hm (by omega)
 have i2:iv es (nm es (o+(k+1)%n))=o+(k+1)%n:=OJ hm (by omega)
 refine AG fun v hv=>?_
 obtain⟨h1,h2⟩:=LO hm ha hv
 by_cases c1:v=nm es (o+k)
 ·have hi:iv es v-o=k:=by rw[c1,i1];omega
  have hc:o≤iv es v∧iv es v<o+n:=by rw[c1,i1];omega
  have hBv:B (nm es (o+k))=A (nm es (o+k)):=by rw[hB];exact if_neg hne
  have hAv:A (nm es (o+k))=⟨(pH es o n R g k (nm es (o+k))).f,((nm es (o+(k+1)%n):Nat):Int),(pH es o n R g k (nm es (o+k))).p,(pH es o n R g k (nm es (o+k))).r⟩:=by rw[hA];exact if_pos rfl
  have hCv:C v=⟨(B (nm es (o+k))).f,(B (nm es (o+k))).n,(B (nm es (o+k))).p,(R:Int)⟩:=by rw[hC];exact if_pos c1
  rw[hCv,hBv,hAv]
  simp only
  rw[Um hg,←c1]
  have e2:=Vu hk
  unfold pH
  rw[if_pos hc,if_pos hc,hi,if_pos (show k<k+1 by omega),if_pos (show k<k+1 by omega)]
  simp only
  congr 1
  by_cases c:(k+n-1)%n<k
  ·rw[if_pos c,if_pos (by omega)]
  ·rw[if_neg c,if_neg (by split at e2 <;> omega)]
 ·have hCv:C v=B v:=by rw[hC];exact if_neg c1
  rw[hCv]
  by_cases c2:v=nm es (o+(k+1)%n)
  ·have hi:iv es v-o=(k+1)%n:=by rw[c2,i2];omega
   have hc:o≤iv es v∧iv es v<o+n:=by rw[c2,i2];omega
   have hAv:A (nm es (o+(k+1)%n))=pH es o n R g k (nm es (o+(k+1)%n)):=by rw[hA];exact if_neg (fun e=>hne e.symm)
   have hBv:B v=⟨(A (nm es (o+(k+1)%n))).f,(A (nm es (o+(k+1)%n))).n,((nm es (o+k):Nat):Int),(A (nm es (o+(k+1)%n))).r⟩:=by rw[hB];exact if_pos c2
   rw[hBv,hAv,Um hg,←c2]
   have e2:=Vu hm1
   have e3:((k+1)%n+n-1)%n=k:=by
    rw[e2];split at e1 <;> split <;> omega
   have e4:(k+1)%n<k↔(k+1)%n<k+1:=by split at e1 <;> omega
   unfold pH
   rw[if_pos hc,if_pos hc,hi,e3,if_pos (show k<k+1 by omega)]
   simp only[e4]
  ·have hBv:B v=A v:=by rw[hB];exact if_neg c2
   have hAv:A v=pH es o n R g k v:=by rw[hA];exact if_neg c1
   rw[hBv,hAv]
   unfold pH
   by_cases hc:o≤iv es v∧iv es v<o+n
   ·rw[if_pos hc,if_pos hc]
    have hj:iv es v-o<n:=by omega
    have n1:iv es v-o≠k:=fun e=>c1 (by rw[←h2,←e];congr 1;omega)
    have n2:iv es v-o≠(k+1)%n:=fun e=>c2 (by rw[←h2,←e];congr 1;omega)
    have e2:=Vu hj
    have n3:(iv es v-o+n-1)%n≠k:=by
     rw[e2];split at e1 <;> split <;> omega
    have e4:iv es v-o<k↔iv es v-o<k+1:=by omega
    have e5:(iv es v-o+n-1)%n<k↔(iv es v-o+n-1)%n<k+1:=by omega
    simp only[e4,e5]
   ·rw[if_neg hc,if_neg hc]
theorem Qw{es:List Ed}(hm:Mf es)(ha:2*uG es es.length=es.length){k:Nat}(hk:k<es.length):fZ es.length (fun w=>if w=nm es k then (gE es k).a else pK es k w)=fZ es.length (pK es (k+1)):=cM fun v hv=>by
 obtain⟨h1,h2⟩:=LO hm ha hv
 by_cases e:v=nm es k
 ·have hi:iv es v=k:=by rw[e];exact OJ hm hk
  rw[if_pos e]
  unfold pK
  rw[if_pos (by omega),hi]
 ·rw[if_neg e]
  have hi:iv es v≠k:=fun e2=>e (by rw[←h2,e2])
  unfold pK
  by_cases c:iv es v<k
  ·rw[if_pos c,if_pos (by omega)]
  ·rw[if_neg c,if_neg (by omega)]
def Nx(es:List Ed)(o b:Nat):Nat→Nat
 | 0=>b
 | k+1=>min (Nx es o b k) (nm es (o+k))
theorem Ha{es:List Ed}{o b:Nat}(h:nm es o≤b):∀k,Nx es o b (k+1)=mn es o (k+1)
 | 0=>by unfold Nx mn Nx mn;rw[Nat.add_zero];omega
 | k+1=>by
  have:=Ha h k
  unfold Nx mn;rw[this]
def uH(g:Nat→Hf)(v:Nat)(x:Hf):Nat→Hf:=fun w=>if w=v then x else g w
theorem Ls{n:Nat}{g:Nat→Hf}{v:Nat}{x:Hf}:(hZ n g).set v (tH x)=hZ n (uH g v x):=Q2
theorem Lt{es:List Ed}(hm:Mf es)(ha:2*uG es es.length=es.length){o n R k:Nat}{g:Nat→Hf}(hg:∀v,(g v).f=0)(hn2:2≤n)(hk:k<n)(ho:o+n≤es.length)(A B C:Nat→Hf)
 (hA:uH (pH es o n R g k) (nm es (o+k)) ⟨(pH es o n R g k (nm es (o+k))).f,((nm es (o+(k+1)%n):Nat):Int),(pH es o n R g k (nm es (o+k))).p,(pH es o n R g k (nm es (o+k))).r⟩=A)
 (hB:uH A (nm es (o+(k+1)%n)) ⟨(A (nm es (o+(k+1)%n))).f,(A (nm es (o+(k+1)%n))).n,((nm es (o+k):Nat):Int),(A (nm es (o+(k+1)%n))).r⟩=B)
 (hC:uH B (nm es (o+k)) ⟨(B (nm es (o+k))).f,(B (nm es (o+k))).n,(B (nm es (o+k))).p,(R:Int)⟩=C):
 hZ es.length C=hZ es.length (pH es o n R g (k+1)):=Qv hm ha hg hn2 hk ho hA.symm hB.symm hC.symm
structure Jm (F:Fs) (L:Am):Prop where
 b:Bd F
 m:Mf (aG F)
 a:2*uG (aG F) (aG F).length=(aG F).length
 ks:∀j,j<(aG F).length→lk L (gE (aG F) j).k=some ((nm (aG F) j:Nat):Int)
 len:L.length=(aG F).length
 x:∀f l,f<F.length→l<(F.getD f []).length→3≤((F.getD f []).getD l []).length
def Qx(F:Fs)(L:Am)(x16 x17:Int)(x18 x19:T)(x20 x21:Int)(f l:Nat)(g:Nat→Hf)(rs:List T)(R k:Nat):Unit×Unit×Unit×List T×Int×T×Unit×List T×Int×Int×T×Int×Int×T×Int×Int×Int×Int×T×T×Int×Int×List T×List T×List T×Int×Int×Int×Unit:=
 ((),(),(),fZ (aG F).length (pK (aG F) (oF F f+oL (F.getD f []) l+k)),(f:Int),eL ((F.getD f []).getD l []),(),eS F,(F.length:Int),(f:Int),eF (F.getD f []),((F.getD f []).length:Int),(l:Int),eL ((F.getD f []).getD l []),(((F.getD f []).getD l []).length:Int),(k:Int),x16,x17,x18,x19,x20,x21,hZ (aG F).length (pH (aG F) (oF F f+oL (F.getD f []) l) ((F.getD f []).getD l []).length R g k),rs,eM L,((Nx (aG F) (oF F f+oL (F.getD f []) l) (aG F).length k:Nat):Int),(-1:Int),(f:Int),())
theorem Xt{F:Fs}{L:Am}(h:Jm F L){x16 x17:Int}{x18 x19:T}{x20 x21:Int}{f l:Nat}{g:Nat→Hf}{rs:List T}{R k:Nat}(hg:∀v,(g v).f=0)(hR:lenL rs=(R:Int))(hf:f<F.length)(hl:l<(F.getD f []).length)(hk:k<((F.getD f []).getD l []).length):
 dJ (Qx F L x16 x17 x18 x19 x20 x21 f l g rs R k)=some (.inl (Qx F L x16 x17 x18 x19 x20 x21 f l g rs R (k+1))):=by
 have hn:=h.m.n
 have ho:=YP hf hl
 have h3:=h.x f l hf hl
 have g0:=Nv hf hl hk
 have hm1:(k+1)%((F.getD f []).getD l []).length<((F.getD f []).getD l []).length:=Nat.mod_lt _ (by omega)
 have g1:=Nv hf hl hm1
 have k0:=h.ks (oF F f+oL (F.getD f []) l+k) (by omega)
 have k1:=h.ks (oF F f+oL (F.getD f []) l+(k+1)%((F.getD f []).getD l []).length) (by omega)
 have hps:=Qw h.m h.a (k:=oF F f+oL (F.getD f []) l+k) (by omega)
 rw[g0] at k0
 rw[g1] at k1
 rw[g0] at hps
 unfold uK Ed.k at k0 k1
 unfold uK at hps
 simp only at k0 k1 hps
 rw[Nat.mod_add_mod] at k1
 have hhs:=Lt h.m h.a (R:=R) (g:=g) hg (show 2≤((F.getD f []).getD l []).length by omega) hk ho _ _ _ rfl rfl rfl
 generalize hX:(F.getD f []).getD l []=X at *
 generalize hoo:oF F f+oL (F.getD f []) l=o at *
 have hm2:(k+2)%X.length<X.length:=Nat.mod_lt _ (by omega)
 have n1:=FA h.m h.a (i:=o+k) (by omega)
 have n2:=FA h.m h.a (i:=o+(k+1)%X.length) (by omega)
 have hnz:nz (X.length:Int)=some (X.length:Int):=EB (by omega)
 have w2:wr .i64 ((k:Int)+2)=((k+2:Nat):Int):=by rw[mY (by omega) (by omega)];push_cast;rfl
 unfold dJ Qx
 rw[hX,hoo]
 simp only[aA,decide_eq_true (show (k:Int)<(X.length:Int) by omega),cond_true,HK,kU hk,aL,l8,hnz,aE,wk (show k≤1000000 by omega),w2,YN,kU hm1,kU hm2,cD,aQ,aO,C9,xC,k0,k1,Option.getD_some,xD,jZ,rJ,kE n1,kE n2,aU,uI n1,uI n2,Lh,Li,Lj,Ls,hR,cN,eB n1,iR,kD,Ue,hps]
 rw[hhs]
 rfl
theorem Vv{es:List Ed}{o n R:Nat}{g:Nat→Hf}(hg:∀v,(g v).f=0)(k v:Nat):(rH es 0 o n R g k v).f=0:=by
 unfold rH
 split
 ·rfl
 ·exact hg v
theorem Qy{es:List Ed}{c:Fc}{o R:Nat}{g:Nat→Hf}(hg:∀v,(g v).f=0):∀l v,(g2 es 0 c o R g l v).f=0
 | 0,v=>hg v
 | l+1,v=>Vv (Qy hg l) _ v
theorem Qz{es:List Ed}{F:Fs}:∀f v,(gF es 0 F f v).f=0
 | 0,_=>rfl
 | f+1,v=>Qy (Qz f) _ v
theorem Lu{F:Fs}{L:Am}(h:Jm F L){x16 x17:Int}{x18 x19:T}{x20 x21:Int}{f l:Nat}{g:Nat→Hf}{rs:List T}{R:Nat}(hg:∀v,(g v).f=0)(hR:lenL rs=(R:Int))(hf:f<F.length)(hl:l<(F.getD f []).length):
 aC dJ (Qx F L x16 x17 x18 x19 x20 x21 f l g rs R 0)=some (.inl ((),(),(),fZ (aG F).length (pK (aG F) (oF F f+oL (F.getD f []) (l+1))),(f:Int),(),eS F,(F.length:Int),(f:Int),eF (F.getD f []),((F.getD f []).length:Int),(l:Int),x16,x17,x18,x19,x20,x21,hZ (aG F).length (rH (aG F) 0 (oF F f+oL (F.getD f []) l) ((F.getD f []).getD l []).length R g ((F.getD f []).getD l []).length),rs,eM L,((mn (aG F) (oF F f+oL (F.getD f []) l) ((F.getD f []).getD l []).length:Nat):Int),(-1:Int),(f:Int),())):=by
 have h3:=h.x f l hf hl
 have ho:=YP hf hl
 rw[aH (F:=dJ) ((F.getD f []).getD l []).length (fun k=>Qx F L x16 x17 x18 x19 x20 x21 f l g rs R k) fun k hk=>Xt h hg hR hf hl hk]
 have hmn:Nx (aG F) (oF F f+oL (F.getD f []) l) (aG F).length ((F.getD f []).getD l []).length=mn (aG F) (oF F f+oL (F.getD f []) l) ((F.getD f []).getD l []).length:=by
  have:=Ha (Nat.le_of_lt (FA h.m h.a (i:=oF F f+oL (F.getD f []) l) (by omega))) (((F.getD f []).getD l []).length-1)
  rw[show ((F.getD f []).getD l []).length-1+1=((F.getD f []).getD l []).length by omega] at this
  exact this
 apply aF
 have hol:oF F f+oL (F.getD f []) (l+1)=oF F f+oL (F.getD f []) l+((F.getD f []).getD l []).length:=(Nat.add_assoc _ _ _).symm
 unfold dJ Qx
 simp only[aA,decide_eq_false (Int.lt_irrefl _),cond_false,hmn,Qu,hol]
def Ra(F:Fs)(L:Am)(x16 x17:Int)(x18 x19:T)(x20 x21:Int)(f l:Nat):Unit×Unit×Unit×List T×Int×List T×Int×Int×T×Int×Int×Int×Int×T×T×Int×Int×List T×List T×List T×Unit:=
 ((),(),(),fZ (aG F).length (pK (aG F) (oF F f+oL (F.getD f []) l)),(f:Int),eS F,(F.length:Int),(f:Int),eF (F.getD f []),((F.getD f []).length:Int),(l:Int),x16,x17,x18,x19,x20,x21,hZ (aG F).length (g2 (aG F) 0 (F.getD f []) (oF F f) (nR F f) (gF (aG F) 0 F f) l),(FK (aG F) F f++OL (aG F) (F.getD f []) f (oF F f) l).map tR,eM L,())
theorem Lv{F:Fs}(hb:Bd F){f l:Nat}(hf:f<F.length)(hl:l<(F.getD f []).length):
 room ((FK (aG F) F f++OL (aG F) (F.getD f []) f (oF F f) l).map tR) [T.agg [tI ((mn (aG F) (oF F f+oL (F.getD f []) l) ((F.getD f []).getD l []).length:Nat):Int),tI (-1),tI (f:Int)]] 24=some ((FK (aG F) F f++OL (aG F) (F.getD f []) f (oF F f) (l+1)).map tR):=by
 have hlb:=hb.l _ (bA hf [])
 have hnr:=YQ hb f (by omega)
 have hfl:=hb.n
 rw[mR (by rw[List.length_map,List.length_append,BB,FC];simp only[List.length_cons,List.length_nil];omega) (by omega)]
 rw[TO,←List.append_assoc,List.map_append (l₁:=FK (aG F) F f++OL (aG F) (F.getD f []) f (oF F f) l)];rfl
theorem Xu{F:Fs}{L:Am}(h:Jm F L){x16 x17:Int}{x18 x19:T}{x20 x21:Int}{f l:Nat}(hf:f<F.length)(hl:l<(F.getD f []).length):
 cQ (Ra F L x16 x17 x18 x19 x20 x21 f l)=some (.inl (Ra F L x16 x17 x18 x19 x20 x21 f (l+1))):=by
 have hlb:=h.b.l _ (bA hf [])
 have hR:lenL ((FK (aG F) F f++OL (aG F) (F.getD f []) f (oF F f) l).map tR)=((nR F f+l:Nat):Int):=by rw[uD,List.length_append,BB,FC]
 have hM:lenL (eM L)=((aG F).length:Int):=by rw[cH];simp[eM,h.len]
 have hg:∀v,(g2 (aG F) 0 (F.getD f []) (oF F f) (nR F f) (gF (aG F) 0 F f) l v).f=0:=Qy (Qz f) l
 have h2:=Lu h (x16:=x16) (x17:=x17) (x18:=x18) (x19:=x19) (x20:=x20) (x21:=x21) hg hR hf hl
 unfold Qx at h2
 rw[Lr hg,show Nx (aG F) (oF F f+oL (F.getD f []) l) (aG F).length 0=(aG F).length from rfl,Nat.add_zero,show ((0:Nat):Int)=0 from rfl] at h2
 have hrm:=Lv h.b hf hl
 unfold cQ Ra
 simp only[aA,decide_eq_true (show (l:Int)<((F.getD f []).length:Int) by omega),cond_true,HL,wY hl,aL,rF,l8,hM]
 rw[h2]
 simp only[aL,aI,aO,aE,wk (show l≤1000000 by omega),hrm]
 rfl
theorem Lw{F:Fs}{L:Am}(h:Jm F L){x16 x17:Int}{x18 x19:T}{x20 x21:Int}{f:Nat}(hf:f<F.length):
 aC cQ (Ra F L x16 x17 x18 x19 x20 x21 f 0)=some (.inl ((),(),(),fZ (aG F).length (pK (aG F) (oF F (f+1))),eS F,(F.length:Int),(f:Int),x16,x17,x18,x19,x20,x21,hZ (aG F).length (gF (aG F) 0 F (f+1)),(FK (aG F) F (f+1)).map tR,eM L,())):=by
 rw[aH (F:=cQ) (F.getD f []).length (fun l=>Ra F L x16 x17 x18 x19 x20 x21 f l) fun l hl=>Xu h hf hl]
 apply aF
 unfold cQ Ra
 simp only[aA,decide_eq_false (Int.lt_irrefl _),cond_false]
 rfl
def Un(F:Fs)(L:Am)(x16 x17:Int)(x18 x19:T)(x20 x21:Int)(f:Nat):Unit×Unit×Unit×List T×List T×Int×Int×Int×Int×T×T×Int×Int×List T×List T×List T×Unit:=
 ((),(),(),fZ (aG F).length (pK (aG F) (oF F f)),eS F,(F.length:Int),(f:Int),x16,x17,x18,x19,x20,x21,hZ (aG F).length (gF (aG F) 0 F f),(FK (aG F) F f).map tR,eM L,())
theorem Lx{F:Fs}{L:Am}(h:Jm F L){x16 x17:Int}{x18 x19:T}{x20 x21:Int}:
 aC dK (Un F L x16 x17 x18 x19 x20 x21 0)=some (.inl ((),(),fZ (aG F).length (Nw (aG F)),x16,x17,x18,x19,x20,x21,hZ (aG F).length (gF (aG F) 0 F F.length),(FK (aG F) F F.length).map tR,())):=by
 have hn:=h.b.n
 rw[aH (F:=dK) F.length (fun f=>Un F L x16 x17 x18 x19 x20 x21 f) fun f hf=>by
  have h2:=Lw h (x16:=x16) (x17:=x17) (x18:=x18) (x19:=x19) (x20:=x20) (x21:=x21) hf
  unfold Ra at h2
  rw[show OL (aG F) (F.getD f []) f (oF F f) 0=[] from rfl,List.append_nil,show g2 (aG F) 0 (F.getD f []) (oF F f) (nR F f) (gF (aG F) 0 F f) 0=gF (aG F) 0 F f from rfl,show oL (F.getD f []) 0=0 from rfl,Nat.add_zero,show ((0:Nat):Int)=0 from rfl] at h2
  unfold dK Un
  simp only[aA,decide_eq_true (show (f:Int)<(F.length:Int) by omega),cond_true,mZ hf,aL,j0,sO]
  rw[h2]
  simp only[aL,aI,aE,wk (show f≤1000000 by omega)]]
 apply aF
 unfold dK Un
 simp only[aA,decide_eq_false (Int.lt_irrefl _),cond_false]
 rw[cM (g:=pK (aG F) (oF F F.length)) (g':=Nw (aG F)) fun v hv=>by unfold pK Nw;rw[←IP,if_pos (LO h.m h.a hv).1]]
def Uo(F:Fs):List T:=hZ (aG F).length (gF (aG F) 0 F F.length)
def Vw(F:Fs):List T:=hZ (aG F).length (gF (aG F) (-1) F F.length)
def Rb(F:Fs):List T:=(FK (aG F) F F.length).map tR
theorem Hb{F:Fs}(hb:Bd F)(hm:Mf (aG F))(hx:∀f l,f<F.length→l<(F.getD f []).length→3≤((F.getD f []).getD l []).length):
 fN (eS F,())=some (0,(F.length:Int),Uo F,Rb F,fZ (aG F).length (Nw (aG F)),()):=by
 obtain⟨L,h1,h2⟩:=HP hb hm
 have ha:=YK hm h2
 have hj:Jm F L:=⟨hb,hm,ha,h2.ks,h2.len.trans ha,hx⟩
 have hn:=hm.n
 have hM:lenL (eM L)=((aG F).length:Int):=by rw[cH];simp[eM,hj.len]
 have hmk:mkLen ((aG F).length:Int) ((aG F).length:Int) 8=some ((aG F).length,(aG F).length):=gN (by omega) (by omega) (by omega) (by omega)
 have hmk2:mkLen ((aG F).length:Int) ((aG F).length:Int) 32=some ((aG F).length,(aG F).length):=gN (by omega) (by omega) (by omega) (by omega)
 have h0:=Lx hj (x16:=0) (x17:=0) (x18:=T.v (Value.slice none 0 0)) (x19:=T.v (Value.slice none 0 0)) (x20:=0) (x21:=(F.length:Int))
 have ep:fZ (aG F).length (fun _=>0)=fZ (aG F).length (pK (aG F) (oF F 0)):=cM fun v _=>by unfold pK;rw[if_neg (by show ¬_<0;omega)]
 unfold fN
 simp only[h1,aL,hM,hmk,hmk2,dR,lR,aO,xH,Gy,Gx]
 rw[ep]
 unfold Un at h0
 rw[show (gF (aG F) 0 F 0)=fun _=>(⟨0,0,0,0⟩:Hf) from rfl,show FK (aG F) F 0=[] from rfl,show ((0:Nat):Int)=0 from rfl] at h0
 rw[show ([]:List Rg).map tR=[] from rfl] at h0
 rw[h0]
 rfl
def bZ(n:Nat)(g:Nat→Bool):List T:=(List.range n).map fun v=>tB (g v)
theorem LQ(n:Nat)(g:Nat→Bool):(bZ n g).length=n:=by simp[bZ]
theorem IQ(n:Nat)(g:Nat→Bool):lenL (bZ n g)=(n:Int):=by rw[cH,LQ]
theorem GX{n:Nat}{g:Nat→Bool}{v:Nat}(h:v<n):(bZ n g)[v]?=some (tB (g v)):=by simp[bZ,h]
theorem Rc{n:Nat}{g g':Nat→Bool}(h:∀v,v<n→g v=g' v):bZ n g=bZ n g':=by
 unfold bZ
 exact List.map_congr_left fun v hv=>by rw[h v (List.mem_range.1 hv)]
theorem Re{n:Nat}{g:Nat→Bool}{v:Nat}{x:Bool}:(bZ n g).set v (tB x)=bZ n (fun w=>if w=v then x else g w):=by
 refine List.ext_getElem? fun i=>?_
 rw[List.getElem?_set]
 by_cases hi:i<n
 ·rw[GX (g:=fun w=>if w=v then x else g w) hi]
  by_cases e:v=i
  ·subst e
   rw[if_pos rfl,if_pos (by rw[LQ];exact hi)]
   exact congrArg (fun z=>some (tB z)) (if_pos rfl).symm
  ·rw[if_neg e,GX hi]
   exact congrArg (fun z=>some (tB z)) (if_neg (fun h:i=v=>e h.symm)).symm
 ·have h1:(bZ n g)[i]?=none:=List.getElem?_eq_none (by rw[LQ];omega)
  have h2:(bZ n (fun w=>if w=v then x else g w))[i]?=none:=List.getElem?_eq_none (by rw[LQ];omega)
  rw[h1,h2]
  split
  ·split
   ·rename_i h3 h4;rw[LQ] at h4;omega
   ·rfl
  ·rfl
theorem Rf(n:Nat)(c:Bool):List.replicate n (tB c)=bZ n (fun _=>c):=by
 unfold bZ
 rw[List.map_const',List.length_range]
theorem YR{P Q:Nat→Bool}{h:Nat}(hp:P h=true)(hq:Q h=false)(he:∀v,v≠h→Q v=P v):∀n,h<n→cnt Q n+1=cnt P n
 | 0,hn=>absurd hn (by omega)
 | n+1,hn=>by
  simp only[cnt]
  by_cases e:h=n
  ·subst e
   rw[hp,hq,Ap (P:=Q) (Q:=P) fun k hk=>he k (by omega)];simp
  ·have:=YR hp hq he n (by omega)
   rw[he n (fun e2=>e e2.symm)];omega
structure Vr where
 N:Nat
 nx:Nat→Int
 pv:Nat→Nat
 rg:Nat→Int
 hN:N≤1000
 ev:N%2=0
 hp:∀v,v<N→pv v<N
def MW(A:Vr)(fr:Nat→Int)(v:Nat):Hf:=⟨fr v,A.nx v,(A.pv v:Int),A.rg v⟩
def YS(A:Vr)(fr:Nat→Int)(v:Nat):Hf:=⟨if 0≤fr v then fr v else 0,A.nx v,(A.pv v:Int),A.rg v⟩
def dn(fr:Nat→Int)(v:Nat):Bool:=decide (0≤fr v)
def up(fr:Nat→Int)(h:Nat)(V:Int):Nat→Int:=fun v=>if v=h then V else fr v
theorem BC(fr:Nat→Int)(h:Nat)(V:Int):up fr h V h=V:=if_pos rfl
theorem TP{fr:Nat→Int}{h v:Nat}{V:Int}(hv:v≠h):up fr h V v=fr v:=if_neg hv
theorem Ly(A:Vr)(fr:Nat→Int)(h:Nat)(V:Int):(hZ A.N (MW A fr)).set h (T.upd 4 (tH (MW A fr h)) 0 [tI V])=hZ A.N (MW A (up fr h V)):=by
 rw[YM,Q2]
 refine AG fun v _=>?_
 by_cases e:v=h
 ·subst e;rw[if_pos rfl];unfold MW;rw[BC]
 ·rw[if_neg e];unfold MW;rw[TP e]
theorem Lz(A:Vr)(fr:Nat→Int)(h:Nat){V:Int}(hV:0≤V):(hZ A.N (YS A fr)).set h (T.upd 4 (tH (YS A fr h)) 0 [tI V])=hZ A.N (YS A (up fr h V)):=by
 rw[YM,Q2]
 refine AG fun v _=>?_
 by_cases e:v=h
 ·subst e;rw[if_pos rfl];unfold YS;rw[BC,if_pos hV]
 ·rw[if_neg e];unfold YS;rw[TP e]
theorem Rh(A:Vr)(fr:Nat→Int)(h:Nat){V:Int}(hV:0≤V):(bZ A.N (dn fr)).set h (tB true)=bZ A.N (dn (up fr h V)):=by
 rw[Re]
 refine Rc fun v _=>?_
 by_cases e:v=h
 ·subst e;rw[if_pos rfl];unfold dn;rw[BC,decide_eq_true hV]
 ·rw[if_neg e];unfold dn;rw[TP e]
def r6(A:Vr)(pt vs:List T)(i0 x6 x7:Int)(x8 x9:T)(V Fc:Int)(rs:List T)(fr:Nat→Int)(h:Nat):Unit×Unit×List T×List T×Int×Int×Int×Int×T×T×Int×Int×List T×List T×Unit:=
 ((),(),pt,vs,i0,(h:Int),x6,x7,x8,x9,V,Fc,hZ A.N (MW A fr),rs,())
theorem Uq(A:Vr){pt vs:List T}{i0 x6 x7:Int}{x8 x9:T}{V Fc:Int}{rs:List T}{fr:Nat→Int}{h:Nat}(hh:h<A.N)(hf:fr h<0):
 fC (r6 A pt vs i0 x6 x7 x8 x9 V Fc rs fr h)=some (.inl (r6 A pt vs i0 x6 x7 x8 x9 V Fc rs (up fr h V) (mt (A.pv h)))):=by
 have hN:=A.hN
 have hp:=A.hp h hh
 have hup:(MW A (up fr h V) h).p=(A.pv h:Int):=rfl
 unfold fC r6
 simp only[rJ,kE hh,aL,aU,uI hh,KY,aQ,aA,show (MW A fr h).f=fr h from rfl,decide_eq_true hf,cond_true,aO,Ly,H8,hup,GK (show A.pv h≤1000000 by omega)]
theorem Ri(A:Vr){pt vs:List T}{i0 x6 x7:Int}{x8 x9:T}{V Fc:Int}{rs:List T}{fr:Nat→Int}{h:Nat}(hh:h<A.N)(hf:0≤fr h):
 fC (r6 A pt vs i0 x6 x7 x8 x9 V Fc rs fr h)=some (.inr (.inl ((),(),pt,vs,i0,x6,x7,x8,x9,V,Fc,hZ A.N (MW A fr),rs,()))) :=by
 unfold fC r6
 simp only[rJ,kE hh,aL,aU,uI hh,KY,aQ,aA,show (MW A fr h).f=fr h from rfl,decide_eq_false (show ¬fr h<0 by omega),cond_false]
def w1(A:Vr)(pt vs:List T)(i0 x7 x8 x9 x10:Int)(x11 x12:T)(V Fc:Int)(rs:List T)(fr:Nat→Int)(h:Nat):Unit×Unit×List T×List T×List T×Int×Int×Int×Int×Int×Int×T×T×Int×Int×List T×List T×Unit:=
 ((),(),pt,vs,bZ A.N (dn fr),i0,(h:Int),x7,x8,x9,x10,x11,x12,V,Fc,hZ A.N (YS A fr),rs,())
theorem Ur(A:Vr){pt vs:List T}{i0 x7 x8 x9 x10:Int}{x11 x12:T}{V Fc:Int}{rs:List T}{fr:Nat→Int}{h:Nat}(hV:0≤V)(hh:h<A.N)(hf:fr h<0):
 dL (w1 A pt vs i0 x7 x8 x9 x10 x11 x12 V Fc rs fr h)=some (.inl (w1 A pt vs i0 x7 x8 x9 x10 x11 x12 V Fc rs (up fr h V) (mt (A.pv h)))):=by
 have hN:=A.hN
 have hp:=A.hp h hh
 have hup:(YS A (up fr h V) h).p=(A.pv h:Int):=rfl
 have hd:dn fr h=false:=decide_eq_false (by omega)
 unfold dL w1
 simp only[IQ,kE hh,aL,aU,GX hh,EU,ET,hd,Bool.not_false,cond_true,rJ,uI hh,aO,zZ,VL,Lz A fr h hV,Rh A fr h hV,H8,hup,aQ,VN (show A.pv h≤1000000 by omega)]
theorem Rj(A:Vr){pt vs:List T}{i0 x7 x8 x9 x10:Int}{x11 x12:T}{V Fc:Int}{rs:List T}{fr:Nat→Int}{h:Nat}(hh:h<A.N)(hf:0≤fr h):
 dL (w1 A pt vs i0 x7 x8 x9 x10 x11 x12 V Fc rs fr h)=some (.inr (.inl ((),(),pt,vs,bZ A.N (dn fr),i0,x7,x8,x9,x10,x11,x12,V,Fc,hZ A.N (YS A fr),rs,()))):=by
 have hd:dn fr h=true:=decide_eq_true hf
 unfold dL w1
 simp only[IQ,kE hh,aL,aU,GX hh,EU,ET,hd,Bool.not_true,cond_false]
theorem Ma(A:Vr){pt vs:List T}{i0 x6 x7:Int}{x8 x9:T}{V Fc:Int}{rs:List T}{y7 y8 y9 y10:Int}{y11 y12:T}(hV:0≤V):∀(m:Nat) (fr:Nat→Int) (h:Nat),h<A.N→cnt (fun v=>!dn fr v) A.N≤m→∃fr',
 aC fC (r6 A pt vs i0 x6 x7 x8 x9 V Fc rs fr h)=some (.inl ((),(),pt,vs,i0,x6,x7,x8,x9,V,Fc,hZ A.N (MW A fr'),rs,()) ) ∧
 aC dL (w1 A pt vs i0 y7 y8 y9 y10 y11 y12 V Fc rs fr h)=some (.inl ((),(),pt,vs,bZ A.N (dn fr'),i0,y7,y8,y9,y10,y11,y12,V,Fc,hZ A.N (YS A fr'),rs,())) ∧
 0≤fr' h∧∀v,0≤fr v→0≤fr' v
 | m,fr,h,hh,hm=>by
  by_cases hf:0≤fr h
  ·exact⟨fr,aF (Ri A hh hf),aF (Rj A hh hf),hf,fun _ h=>h⟩
  ·have hn:fr h<0:=by omega
   have hc:=YR (P:=fun v=>!dn fr v) (Q:=fun v=>!dn (up fr h V) v) (h:=h) (by unfold dn;rw[decide_eq_false hf];rfl) (by unfold dn;rw[BC,decide_eq_true hV];rfl) (fun v hv=>by unfold dn;rw[TP hv]) A.N hh
   match m,hm with
   | 0,hm=>omega
   | m+1,hm=>
    obtain⟨fr',h1,h2,h3,h4⟩:=Ma A (pt:=pt) (vs:=vs) (i0:=i0) (x6:=x6) (x7:=x7) (x8:=x8) (x9:=x9) (V:=V) (Fc:=Fc) (rs:=rs) (y7:=y7) (y8:=y8) (y9:=y9) (y10:=y10) (y11:=y11) (y12:=y12) hV m (up fr h V) (mt (A.pv h)) (EV A.ev (A.hp h hh)) (by omega)
    have hup:∀v,0≤fr v→0≤up fr h V v:=fun v hv=>by
     by_cases e:v=h
     ·rw[e,BC];exact hV
     ·rw[TP e];exact hv
    exact⟨fr',(iZ (Uq A hh hn)).trans h1,(iZ (Ur A hV hh hn)).trans h2,h4 h (by rw[BC];exact hV),fun v hv=>h4 v (hup v hv)⟩
def r5(A:Vr)(pt:Nat→Int)(vs:List Int)(i:Nat)(x5 x6:Int)(x7 x8:T)(V Fc:Int)(rs:List T)(fr:Nat→Int):Unit×Unit×List T×List T×Int×Int×Int×T×T×Int×Int×List T×List T×Unit:=
 ((),(),fZ A.N pt,vs.map tI,(i:Int),x5,x6,x7,x8,V,Fc,hZ A.N (MW A fr),rs,())
def w0(A:Vr)(pt:Nat→Int)(vs:List Int)(i:Nat)(x7 x8:Int)(x9 x10:T)(V Fc:Int)(rs:List T)(fr:Nat→Int):Unit×Unit×List T×List T×List T×Int×Int×Int×Int×T×T×Int×Int×List T×List T×Unit:=
 ((),(),fZ A.N pt,vs.map tI,bZ A.N (dn fr),(A.N:Int),(i:Int),x7,x8,x9,x10,V,Fc,hZ A.N (YS A fr),rs,())
def Wc(A:Vr)(vs:List Int)(x5 x6:Int)(x7 x8:T)(V Fc:Int)(rs:List T)(fr:Nat→Int):Unit×Unit×List T×Int×Int×T×T×Int×Int×List T×List T×Unit:=
 ((),(),vs.map tI,x5,x6,x7,x8,V,Fc,hZ A.N (MW A fr),rs,())
def Wd(A:Vr)(vs:List Int)(x5 x6:Int)(x7 x8:T)(V Fc:Int)(rs:List T)(fr:Nat→Int):Unit×Unit×List T×Int×Int×T×T×Int×Int×List T×List T×Unit:=
 ((),(),vs.map tI,x5,x6,x7,x8,V,Fc,hZ A.N (YS A fr),rs,())
theorem Ny(vs:List Int)(x:Int)(h:vs.length≤1000):room (vs.map tI) [tI x] 8=some ((vs++[x]).map tI):=by
 rw[mR (by rw[List.length_map];simp only[List.length_cons,List.length_nil];omega) (by omega),List.map_append];rfl
theorem Hc(A:Vr){pt:Nat→Int}{x5 x6:Int}{x7 x8:T}{Fc:Int}{rs:List T}{y5 y6:Int}{y7 y8:T}:∀(m i:Nat) (fr:Nat→Int) (V:Int) (vs:List Int),i+m=A.N→0≤V→V≤i→vs.length≤i→(∀v,v<i→0≤fr v)→∃fr' V' vs',
 aC gW (r5 A pt vs i x5 x6 x7 x8 V Fc rs fr)=some (.inl (Wc A vs' x5 x6 x7 x8 V' Fc rs fr')) ∧
 aC dM (w0 A pt vs i y5 y6 y7 y8 V Fc rs fr)=some (.inl (Wd A vs' y5 y6 y7 y8 V' Fc rs fr')) ∧
 (∀v,v<A.N→0≤fr' v)∧vs'.length≤A.N
 | 0,i,fr,V,vs,hi,hV,hVi,hvs,hfr=>by
  have e:i=A.N:=by omega
  subst e
  refine⟨fr,V,vs,aF ?_,aF ?_,hfr,hvs⟩
  ·unfold gW r5
   simp only[aA,rJ,decide_eq_false (Int.lt_irrefl _),cond_false]
   rfl
  ·unfold dM w0
   simp only[aA,decide_eq_false (Int.lt_irrefl _),cond_false]
   rfl
 | m+1,i,fr,V,vs,hi,hV,hVi,hvs,hfr=>by
  have hN:=A.hN
  have hiN:i<A.N:=by omega
  by_cases hf:0≤fr i
  ·obtain⟨fr',V',vs',h1,h2,h3⟩:=Hc A (pt:=pt) (x5:=x5) (x6:=x6) (x7:=x7) (x8:=x8) (Fc:=Fc) (rs:=rs) (y5:=y5) (y6:=y6) (y7:=y7) (y8:=y8) m (i+1) fr V vs (by omega) hV (by omega) (by omega) (fun v hv=>by
    rcases Nat.lt_or_ge v i with hl | hl
    ·exact hfr v hl
    ·have:v=i:=by omega
     rw[this];exact hf)
   refine⟨fr',V',vs',(iZ ?_).trans h1,(iZ ?_).trans h2,h3⟩
   ·unfold gW r5
    simp only[aA,sA,rJ,decide_eq_true (show (i:Int)<(A.N:Int) by omega),cond_true,kE hiN,aL,aU,uI hiN,KY,aQ,show (MW A fr i).f=fr i from rfl,decide_eq_true hf,aI,aE,wk (show i≤1000000 by omega)]
   ·have hd:dn fr i=true:=decide_eq_true hf
    unfold dM w0
    simp only[aA,decide_eq_true (show (i:Int)<(A.N:Int) by omega),cond_true,IQ,kE hiN,aL,aU,GX hiN,EU,ET,hd,aI,aE,wk (show i≤1000000 by omega)]
  ·obtain⟨fr1,k1,k2,k3,k4⟩:=Ma A (pt:=fZ A.N pt) (vs:=vs.map tI) (i0:=(i:Int)) (x6:=x5) (x7:=x6) (x8:=x7) (x9:=x8) (V:=V) (Fc:=Fc) (rs:=rs) (y7:=(A.N:Int)) (y8:=(i:Int)) (y9:=y5) (y10:=y6) (y11:=y7) (y12:=y8) hV A.N fr i hiN (sN _ _)
   obtain⟨fr',V',vs',h1,h2,h3⟩:=Hc A (pt:=pt) (x5:=x5) (x6:=x6) (x7:=x7) (x8:=x8) (Fc:=Fc) (rs:=rs) (y5:=y5) (y6:=y6) (y7:=y7) (y8:=y8) m (i+1) fr1 (V+1) (vs++[pt i]) (by omega) (by omega) (by omega) (by rw[List.length_append];simp only[List.length_cons,List.length_nil];omega) (fun v hv=>by
    rcases Nat.lt_or_ge v i with hl | hl
    ·exact k4 v (hfr v hl)
    ·have:v=i:=by omega
     rw[this];exact k3)
   have hw:wr .i64 (V+1)=V+1:=mY (by omega) (by omega)
   have hrm:=Ny vs (pt i) (by omega)
   refine⟨fr',V',vs',(iZ ?_).trans h1,(iZ ?_).trans h2,h3⟩
   ·unfold r6 at k1
    unfold gW r5
    simp only[aA,sA,rJ,decide_eq_true (show (i:Int)<(A.N:Int) by omega),cond_true,kE hiN,aL,aU,uI hiN,KY,aQ,show (MW A fr i).f=fr i from rfl,decide_eq_false hf,cond_false,k1,aI,cN,eB hiN,cD,aO,hrm,hw,aE,wk (show i≤1000000 by omega)]
   ·have hd:dn fr i=false:=decide_eq_false hf
    unfold w1 at k2
    unfold dM w0
    simp only[aA,decide_eq_true (show (i:Int)<(A.N:Int) by omega),cond_true,IQ,kE hiN,aL,aU,GX hiN,EU,ET,hd,cond_false,k2,aI,xG hiN,cD,aQ,aO,hrm,hw,aE,wk (show i≤1000000 by omega)]
end Go.Eng.Tl
