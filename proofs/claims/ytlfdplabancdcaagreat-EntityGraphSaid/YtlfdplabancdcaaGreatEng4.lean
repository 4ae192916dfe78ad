/- An engine that turns the code of a function into a plain function on tuples, part 4: what it says of a function holds of every run; it has no conditions of its own. -/
import Derived.RangeFuncNested
import Derived.RangeFuncLeaves
import Derived.TacticsIn
import Derived.OrdersIn
import Derived.MapKept
import Derived.Laws.Externs
import Derived.Test.YtlfdplabancdcaaGreatEng3
set_option linter.unusedSimpArgs false
set_option linter.unusedVariables false
namespace Go.Eng
open Go.RowKit
section
variable {P:Program} {n:Nat} {env:List (Nat×Value)} {Df:List Deferred} {a:Act} {w w':World} {Q:Exit→Act→World→Prop} {o:Oper} {next:Act→World→Prop}
theorem rn_not{x:Operand}{t:TypeId}{b:Bool}(hf:Fr n env a Df)(hop:o.op=.unOp .not t x)(hx:evE env x=some (.bool b)):(execOp a.eval o).run P w=.ok (.value (.bool !b)) w:=by
 unfold execOp;rw[hop];simp only[hf.ev hx];rfl
theorem rn_build{t:TypeId}{parts:Array (Nat×Operand)}{q:List (Nat×Value)}{ds:List (Nat×D)}{cs:List Value}(hf:Fr n env a Df)(hop:o.op=.build t parts)(hp:partsE env parts.toList=some q)
 (hd:ds.length=q.length∧∀(i:Nat) p r,ds[i]?=some p→q[i]?=some r→p.1=r.1∧RdD w (fun _=>False) (fun _=>none) p.2 r.2) (hk:buildK P t ds some=some (.s (.agg (cs.map fun v=>.t (.v v))))):(execOp a.eval o).run P w=.ok (.value (.agg cs.toArray)) w:=by
 have hpp:(parts.map fun(i,x)=>(i,a.eval x))=q.toArray:=by
  have:=partsE_ok hf hp
  rw[←this]
  apply Array.ext'
  simp
 obtain⟨y,d,e1,e2,e3⟩:=buildK_ok (P:=P) (w:=w) (X:=fun _=>False) (ρ:=fun _=>none) (parts:=ds) (vparts:=q.toArray) (by simpa using hd.1) (fun i p r h1 h2=>hd.2 i p r h1 (by simpa using h2)) hk
 cases e3
 obtain⟨ys,rfl,h1,h2⟩:=e2
 have e4:ys=cs.toArray:=by
  apply Array.ext'
  apply List.ext_getElem?
  intro i
  cases hi:cs[i]? with
  | none=>
   have:=List.getElem?_eq_none_iff.1 hi
   rw[List.getElem?_eq_none (by rw[h1,List.length_map];exact this)]
  | some v=>
   have hlt:i<ys.toList.length:=by rw[h1,List.length_map];exact(List.getElem?_eq_some_iff.1 hi).1
   rw[List.getElem?_eq_getElem hlt]
   rcases h2 i (.t (.v v)) _ (by rw[List.getElem?_map,hi];rfl) (List.getElem?_eq_getElem hlt) with h | ⟨h,_⟩
   ·cases h
   ·rw[Rd.inv_v h]
 rw[e4] at e1
 unfold execOp;rw[hop];simp only[hpp,Sem.run_bind,e1,Result.andThen_ok];rfl
theorem op_bs1{d:Nat}{t e:TypeId}{i:TypeInfo}{z:Value}{x:Operand}{cs:Array Value}(hf:Fr n env a Df)(hop:o.op=.buildSlice t 1 #[(0,x)])(hd:o.dst=some d)(hlt:d<n)
 (ht:P.underlying t=some (.slice e)) (hi:P.info? e=some i) (hz:i.zero=some z) (hzs:z.cells.size=cs.size) (hsz:i.size=cs.size) (hpos:0<cs.size) (hmax:cs.size≤1000)
 (hx:evE env x=some (.agg cs))
 (hn:∀a',Fr n ((d,.slice (some ⟨w.heap.size,0,none⟩) 1 1)::env) a' Df→next a' (w.alloc (.cells cs e))):o.wp P a w next Q:=by
 refine op_val hf hd hlt ?_ hn
 have hpp:((#[(0,x)]:Array (Nat×Operand)).map fun(i,x)=>(i,a.eval x))=#[(0,Value.agg cs)]:=by
  have:=hf.ev hx
  simp[this]
 have hsO:szO P e=some cs.size:=by simp[szO,hi,hsz]
 have h:(Instr.buildSlice t 1 #[(0,Value.agg cs)]).run P w=.ok (.slice (some ⟨w.heap.size,0,none⟩) 1 1) (w.alloc (.cells cs e)):=by
  unfold Instr.buildSlice
  simp only[Sem.run_bind,run_underlying ht,Result.andThen_ok,run_sizeOf hsO]
  rw[if_neg (by omega),if_neg (by omega)]
  simp only[Sem.run_bind,run_zeroValue hi hz,Result.andThen_ok,Sem.run_pure]
  have hfill:Instr.fill (fun i=>some (i*cs.size,cs.size)) ((Array.range (1*cs.size)).map (fun x=>z.cells[x%z.cells.size]!)) [(0,Value.agg cs)]=some cs:=by
   have hc:(Value.agg cs).cells=cs:=rfl
   simp only[Instr.fill,hc]
   rw[if_neg (by simp)]
   have hf:=fold_set cs.toList 0 0 ((Array.range (1*cs.size)).map (fun x=>z.cells[x%z.cells.size]!)) (by simp)
   congr 1
   apply Array.ext'
   rw[←Array.foldl_toList,Array.toList_zipIdx]
   have e1:(fun(cs:Array Value) (x:Value×Nat)=>match x with | (c,j)=>cs.setIfInBounds (0*cs.size+j) c)=fun cs x=>cs.setIfInBounds (0+x.2) x.1:=by
    funext cs x;simp
   simp only[Nat.zero_mul] at e1 ⊢
   rw[show (fun(cs:Array Value) (x:Value×Nat)=>match x with | (c,j)=>cs.setIfInBounds (0+j) c)=fun cs x=>cs.setIfInBounds (0+x.2) x.1 from rfl,hf]
   simp
  rw[hfill]
  simp[newRow]
 unfold execOp;rw[hop]
 simp only[hpp,Sem.run_bind,h,Result.andThen_ok];rfl
theorem rowAt_one(w:World)(e:TypeId)(cs:Array Value)(hpos:0<cs.size):rowAt (w.alloc (.cells cs e)) e cs.size (.slice (some ⟨w.heap.size,0,none⟩) 1 1) 1 cs.toList:=
 ⟨by simp,.inr ⟨w.heap.size,0,1,cs,rfl,by omega,heap_alloc_new w _,Nat.le_refl _,by decide,by simp,by rw[List.drop_zero,Nat.one_mul,List.take_of_length_le (by rw[Array.length_toList];exact Nat.le_refl _)]⟩⟩
theorem op_tree{d f:Nat}{c:Call}{vals:List Value}{A:Callee}{args rs:List S1}(hf:Fr n env a Df)(hop:o.op=.call c)(hc:c.callee=.value (.func f))(hd:o.dst=some d)(hlt:d<n)(hcall:Callable P f)(hv:evL env c.args.toList=some vals)
 (hA:A.OK P f) (hk:(A.call args [] fun rs po=>some (rs,po))=some (rs,[])) (hG:Good P w (fun _=>False)) (hargs:RdSs w (fun _=>False) (fun _=>none) args vals)
 (hn:∀v a' w',Fr n ((d,v)::env) a' Df→Stp (fun _=>False) w w'→RdRes w' (fun _=>False) (fun _=>none) rs v→next a' w') (hrs:rs.all (fun s=>s.list.all isTree)=true):o.wp P a w next Q:=by
 obtain⟨rs',po',h1,h2⟩:=hA.1 args [] _ _ hk
 simp only[Option.some.injEq,Prod.mk.injEq] at h1
 obtain⟨e1,e2⟩:=h1
 subst e1;subst e2
 have hm:∀b,¬mutB [] (fun _=>none) b:=fun b ⟨k,o,v,h1,_⟩=>by simp at h1
 have hX:∀(ρ:Rho) b,¬XB [] ρ (fun _=>False) b:=fun ρ b hh=>hh.elim (fun⟨k,o,v,h1,_⟩=>by simp at h1) id
 refine op_call hf hop hc hd hlt hcall hv (h2 w (fun _=>False) (fun _=>none) vals (fun k o h=>by simp at h) (fun k k' b ⟨o,v,h1,_⟩=>by simp at h1) (fun _ h=>h.elim) (fun _ _ h=>h)
  (fun g k hg=>⟨fun hh=>hm g hh,(hG g k hg).2⟩) (hargs.step (Stp.refl (fun _=>False) w) (fun _ h=>h.elim) (fun b hb=>(hX _ b hb).elim) (.refl _))) fun e w' hp=>?_
 obtain⟨v,ρ',rfl,p1,_,_,_,_,_,p7⟩:=hp
 refine⟨v,rfl,fun a' hf'=>hn v a' w' hf' (p1.mono fun b hb _=>hm b hb) ?_⟩
 have key:∀(s:S1) (y:Value),s.list.all isTree=true→RdS w' (XB [] ρ' fun _=>False) ρ' s y→RdS w' (fun _=>False) (fun _=>none) s y:=fun s y hs hr=>by
  have hc1:∀(c:C) (y:Value),isTree c=true→RdC1 w' (XB [] ρ' fun _=>False) ρ' c y→RdC1 w' (fun _=>False) (fun _=>none) c y:=fun c y hc hr=>by
   cases c with
   | t x=>
    rcases hr with hr | ⟨hr,h1⟩
    ·cases hr
    ·exact .inr ⟨Rd.weak hr fun _ h=>h.elim,h1⟩
   | _=>cases hc
  cases s with
  | c c=>exact hc1 c y (by simpa[S1.list] using hs) hr
  | agg l=>
   obtain⟨cs,e,hl⟩:=hr
   exact⟨cs,e,hl.1,fun i c y h1 h2=>hc1 c y (List.all_eq_true.1 hs c (List.mem_of_getElem? h1)) (hl.2 i c y h1 h2)⟩
 have keys:∀{rs:List S1} {vs:List Value},rs.all (fun s=>s.list.all isTree)=true→RdSs w' (XB [] ρ' fun _=>False) ρ' rs vs→RdSs w' (fun _=>False) (fun _=>none) rs vs:=fun hrs hl=>⟨hl.1,fun i s y h1 h2=>key s y (List.all_eq_true.1 hrs s (List.mem_of_getElem? h1)) (hl.2 i s y h1 h2)⟩
 cases rs' with
 | nil=>obtain⟨vs,e1,hl⟩:=p7;exact⟨vs,e1,keys hrs hl⟩
 | cons s1 l=>cases l with
  | nil=>exact key s1 v (by simpa using hrs) p7
  | cons s2 l=>obtain⟨vs,e1,hl⟩:=p7;exact⟨vs,e1,keys hrs hl⟩
end
section
variable {F:Fence} {m:Nat} {P:Program} {n:Nat} {env:List (Nat×Value)} {Df:List Deferred} {a:Act} {w w':World} {Q:Exit→Act→World→Prop} {o:Oper} {next:Act→World→Prop}
theorem rn_field{x:Operand}{t:TypeId}{f:Nat}{A:Addr}{fs:Array Field}{fd:Field}{z:Nat}(hf:Fr n env a Df)(hop:o.op=.fieldAddr t x f)(hu:P.underlying t=some (.struct fs))(hfd:fs[f]?=some fd)(hz:szO P fd.type=some z)(hz0:z≠0)
 (hx:evE env x=some (.pointer (some A))):(execOp a.eval o).run P w=.ok (.value (.pointer (some (A.add fd.offset)))) w:=by
 have h:(Instr.fieldAt t (.pointer (some A)) f).run P w=.ok (.pointer (some (A.add fd.offset))) w:=by
  unfold Instr.fieldAt
  simp only[Sem.run_bind,run_underlying hu,Result.andThen_ok,hfd,Instr.sureAddr,Sem.run_pure,fieldPlace,run_sizeOf hz,if_neg hz0]
 unfold execOp;rw[hop];simp only[hf.ev hx,Sem.run_bind,h,Result.andThen_ok];rfl
theorem rn_box{x:Operand}{t:TypeId}{v:Value}(hf:Fr n env a Df)(hop:o.op=.box t x)(hx:evE env x=some v):(execOp a.eval o).run P w=.ok (.value (.pointer (some ⟨w.heap.size,0,none⟩))) (w.alloc (.cells v.cells t)):=by
 have h:(Instr.box t v).run P w=.ok (.pointer (some ⟨w.heap.size,0,none⟩)) (w.alloc (.cells v.cells t)):=by simp[Instr.box,newVar,newRow]
 unfold execOp;rw[hop];simp only[hf.ev hx,Sem.run_bind,h,Result.andThen_ok];rfl
theorem rn_makeMap{t:TypeId}(hop:o.op=.makeMap t none):(execOp a.eval o).run P w=.ok (.value (.map (some w.heap.size))) (w.alloc (.map #[] 0)):=by
 unfold execOp;rw[hop];simp only[Sem.run_bind,run_makeMap,Result.andThen_ok];rfl
theorem rn_func{f:FuncId}{x:Operand}{v:Value}(hf:Fr n env a Df)(hop:o.op=.makeFunc (.func f) #[] #[x])(hx:evE env x=some v):(execOp a.eval o).run P w=.ok (.value (.func (.func f) #[] #[v])) w:=by
 unfold execOp;rw[hop];simp[hf.ev hx,Instr.makeFunc]
theorem rn_alloc{e:TypeId}{i:TypeInfo}{z:Value}(hop:o.op=.alloc e)(hi:P.info? e=some i)(hz:i.zero=some z):
 (execOp a.eval o).run P w=.ok (.value (.pointer (some ⟨w.heap.size,0,none⟩))) (w.alloc (.cells z.cells e)):=by
 have h:(Instr.alloc e true (.tuple #[])).run P w=.ok (.pointer (some ⟨w.heap.size,0,none⟩)) (w.alloc (.cells z.cells e)):=by
  simp[Instr.alloc,run_zeroValue hi hz,newVar,newRow]
 unfold execOp;rw[hop];simp only[Sem.run_bind,h,Result.andThen_ok];rfl
theorem rn_storeN{x y:Operand}{t ty:TypeId}{g:Nat}{v:Value}{cs cur:Array Value}(hf:Fr n env a Df)(hop:o.op=.store t x y)(hs:szO P t=some cs.size)(hx:evE env x=some (.pointer (some ⟨g,0,none⟩)))(hy:evE env y=some v)(hc:v.cells=cs)
 (h1:∀v∈cs.toList,v.oneCell'=true) (hg:w.heap[g]?=some (.cells cur ty (0,0))) (hsz:cur.size=cs.size):(execOp a.eval o).run P w=.ok .skip (w.setRow g cs):=by
 have h:=storeVar_run (P:=P) (w:=w) (t:=t) (j:=0) (v:=v) hs (by rw[hc]) hg (by omega) (by rw[hc];exact h1)
 have e:(cur.toList.take 0++v.cells.toList++cur.toList.drop (0+cs.size)).toArray=cs:=by
  rw[hc,List.drop_of_length_le (by rw[Array.length_toList];omega)]
  simp
 rw[e] at h
 have h':(Instr.storeAt t (.pointer (some ⟨g,0,none⟩)) v).run P w=.ok () (w.setRow g cs):=by
  simp only[Instr.storeAt,Instr.sureAddr,Sem.run_bind,Sem.run_pure,Result.andThen_ok]
  exact h
 unfold execOp;rw[hop];simp only[hf.ev hx,hf.ev hy,Sem.run_bind,h',Result.andThen_ok];rfl
theorem rn_loadA{x:Operand}{t:TypeId}{A:Addr}{ys:List Value}(hf:Fr n env a Df)(hop:o.op=.load t x)(hs:szO P t=some ys.length)(hb:aggO P t=some true)(hx:evE env x=some (.pointer (some A)))(hc:∀(i:Nat) y,ys[i]?=some y→w.cell? (A.add i)=some y):
 (execOp a.eval o).run P w=.ok (.value (.agg ys.toArray)) w:=by
 have h:(Instr.loadAt t (.pointer (some A))).run P w=.ok (.agg ys.toArray) w:=by
  simp only[Instr.loadAt,Instr.sureAddr,Sem.run_bind,Sem.run_pure,Result.andThen_ok]
  have:=run_loadVar (P:=P) (w:=w) (ad:=A) (ys:=ys) hs hb (fun h=>by cases h) (by simp) hc
  simpa using this
 unfold execOp;rw[hop];simp only[hf.ev hx,Sem.run_bind,h,Result.andThen_ok];rfl
theorem in_val{d:Nat}{v:Value}(hF:∀f,F.fn f)(hnd:∀c,o.op≠.defer c)(hf:Fr n env a Df)(hd:o.dst=some d)(hlt:d<n)(hrun:(execOp a.eval o).run P w=.ok (.value v) w')(hn:∀a',Fr n ((d,v)::env) a' Df→next a' w'):o.wpIn F m P a w next Q:=by
 refine⟨fun f _=>hF f,?_⟩
 rw[Oper.semAt_eq _ _ _ hnd,hrun]
 show next (a.put o.dst v) w'
 rw[hd]
 exact hn _ (hf.put hlt v)
theorem in_skip(hF:∀f,F.fn f)(hnd:∀c,o.op≠.defer c)(hf:Fr n env a Df)(hd:o.dst=none)(hrun:(execOp a.eval o).run P w=.ok .skip w')(hn:∀a',Fr n env a' Df→next a' w'):o.wpIn F m P a w next Q:=by
 refine⟨fun f _=>hF f,?_⟩
 rw[Oper.semAt_eq _ _ _ hnd,hrun]
 show next (a.put o.dst undef) w'
 rw[hd]
 exact hn _ hf
theorem in_yield{d l:Nat}{c:Call}{x:Operand}{vals:List Value}{R':Ending→World→Prop}(hF:∀f,F.fn f)(hf:Fr n env a Df)(hop:o.op=.call c)(hc:c.callee=.value x)(hx:evE env x=some (.func (.yield l) #[] #[]))(hd:o.dst=some d)(hlt:d<n)
 (hv:evL env c.args.toList=some vals) (hm:F.depth.isSome=true→1≤m) (hy:YieldAt F (m-1) P l vals.toArray w R') (hn:∀e w',R' e w'→∃v,e=.returned v∧∀a',Fr n ((d,v)::env) a' Df→next a' w'):o.wpIn F m P a w next Q:=by
 refine⟨fun f _=>hF f,?_⟩
 rw[Oper.semAt_eq _ _ _ (fun c h=>by rw[hop] at h;cases h)]
 have hexec:execOp a.eval o=(do let d ←resolve a.eval c o.type;invoke d.target d.args):=by
  unfold execOp;rw[hop]
 obtain⟨fn,tmps,assign,body,hr,hR⟩:=hy
 have hinv:(execOp a.eval o).run P w=.ok (.round l fn tmps assign body) w:=by
  rw[hexec,←hr,←evL_ok hf hv]
  unfold resolve
  simp only[hc,hf.ev hx,Deferred.ofValue,Sem.run_bind,Sem.run_pure,Result.andThen_ok,invoke]
  congr 2
  apply Array.ext'
  simp
 rw[hinv]
 refine⟨hm,hR.mono fun e w' h=>?_⟩
 obtain⟨v,rfl,hk⟩:=hn e w' h
 show next (a.put o.dst v) w'
 rw[hd]
 exact hk _ (hf.put hlt v)
def wpLI(F:Fence)(m:Nat)(P:Program)(Q:Exit→Act→World→Prop):List Oper→Act→World→Prop
 | [],a,w=>Q .normal a w
 | o::l,a,w=>o.wpIn F m P a w (fun a w=>wpLI F m P Q l a w) Q
theorem wpLI_list{ops:Array Oper}:∀(l:List Oper) {a:Act} {w:World},l.all (fun o=>o.guard.isNone)=true→wpLI F m P Q l a w→wpListIn F m P ops Q l a w
 | [],_,_,_,h=>h
 | o::l,a,w,hg,h=>by
  rw[List.all_cons,Bool.and_eq_true] at hg
  have hw:Region.wanted o (yielded ops a.tmps)=true:=by
   cases hgo:o.guard with
   | none=>simp[Region.wanted,hgo]
   | some x=>rw[hgo] at hg;cases hg.1
  simp only[wpListIn]
  rw[if_pos hw]
  unfold wpLI at h
  exact Oper.wpIn_mono (fun a' w' h'=>wpLI_list l hg.2 h') h
theorem wp_regI{id:Nat}{ops:Array Oper}(hg:ops.all (fun o=>o.guard.isNone)=true)(h:wpLI F m P Q ops.toList a w):(Code.region id ops false).wpIn F m P Q a w:=
 wpIn_region_list (wpLI_list _ (by rw[Array.all_toList];exact hg) h)
end
def Le{R:Type}(x y:Option R):Prop:=∀r,x=some r→y=some r
theorem le_rfl{R:Type}{x:Option R}:Le x x:=fun _ h=>h
theorem le_ob{α R:Type}{m m':Option α}{k k':α→Option R}(h:Le m m')(hk:∀a,Le (k a) (k' a)):Le (ob m k) (ob m' k'):=fun r hr=>by
 obtain⟨a,h1,h2⟩:=ob_some hr
 rw[h a h1]
 exact hk a r h2
theorem le_cond{R:Type}{c:Bool}{a b a' b':Option R}(h:Le a a')(h':Le b b'):Le (bif c then a else b) (bif c then a' else b'):=by
 cases c
 ·exact h'
 ·exact h
theorem le_onS{α β R:Type}{q:α⊕β}{f f':α→Option R}{g g':β→Option R}(h:∀x,Le (f x) (f' x))(h':∀x,Le (g x) (g' x)):Le (onS q f g) (onS q f' g'):=by
 cases q with
 | inl x=>exact h x
 | inr x=>exact h' x
theorem le_iter{S E:Type}{F F':S→Option (S⊕E)}(h:∀s,Le (F s) (F' s)):∀(n:Nat) (s:S),Le (iter F n s) (iter F' n s)
 | 0,s=>fun r hr=>by simp[iter] at hr
 | n+1,s=>fun r hr=>by
  rw[iter] at hr ⊢
  cases hF:F s with
  | none=>rw[hF] at hr;cases hr
  | some q=>
   rw[hF] at hr
   rw[h s q hF]
   cases q with
   | inl s'=>exact le_iter h n s' r hr
   | inr e=>exact hr
theorem le_loop{S E:Type}{F F':S→Option (S⊕E)}(h:∀s,Le (F s) (F' s))(n:Nat)(s:S):Le (iter F n s) (loopU F' s):=fun r hr=>loopU_iff.2 ⟨n,le_iter h n s r hr⟩
def valB:Value→Value→Bool
 | .int k a,.int k' b=>decide (k=k')&&a==b
 | .bool a,.bool b=>a==b
 | .string a,.string b=>a==b
 | .slice none 0 0,.slice none 0 0=>true
 | _,_=>false
theorem valB_ok{x y:Value}(h:valB x y=true):x=y:=by
 unfold valB at h
 split at h
 ·simp only[Bool.and_eq_true,decide_eq_true_eq,beq_iff_eq] at h
  rw[h.1,h.2]
 ·rw[beq_iff_eq.1 h]
 ·rw[(MapKept.bytes_beq _ _).1 h]
 ·rfl
 ·cases h
mutual
def tB:T→T→Bool
 | .v a,.v b=>valB a b
 | .agg l,.agg m=>tsB l m
 | .sl k l,.sl k' m=>k==k'&&tsB l m
 | _,_=>false
def tsB:List T→List T→Bool
 | [],[]=>true
 | a::l,b::m=>tB a b&&tsB l m
 | _,_=>false
end
mutual
theorem tB_ok:∀{x y:T},tB x y=true→x=y
 | .v a,.v b,h=>congrArg T.v (valB_ok (x:=a) (y:=b) (by simpa[tB] using h))
 | .agg l,.agg m,h=>congrArg T.agg (tsB_ok (x:=l) (y:=m) (by simpa[tB] using h))
 | .sl k l,.sl k' m,h=>by
  simp only[tB,Bool.and_eq_true,beq_iff_eq] at h
  rw[h.1,tsB_ok h.2]
 | .v _,.agg _,h=>by simp[tB] at h
 | .v _,.sl _ _,h=>by simp[tB] at h
 | .agg _,.v _,h=>by simp[tB] at h
 | .agg _,.sl _ _,h=>by simp[tB] at h
 | .sl _ _,.v _,h=>by simp[tB] at h
 | .sl _ _,.agg _,h=>by simp[tB] at h
theorem tsB_ok:∀{x y:List T},tsB x y=true→x=y
 | [],[],_=>rfl
 | a::l,b::m,h=>by
  simp only[tsB,Bool.and_eq_true] at h
  rw[tB_ok h.1,tsB_ok h.2]
 | [],_::_,h=>by simp[tsB] at h
 | _::_,[],h=>by simp[tsB] at h
end
class EqB (α:Type) where
 eqv:α→α→Bool
 ok:∀{x y:α},eqv x y=true→x=y
instance:EqB Int:=⟨fun a b=>a==b,fun h=>beq_iff_eq.1 h⟩
instance:EqB Bool:=⟨fun a b=>a==b,fun h=>beq_iff_eq.1 h⟩
instance:EqB ByteArray:=⟨fun a b=>a==b,fun h=>(MapKept.bytes_beq _ _).1 h⟩
instance:EqB T:=⟨tB,tB_ok⟩
instance:EqB (List T):=⟨tsB,tsB_ok⟩
instance:EqB Unit:=⟨fun _ _=>true,fun _=>rfl⟩
instance:EqB Empty:=⟨fun _ _=>true,fun {x _} _=>x.elim⟩
instance {α β:Type} [EqB α] [EqB β]:EqB (α×β):=⟨fun a b=>EqB.eqv a.1 b.1&&EqB.eqv a.2 b.2,fun {x y} h=>by
 simp only[Bool.and_eq_true] at h
 exact Prod.ext (EqB.ok h.1) (EqB.ok h.2)⟩
instance {α β:Type} [EqB α] [EqB β]:EqB (α⊕β):=⟨fun a b=>match a,b with
 | .inl x,.inl y=>EqB.eqv x y
 | .inr x,.inr y=>EqB.eqv x y
 | _,_=>false,fun {x y} h=>by
 cases x <;> cases y <;> first
  | (cases h;done)
  | exact congrArg _ (EqB.ok h)⟩
def bothV{R:Type}[EqB R](a b:Option R):Option R:=match a,b with
 | some x,some y=>if EqB.eqv x y=true then some x else none
 | _,_=>none
theorem le_both{R:Type}[EqB R]{a b a' b':Option R}(h:Le a a')(h':Le b b'):Le (bothV a b) (bothU a' b'):=fun r hr=>by
 unfold bothV at hr
 split at hr
 ·rename_i x y
  split at hr
  ·rename_i he
   cases hr
   have:=EqB.ok he
   subst this
   exact bothU_eq (h _ rfl) (h' _ rfl)
  ·cases hr
 ·cases hr
section
variable {R:Type} (P:Program) (Γ:FuncId→Option Callee) (dok:Array Oper→Bool)
end
section
variable {R:Type} {P:Program} {Γ:FuncId→Option Callee} {dok:Array Oper→Bool}
theorem RdRes.res{w:World}{X:Nat→Prop}{ρ:Rho}{rs:List S1}{v:Value}(h:RdRes w X ρ rs v):RdD w X ρ (resD rs) v:=by
 match rs with
 | [s]=>exact h
 | []=>exact h
 | s1::s2::l=>exact h
end
end Go.Eng
/- One theorem for each function: what is proved of a printed function,in one line. -/
namespace Go.Eng
abbrev I6:Sh:=.int .i64
def HT.l(x:HT):HT:=.seq .leaf x
theorem TabOK.cs{P:Program}{pl:List Nat}{f:FuncId}{sg:Sig}{U:Tup sg.hin.shapes→Option (Tup sg.hout.shapes)}{fn:Func}{l:List (FuncId×Callee)}(hf:P.funcs[f]?=some fn)(hA:(calleeOf sg U).OK P f)(hl:TabOK P pl l)
 (h1:fn.body.isSome=true:=by kernel_rfl) (h2:(fn.name == "runtime.NumGoroutine")=false:=by kernel_rfl) (h3:((!pl.contains f||pureSig sg)&&(!pl.contains (f+1000000)&&(!(f==2000000)&&!(f==2000002))))=true:=by kernel_rfl):TabOK P pl ((f,calleeOf sg U)::l):=by
 simp only[Bool.and_eq_true,Bool.not_eq_true'] at h3
 obtain⟨a,b,c,d⟩:=h3
 refine TabOK.cons (fun _=>⟨fn,hf,h1,h2⟩) hA (calleeOf_nat _ _) (fun h=>?_) b (fun _=>callK_framed (calleeOf_nat _ _) rfl rfl) c hl d
 rw[h] at a
 exact calleeOf_pure (by simpa using a)
theorem mkK{P:Program}(hm:P.follows .mixedOrders=true){l:List (FuncId×Callee)}(pl:List Nat){f:FuncId}{fn:Func}(t:HT){sg:Sig}{U:Tup sg.hin.shapes→Option (Tup sg.hout.shapes)}
 (hΓ:TabOK P pl l) (hf:P.funcs[f]?=some fn) (hU:∀x,bodyG P l pl t fn sg x=U x) (ht:hintsOk t fn=true:=by kernel_rfl) (hs:sg.ok fn.ntmps=true:=by kernel_rfl):(calleeOf sg U).OK P f:=
 calleeG_ok hm hΓ hf ht hs hU
end Go.Eng
