/- An engine that turns the code of a function into a plain function on tuples, part 2: what it says of a function holds of every run; it has no conditions of its own. -/
import Derived.Laws.StructEq
import Derived.ChangeKeysEq
import Derived.Lib.ConvBytes
import Derived.MapKept
import Derived.Carry
import Derived.Lib.MinMax
import Derived.LoopN
import Derived.Maps.RangeRun
import Derived.Scope
import Derived.Test.YtlgdmflplabioaaGreatDoorEng1
set_option linter.unusedSimpArgs false
set_option linter.unusedVariables false
namespace Go.Eng
open Go.RowKit
@[irreducible] def NJ(a b:Bool):Bool:=a&&b
section
variable {R:Type} (P:Program)
def QC(rc:TypeId→S1→S1→(Bool→Option R)→Option R)(cs ds:List C):List Field→(Bool→Option R)→Option R
 | [],k=>k true
 | f::fs,k=>if f.name = "_" then none else match nU P f.type,pA P f.type with
  | some ag,some n=>match KK cs f.offset n ag,KK ds f.offset n ag with
   | some s,some s'=>rc f.type s s' fun b=>QC rc cs ds fs fun r=>k (NJ b r)
   | _,_=>none
  | _,_=>none
def QD(rc:TypeId→S1→S1→(Bool→Option R)→Option R)(e:TypeId)(n:Nat)(ag:Bool)(cs ds:List C):List Nat→(Bool→Option R)→Option R
 | [],k=>k true
 | i::is,k=>match KK cs (i*n) n ag,KK ds (i*n) n ag with
  | some s,some s'=>rc e s s' fun b=>QD rc e n ag cs ds is fun r=>k (NJ b r)
  | _,_=>none
def S1.aggs:S1→Option (List C)
 | .agg l=>some l
 | _=>none
def DZ:Nat→TypeId→S1→S1→(Bool→Option R)→Option R
 | 0,_,_,_,_=>none
 | d+1,t,x,y,k=>match P.underlying t with
  | some (.int kd)=>J5 kd (.s x) fun a=>J5 kd (.s y) fun b=>k (eqI a b)
  | some .bool=>NF (.s x) fun a=>NF (.s y) fun b=>k (eqB a b)
  | some .string=>EX (.s x) fun a=>EX (.s y) fun b=>k (eqS a b)
  | some (.struct fs)=>if P.stoodInHeld t=true then none else match x.aggs,y.aggs with
   | some cs,some ds=>QC P (DZ d) cs ds fs.toList k
   | _,_=>none
  | some (.array n e)=>match nU P e,pA P e,x.aggs,y.aggs with
   | some ag,some sz,some cs,some ds=>QD (DZ d) e sz ag cs ds (List.range n) k
   | _,_,_,_=>none
  | _=>none
def Cg(P:Program)(ty:TypeId):Bool:=match P.underlying ty with
 | some (.struct _)=>true
 | some (.array _ _)=>true
 | _=>false
def Gs(d:D)(k:S1→Option R):Option R:=match d with
 | .s x=>k x
 | _=>none
def ZO(op:BinOp)(ty yty:TypeId)(x y:D)(f:D→Option R):Option R:=
 if Cg P ty=true then (if P.eqGuardType P.depth ty=true then none else
  Gs x fun a=>Gs y fun b=>if op=.eql then DZ P 8 ty a b fun b=>f (dB b) else if op=.neq then DZ P 8 ty a b fun b=>f (dB (!b)) else none)
 else DP P op ty yty x y f
variable {P} {w:World} {X:Nat→Prop} {ρ:fN}
def Gt(P:Program)(w:World)(X:Nat→Prop)(ρ:fN)(d:Nat)(rc:∀{R:Type},TypeId→S1→S1→(Bool→Option R)→Option R):Prop:=
 ∀{R:Type} (r:R) (t:TypeId) (x y:S1) (vx vy:Value) (k:Bool→Option R),RdS w X ρ x vx→RdS w X ρ y vy→rc t x y k=some r→∃b,(Op.equalIn d t vx vy).run P w=.ok b w∧k b=some r
theorem XH{d:Nat}{rc:∀{R:Type},TypeId→S1→S1→(Bool→Option R)→Option R}(hrc:Gt P w X ρ d rc){xs ys:Array Value}{cs ds:List C}(hx:RdL w X ρ cs xs.toList)(hy:RdL w X ρ ds ys.toList):
 ∀(fs:List Field) {R:Type} (r:R) (k:Bool→Option R),QC P rc cs ds fs k=some r→∃b,(Op.eqFields d xs ys fs).run P w=.ok b w∧k b=some r
 | [],R,r,k,h=>⟨true,by simp[Op.eqFields],h⟩
 | f::fs,R,r,k,h=>by
  simp only[QC] at h
  split at h
  ·cases h
  ·rename_i hn
   split at h
   case h_2=>cases h
   rename_i ag n hag hsz
   split at h
   case h_2=>cases h
   rename_i s s' hs hs'
   obtain⟨va,e1,r1⟩:=BX hx hsz hag hs
   obtain⟨vb,e2,r2⟩:=BX hy hsz hag hs'
   obtain⟨b,e3,h3⟩:=hrc r f.type s s' va vb _ r1 r2 h
   obtain⟨b',e4,h4⟩:=XH hrc hx hy fs r _ h3
   simp only[Op.eqFields,hn,ne_eq,not_false_eq_true,if_true,Sem.run_bind,e1,e2,e3,Result.andThen_ok]
   cases b with
   | false=>exact⟨false,by simp,by unfold NJ at h4;simpa using h4⟩
   | true=>exact⟨b',by simpa using e4,by unfold NJ at h4;simpa using h4⟩
theorem XI{d:Nat}{rc:∀{R:Type},TypeId→S1→S1→(Bool→Option R)→Option R}(hrc:Gt P w X ρ d rc){e:TypeId}{n:Nat}{ag:Bool}(hsz:pA P e=some n)(hag:nU P e=some ag){xs ys:Array Value}{cs ds:List C}(hx:RdL w X ρ cs xs.toList)(hy:RdL w X ρ ds ys.toList):
 ∀(is:List Nat) {R:Type} (r:R) (k:Bool→Option R),QD rc e n ag cs ds is k=some r→∃b,(Op.eqItems d e n xs ys is).run P w=.ok b w∧k b=some r
 | [],R,r,k,h=>⟨true,by simp[Op.eqItems],h⟩
 | i::is,R,r,k,h=>by
  simp only[QD] at h
  split at h
  case h_2=>cases h
  rename_i s s' hs hs'
  obtain⟨va,e1,r1⟩:=BX hx hsz hag hs
  obtain⟨vb,e2,r2⟩:=BX hy hsz hag hs'
  obtain⟨b,e3,h3⟩:=hrc r e s s' va vb _ r1 r2 h
  obtain⟨b',e4,h4⟩:=XI hrc hsz hag hx hy is r _ h3
  simp only[Op.eqItems,Sem.run_bind,e1,e2,e3,Result.andThen_ok]
  cases b with
  | false=>exact⟨false,by simp,by unfold NJ at h4;simpa using h4⟩
  | true=>exact⟨b',by simpa using e4,by unfold NJ at h4;simpa using h4⟩
theorem uM{s:S1}{l:List C}{v:Value}(h:RdS w X ρ s v)(hs:s.aggs=some l):∃xs:Array Value,v=.agg xs∧RdL w X ρ l xs.toList:=by
 cases s with
 | c c=>cases hs
 | agg l'=>cases hs;exact h
theorem QE:∀(d D:Nat),d≤D→Gt P w X ρ D (fun {R}=>DZ (R:=R) P d)
 | 0,D,_,R,r,t,x,y,vx,vy,k,hx,hy,h=>by cases h
 | d+1,0,hD,R,r,t,x,y,vx,vy,k,hx,hy,h=>by omega
 | d+1,D+1,hD,R,r,t,x,y,vx,vy,k,hx,hy,h0=>by
  have h:DZ P (d+1) t x y k=some r:=h0
  clear h0
  have ih:Gt P w X ρ D (fun {R}=>DZ (R:=R) P d):=@fun R=>@QE d D (by omega) R
  have hx':RdD w X ρ (.s x) vx:=hx
  have hy':RdD w X ρ (.s y) vy:=hy
  simp only[DZ] at h
  split at h
  ·rename_i kd hu
   obtain⟨a,rfl,h⟩:=rK hx' h
   obtain⟨b,rfl,h⟩:=rK hy' h
   exact⟨a==b,run_equalIn_int w D t kd kd a b hu,by unfold eqI at h;exact h⟩
  ·rename_i hu
   obtain⟨a,rfl,h⟩:=vC hx' h
   obtain⟨b,rfl,h⟩:=vC hy' h
   exact⟨a==b,run_equalIn_bool w D t a b hu,by unfold eqB at h;exact h⟩
  ·rename_i hu
   obtain⟨a,rfl,h⟩:=pJ hx' h
   obtain⟨b,rfl,h⟩:=pJ hy' h
   exact⟨a.toList==b.toList,run_equalIn_string w D t a b hu,by unfold eqS at h;exact h⟩
  ·rename_i fs hu
   split at h
   ·cases h
   rename_i hst
   split at h
   case h_2=>cases h
   rename_i cs ds hcs hds
   obtain⟨xs,rfl,hxs⟩:=uM hx hcs
   obtain⟨ys,rfl,hys⟩:=uM hy hds
   obtain⟨b,e,hk⟩:=XH ih hxs hys fs.toList r k h
   have hf:P.fieldsOf t=fs:=by simp[Program.fieldsOf,hu]
   refine⟨b,?_,hk⟩
   rw[run_equalIn_struct w D t xs ys (by rw[hf];exact hu) (by simpa using hst),hf]
   exact e
  ·rename_i n e hu
   split at h
   case h_2=>cases h
   rename_i ag sz cs ds hag hsz hcs hds
   obtain⟨xs,rfl,hxs⟩:=uM hx hcs
   obtain⟨ys,rfl,hys⟩:=uM hy hds
   obtain⟨b,e',hk⟩:=XI ih hsz hag hxs hys (List.range n) r k h
   refine⟨b,?_,hk⟩
   obtain⟨i,hi,hsi⟩:∃i,P.info? e=some i∧i.size=sz:=by
    unfold pA at hsz
    cases hi:P.info? e with
    | none=>simp[hi] at hsz
    | some i=>exact⟨i,rfl,by simpa[hi] using hsz⟩
   have hc:P.cellsOf e=sz:=by simp[Program.cellsOf,hi,hsi]
   rw[run_equalIn_array w D xs ys hu hi,hc]
   exact e'
  ·cases h
theorem XJ{d:D}{v:Value}{r:R}{k:S1→Option R}(h:RdD w X ρ d v)(hk:Gs d k=some r):∃s,RdS w X ρ s v∧k s=some r:=by
 cases d with
 | s x=>exact⟨x,h,hk⟩
 | tup l=>cases hk
theorem Gu{r:R}{op:BinOp}{ty yty:TypeId}{x y:D}{xo yo:Operand}{vx vy:Value}{f:D→Option R}(hx:RdD w X ρ x vx)(hy:RdD w X ρ y vy)(h:ZO P op ty yty x y f=some r):
 ∃d v,(do eqGuard op ty xo yo vx vy;binOp op ty vx vy:Sem Value).run P w=.ok v w∧RdD w X ρ d v∧f d=some r:=by
 unfold ZO at h
 split at h
 case isFalse=>exact XC hx hy h
 rename_i hagg
 split at h
 ·cases h
 rename_i hg
 obtain⟨a,ha,h1⟩:=XJ hx h
 obtain⟨b,hb,h2⟩:=XJ hy h1
 clear h h1
 have aggv:∀{R:Type} {r:R} {k:Bool→Option R},DZ P 8 ty a b k=some r→(∃xs,vx=.agg xs)∧∃ys,vy=.agg ys:=by
  intro R r k h
  have h8:DZ P 8 ty a b k=match P.underlying ty with
   | some (.int kd)=>J5 kd (.s a) fun a=>J5 kd (.s b) fun b=>k (eqI a b)
   | some .bool=>NF (.s a) fun a=>NF (.s b) fun b=>k (eqB a b)
   | some .string=>EX (.s a) fun a=>EX (.s b) fun b=>k (eqS a b)
   | some (.struct fs)=>if P.stoodInHeld ty=true then none else match a.aggs,b.aggs with
    | some cs,some ds=>QC P (DZ P 7) cs ds fs.toList k
    | _,_=>none
   | some (.array n e)=>match nU P e,pA P e,a.aggs,b.aggs with
    | some ag,some sz,some cs,some ds=>QD (DZ P 7) e sz ag cs ds (List.range n) k
    | _,_,_,_=>none
   | _=>none:=rfl
  rw[h8] at h
  unfold Cg at hagg
  split at hagg
  ·rename_i fs hu
   simp only[hu] at h
   split at h
   ·cases h
   split at h
   case h_2=>cases h
   rename_i h1 h2
   obtain⟨xs,e1,_⟩:=uM ha h1
   obtain⟨ys,e2,_⟩:=uM hb h2
   exact⟨⟨xs,e1⟩,ys,e2⟩
  ·rename_i n e hu
   simp only[hu] at h
   split at h
   case h_2=>cases h
   rename_i h1 h2
   obtain⟨xs,e1,_⟩:=uM ha h1
   obtain⟨ys,e2,_⟩:=uM hb h2
   exact⟨⟨xs,e1⟩,ys,e2⟩
  ·cases hagg
 have hguard:∀xs ys,(eqGuard op ty xo yo (.agg xs) (.agg ys)).run P w=.ok () w:=fun xs ys=>by
  unfold eqGuard
  have hg':P.eqGuardType P.depth ty=false:=by simpa using hg
  cases op <;> first
   | rfl
   | (simp only[Bool.not_true,Bool.false_eq_true,if_false,Sem.run_bind,run_program,Result.andThen_ok,hg',Bool.not_false,if_true,Sem.run_pure])
 have hm:∀vx vy,(Op.equal ty vx vy).run P w=(Op.equalIn 10000 ty vx vy).run P w:=fun _ _=>rfl
 split at h2
 ·rename_i ho
  subst ho
  obtain⟨⟨xs,rfl⟩,ys,rfl⟩:=aggv h2
  obtain⟨q,e,hk⟩:=QE (P:=P) 8 10000 (by omega) r ty a b _ _ _ ha hb h2
  refine⟨_,.bool q,?_,.bool q,hk⟩
  simp only[Sem.run_bind,hguard,Result.andThen_ok]
  show (do pure (.bool (←Op.equal ty (.agg xs) (.agg ys))):Sem Value).run P w=_
  simp only[Sem.run_bind,hm,e,Result.andThen_ok,Sem.run_pure]
 ·split at h2
  ·rename_i ho
   subst ho
   obtain⟨⟨xs,rfl⟩,ys,rfl⟩:=aggv h2
   obtain⟨q,e,hk⟩:=QE (P:=P) 8 10000 (by omega) r ty a b _ _ _ ha hb h2
   refine⟨_,.bool (!q),?_,.bool (!q),hk⟩
   simp only[Sem.run_bind,hguard,Result.andThen_ok]
   show (do pure (.bool (!(←Op.equal ty (.agg xs) (.agg ys)))):Sem Value).run P w=_
   simp only[Sem.run_bind,hm,e,Result.andThen_ok,Sem.run_pure]
  ·cases h2
end
@[irreducible] def Ch(s:ByteArray):Option (List T):=if s.size≤140737488355328 then some (fR s) else none
section
variable {R:Type} (P:Program)
def KT(st:St)(src dst:TypeId)(x:D)(k:D→Option R):Option R:=
 match P.underlying src,P.underlying dst with
 | some .string,some (.slice e)=>match P.underlying e with
  | some (.int .u8)=>EX x fun s=>ob (Ch s) fun l=>k (.s (.c (.t (.sl 1 l))))
  | _=>none
 | _,_=>vZ P st src dst x k
end
section
variable {R:Type} {P:Program} {w0 w:World} {F Xc:Nat→Prop} {ρ0:Base} {ρ:fN} {st:St} {a:Act} {r:R}
theorem KU(s:ByteArray):flat (fR s)=fR s:=by
 unfold fR
 induction s.data.toList with
 | nil=>rfl
 | cons b l ih=>rw[List.map_cons,gS,ih];rfl
theorem Ci{src dst:TypeId}{x:D}{v:Value}{k:D→Option R}(hR:Rel w0 F Xc ρ0 ρ st a w)(h:RdD w (XB st.objs ρ Xc) ρ x v)(hk:KT P st src dst x k=some r):
 ∃y w' d,(convert src dst v).run P w=.ok y w'∧Stp (fun _=>False) w w'∧RdD w' (XB st.objs ρ Xc) ρ d y∧k d=some r:=by
 unfold KT at hk
 split at hk
 ·rename_i e hs hd
  split at hk
  case h_2=>cases hk
  rename_i he
  obtain⟨s,rfl,hk1⟩:=pJ h hk
  obtain⟨l,hl,hk2⟩:=aC hk1
  unfold Ch at hl
  split at hl
  case isFalse=>cases hl
  rename_i hsz
  cases hl
  have hrun:=Lib.run_convert_string_bytes (P:=P) w src dst e s hs hd he
  refine⟨_,_,_,hrun,⟨rfl,rfl,rfl,?_,fun b hb _=>Lib.bytesWorld_at_old w e s b hb⟩,RdD.one (c:=.t (.sl 1 (fR s))) ?_ rfl,hk2⟩
  ·have:=Lib.bytesWorld_size w e s;omega
  ·have hbl:fR s=s.data.toList.map fun b=>.v (.int .u8 b.toNat):=by unfold fR;rfl
   have hln:(fR s).length=s.size:=by rw[hbl];simp
   have key:=Rd.sl (w:=Lib.bytesWorld w e s) (X:=XB st.objs ρ Xc) 1 (fR s) ⟨w.heap.size,0,none⟩ (grownCap w s.size 0 e) (s.data.toList.map fun b=>.int .u8 b.toNat)
    (by decide) (by rw[hln];exact grownCap_ge w s.size 0 e) (grownCap_le_maxLen w s.size 0 e (by unfold maxLen;omega))
    (fun t ht=>by rw[hbl] at ht;obtain⟨b,_,rfl⟩:=List.mem_map.1 ht;rfl) (by rw[KU,hln];simp)
    (fun i y hi=>by
     rw[List.getElem?_map] at hi
     obtain⟨b,hb,rfl⟩:=Option.map_eq_some_iff.1 hi
     have hlt:i<s.size:=by have:=(List.getElem?_eq_some_iff.1 hb).1;simpa using this
     refine⟨?_,fun hx=>?_,rfl⟩
     ·have hc:=Lib.bytesWorld_cell w e s i hlt
      have ha:(Addr.mk w.heap.size 0 none).add i=⟨w.heap.size,i,none⟩:=by unfold Addr.add;split <;> simp_all
      rw[ha,hc,List.getD_eq_getElem?_getD,hb];rfl
     ·rcases hx with hx | hx
      ·have:=hR.lt hx
       exact Nat.lt_irrefl _ this
      ·have h1:=hR.xcl _ hx
       have h2:=hR.frame.size
       have:w.heap.size<w0.heap.size:=h1
       omega)
    (fun i t y h1 h2=>by
     rw[KU,hbl,List.getElem?_map] at h1
     rw[List.getElem?_map] at h2
     obtain⟨b,hb,rfl⟩:=Option.map_eq_some_iff.1 h1
     obtain⟨b',hb',rfl⟩:=Option.map_eq_some_iff.1 h2
     rw[hb] at hb';cases hb'
     exact .v _)
   rw[hln] at key
   exact key
 ·obtain⟨y,d,h1,h2,h3⟩:=SR hR h hk
  exact⟨y,w,d,h1,.refl _ _,h2,h3⟩
end
@[irreducible] def Gv(a b:Nat):Int:=(min a b:Nat)
@[irreducible] def ZP{α:Type}(l:List α):Nat:=l.length
@[irreducible] def Oi{α:Type}(es:List α)(lo len:Nat)(src:List α):List α:=es.take lo++src.take (min src.length len)++es.drop (lo+min src.length len)
section
variable {R:Type} (P:Program)
def KV(st:St)(t:TypeId)(s x:D)(k:St→D→Option R):Option R:=
 match P.underlying t with
 | some (.slice e)=>match pA P e with
  | some n=>mE s fun cs=>mE x fun cx=>gC st n cx fun src=>match cs with
   | .row key=>match st.objs[key]? with
    | some (.row false e' n' es)=>if n'=n then k { st with objs:=st.objs.set key (.row false e' n (Oi es 0 (ZP es) src)) } (dI .i64 (Gv (ZP src) (ZP es))) else none
    | _=>none
   | .cut key m lo len _=>match st.objs[key]? with
    | some (.row false e' n' es)=>if n'=n∧m=n then k { st with objs:=st.objs.set key (.row false e' n (Oi es lo len src)) } (dI .i64 (Gv (ZP src) len)) else none
    | _=>none
   | _=>none
  | none=>none
 | _=>none
end
section
variable {R:Type} {P:Program} {w0 w w':World} {F Xc:Nat→Prop} {ρ0:Base} {ρ:fN} {st:St} {a:Act} {r:R}
theorem Rel.splice(h:Rel w0 F Xc ρ0 ρ st a w){key:Nat}{e:TypeId}{n:Nat}{es es':List T}{hv:Value}{g off cap p:Nat}{cur:Array Value}{ts:List T}{vs:List Value}
 (hob:st.objs[key]?=some (.row false e n es)) (e1:ρ key=some hv) (z1:hv=.slice (some ⟨g,off,none⟩) es.length cap) (z2:0<cap) (z3:w.heap[g]?=some (.cells cur e (0,0))) (z4:es.length≤cap) (z5:cap≤maxLen) (z6:off+cap*n≤cur.size)
 (hl:es'.length=es.length) (u1:Uni n es') (u2:flat es'=(flat es).take p++ts++(flat es).drop (p+ts.length)) (ht:RdT w (XB st.objs ρ Xc) ts vs) (hp:p+ts.length≤es.length*n):
 Rel w0 F Xc ρ0 ρ { st with objs:=st.objs.set key (.row false e n es') } a (w.setRow g (cur.toList.take (off+p)++vs++cur.toList.drop (off+p+vs.length)).toArray):=by
 obtain⟨hv',f1,f2⟩:=h.objs key _ hob
 rw[e1] at f1
 cases f1
 obtain⟨h0,hu,⟨xs,hown,hr⟩,hf⟩:=f2
 have hcapm:es.length*n≤cap*n:=Nat.mul_le_mul_right _ z4
 have hflt:(flat es).length=es.length*n:=hu.length
 have hcl:off+cap*n≤cur.toList.length:=by rw[Array.length_toList];exact z6
 have hdl:(cur.toList.drop off).length=cur.toList.length-off:=List.length_drop
 have hxl:xs.length=es.length*n:=hown.1
 have hvl:vs.length=ts.length:=ht.1
 have z7:(cur.toList.drop off).take (es.length*n)=xs:=by
  rcases hown.2 with⟨hn | ⟨a,hn⟩,hz⟩ | ⟨g',off',cap',cur',q1,q2,q3,q4,q5,q6,q7⟩
  ·rw[z1] at hn;cases hn
  ·rw[hz,Nat.zero_mul] at hxl
   rw[hz,Nat.zero_mul,List.take_zero,List.eq_nil_of_length_eq_zero hxl]
  ·rw[z1] at q1
   cases q1
   rw[z3] at q3
   cases q3
   exact q7
 have hlt:key<st.objs.length:=(List.getElem?_eq_some_iff.1 hob).1
 have hblk:blk hv=some g:=by rw[z1];simp[blk];omega
 have hHas:Has st.objs ρ key g:=⟨_,hv,hob,rfl,e1,.inl hblk⟩
 refine h.change _ ρ (·=key) (jK w g _) (fun jj hj=>⟨by rw[List.getElem?_set_ne (fun e=>hj e.symm)],rfl⟩) (.refl _) (fun b hb=>⟨key,rfl,hb▸hHas⟩)
  (fun jj b hj hb=>?_) (fun jj j' b hj hj' _ _=>hj.trans hj'.symm) (fun hX jj o' hj ho'=>?_) (fun _ _=>rfl)
 ·subst hj
  obtain⟨o',v,_,_,q3,q4⟩:=hb
  rw[e1] at q3
  cases q3
  have q5:=q4.one (by rw[z1];rfl)
  rw[hblk] at q5
  cases q5
  exact .inl ⟨_,rfl,hHas⟩
 ·subst hj
  rw[List.getElem?_set_self hlt] at ho'
  cases ho'
  refine⟨hv,e1,h0,u1,⟨xs.take p++vs++xs.drop (p+vs.length),⟨?_,.inr ⟨g,off,cap,_,by rw[hl];exact z1,z2,setRow_heap w g cur _ e (0,0) z3,by rw[hl];exact z4,z5,?_,?_⟩⟩,?_⟩,fun hc=>by cases hc⟩
  ·rw[qG _ _ _ _ (by omega) rfl,hl];exact hown.1
  ·rw[List.size_toArray,qG _ _ _ _ (by omega) rfl,Array.length_toList];exact z6
  ·have:=H6 (cur.toList.drop off) vs p (es.length*n) (by omega) (by omega)
   rw[hl,H7 _ _ _ _ _ (by omega),this,z7]
  ·rw[u2]
   have hr':=hr.step (X':=XB (st.objs.set jj (O.row false e n es')) ρ Xc) (jK w g (cur.toList.take (off+p)++vs++cur.toList.drop (off+p+vs.length)).toArray) (fun b hb=>.inl ⟨_,hb▸hHas⟩) hX
   have ht':=ht.step (X':=XB (st.objs.set jj (O.row false e n es')) ρ Xc) (jK w g (cur.toList.take (off+p)++vs++cur.toList.drop (off+p+vs.length)).toArray) (fun b hb=>.inl ⟨_,hb▸hHas⟩) hX
   rw[hvl] at hr' ht' ⊢
   exact hr'.splice ht' (p:=p) (by omega)
theorem CutOf.whole{h:Value}{fz:Bool}{e:TypeId}{n:Nat}{es:List T}{X:Nat→Prop}(ho:okO w X ρ h (.row fz e n es)):CutOf h n 0 es.length false h:=by
 rcases fZ ho with⟨rfl,rfl⟩ | ⟨a,cap,rfl,h1,_⟩
 ·exact⟨none,0,0,0,none,rfl,rfl,Nat.le_refl _,Nat.le_refl _,Nat.le_refl _,fun h=>by omega,fun h=>by cases h⟩
 ·exact⟨some a,_,cap,cap,some a,rfl,rfl,by omega,h1,by omega,fun _=>by simp[Addr.add],fun h=>by cases h⟩
theorem OZ{t u ty e0:TypeId}{n key lo len:Nat}{tg:Bool}{e:TypeId}{es src:List T}{hv y vx:Value}{ys:List Value}(h:Rel w0 F Xc ρ0 ρ st a w)(ht:P.underlying t=some (.slice e0))(hn:pA P e0=some n)
 (hob:st.objs[key]?=some (.row false e n es)) (e1:ρ key=some hv) (hc:CutOf hv n lo len tg y) (hus:Uni n src) (hys:RdT w (XB st.objs ρ Xc) (flat src) ys)
 (hy:(∃q,vx=.slice none 0 q∧src=[])∨∃ad q,vx=.slice (some ad) src.length q∧src.length≤q∧∀(j:Nat) u,ys[j]?=some u→w.cell? (ad.add j)=some u):
 ∃w',(Builtin.copy_ #[t,u] ty #[y,vx]).run P w=.ok (.int .i64 (Gv src.length len)) w'∧Rel w0 F Xc ρ0 ρ { st with objs:=st.objs.set key (.row false e n (Oi es lo len src)) } a w':=by
 obtain⟨hv',f1,f2⟩:=h.objs key _ hob
 rw[e1] at f1
 cases f1
 have f2':=f2
 obtain⟨hpos,hu,⟨xs,hown,hr⟩,hf⟩:=f2
 have hklt:key<st.objs.length:=(List.getElem?_eq_some_iff.1 hob).1
 obtain⟨ao,L,c,cc,ao',rfl,rfl,g1,g2,g3,g4,_⟩:=hc
 unfold Gv Oi
 have hnm:Nat.min src.length len=min src.length len:=rfl
 have hlenOf:(Builtin.lenOf vx).run P w=.ok src.length w:=by
  rcases hy with⟨q,rfl,rfl⟩ | ⟨ad,q,rfl,_⟩ <;> rfl
 have hL:L=es.length:=by
  rcases fZ f2' with⟨h1,rfl⟩ | ⟨a,cap,h1,_⟩
  ·cases h1;rfl
  ·cases h1;rfl
 subst hL
 have hone:∀v∈ys,v.oneCell'=true:=fun v hv=>by
  obtain⟨i,hi,rfl⟩:=List.getElem_of_mem hv
  have hlt:i<(flat src).length:=by rw[←hys.1];exact hi
  exact(hys.2 i _ _ (List.getElem?_eq_getElem hlt) (List.getElem?_eq_getElem hi)).2
 have hyl:ys.length=src.length*n:=by rw[hys.1,hus.length]
 have hm1:min src.length len*n≤src.length*n:=Nat.mul_le_mul_right _ (Nat.min_le_left _ _)
 have hfirst:(Builtin.firstCells n (min src.length len) vx).run P w=.ok (ys.take (min src.length len*n)).toArray w:=by
  rcases hy with⟨q,rfl,rfl⟩ | ⟨ad,q,rfl,_,hcell⟩
  ·have:ys=[]:=List.eq_nil_of_length_eq_zero (by simpa using hyl)
   subst this
   simpa using run_firstCells_none w n (min 0 len) 0 q
  ·refine run_firstCells_some w n (min src.length len) ad src.length q _ (by rw[List.length_take];omega) (fun j v hj=>?_)
   rw[List.getElem?_take] at hj
   split at hj
   ·exact hcell j v hj
   ·cases hj
 have hrun:∀(w':World),(match ao' with | some a=>storeCells a (ys.take (min src.length len*n)) 0 | none=>pure ()).run P w=.ok () w' →
  (Builtin.copy_ #[t,u] ty #[.slice ao' len cc,vx]).run P w=.ok (.int .i64 ((min src.length len:Nat):Int)) w':=fun w' hs=>by
  unfold Builtin.copy_
  simp only[List.getElem?_toArray,List.getElem?_cons_zero,List.getElem?_cons_succ,Sem.run_bind,run_underlying ht,Result.andThen_ok,hlenOf,bP hn,hnm,hfirst]
  cases ao' with
  | none=>simp only[Sem.run_pure] at hs ⊢;cases hs;rfl
  | some a'=>
   dsimp only at hs ⊢
   simp only[Sem.run_bind]
   rw[hs]
   rfl
 by_cases hz:min src.length len=0
 ·refine⟨w,hrun w ?_,?_⟩
  ·rw[hz,Nat.zero_mul,List.take_zero]
   cases ao' <;> rfl
  ·rw[hz,List.take_zero,List.append_nil,Nat.add_zero,List.take_append_drop]
   have:st.objs.set key (.row false e n es)=st.objs:=by
    apply List.ext_getElem?
    intro i
    rw[List.getElem?_set]
    split
    ·rename_i hi;subst hi;exact hob.symm
    ·rfl
   rw[this]
   exact h
 ·rcases hown.2 with⟨hnn,h0⟩ | ⟨g,off,cap,cur,q1,q2,q3,q4,q5,q6,q7⟩
  ·exfalso;omega
  ·cases q1
   have h5:=g4 (by omega)
   have hadd:(⟨g,off,none⟩:Addr).add (lo*n)=⟨g,off+lo*n,none⟩:=by unfold Addr.add;split <;> simp_all
   simp only[Option.map_some,hadd] at h5
   subst h5
   have hmul:(lo+min src.length len)*n≤es.length*n:=Nat.mul_le_mul_right _ (by omega)
   have hmul2:es.length*n≤c*n:=Nat.mul_le_mul_right _ q4
   rw[Nat.add_mul] at hmul
   have hst:=run_storeCells_at P g (off+lo*n) e (ys.take (min src.length len*n)) 0 cur w q3 (by rw[List.length_take];omega) (fun v hv=>hone v (List.mem_of_mem_take hv))
   refine⟨_,hrun _ hst,?_⟩
   simp only[Nat.add_zero]
   have hftl:(flat (src.take (min src.length len))).length=min src.length len*n:=by rw[hus.flat_take,List.length_take,hus.length];omega
   refine h.splice (p:=lo*n) (ts:=flat (src.take (min src.length len))) hob e1 rfl q2 q3 q4 q5 q6 ?_ ?_ ?_ ?_ ?_
   ·simp;omega
   ·intro t ht
    rcases List.mem_append.1 ht with ht | ht
    ·rcases List.mem_append.1 ht with ht | ht
     ·exact hu t (List.mem_of_mem_take ht)
     ·exact hus t (List.mem_of_mem_take ht)
    ·exact hu t (List.mem_of_mem_drop ht)
   ·rw[kS,kS,hu.flat_take,hu.flat_drop,hftl,Nat.add_mul]
   ·rw[hus.flat_take]
    refine⟨by simp[hys.1],fun i t z h1 h2=>?_⟩
    rw[List.getElem?_take] at h1 h2
    split at h1
    ·rename_i hlt
     rw[if_pos hlt] at h2
     exact hys.2 i t z h1 h2
    ·cases h1
   ·rw[hftl];exact hmul
theorem Cj{t u ty:TypeId}{s x:D}{vs vx:Value}{k:St→D→Option R}(h:Rel w0 F Xc ρ0 ρ st a w)(hs:RdD w (XB st.objs ρ Xc) ρ s vs)(hx:RdD w (XB st.objs ρ Xc) ρ x vx)
 (hk:KV P st t s x k=some r):
 ∃y w' st' d,(Builtin.copy_ #[t,u] ty #[vs,vx]).run P w=.ok y w'∧Rel w0 F Xc ρ0 ρ st' a w'∧RdD w' (XB st'.objs ρ Xc) ρ d y∧k st' d=some r:=by
 unfold KV at hk
 split at hk
 case h_2=>cases hk
 rename_i e0 ht
 split at hk
 case h_2=>cases hk
 rename_i n hn
 obtain⟨cs,rfl,hcs,hk1⟩:=jJ hs hk
 obtain⟨cx,rfl,hcx,hk2⟩:=jJ hx hk1
 clear hk hk1
 obtain⟨src,hk3,hus,ys,hys,hy⟩:=B1 h hcx hk2
 clear hk2
 split at hk3
 ·rename_i key
  split at hk3
  case h_2=>cases hk3
  rename_i e n' es hob
  split at hk3
  case isFalse=>cases hk3
  rename_i hnn
  subst hnn
  rcases hcs with hcs | ⟨hcs,_⟩
  ·cases hcs
  have e1:ρ key=some vs:=hcs
  obtain⟨hv,f1,f2⟩:=h.objs key _ hob
  rw[e1] at f1
  cases f1
  obtain⟨w',r1,r2⟩:=OZ (u:=u) (ty:=ty) h ht hn hob e1 (CutOf.whole f2) hus hys hy
  unfold ZP at hk3
  exact⟨_,w',_,_,r1,r2,.int .i64 _,hk3⟩
 ·rename_i key m lo len tg
  split at hk3
  case h_2=>cases hk3
  rename_i e n' es hob
  split at hk3
  case isFalse=>cases hk3
  rename_i hnn
  obtain⟨rfl,rfl⟩:=hnn
  rcases hcs with hcs | ⟨⟨v,q1,q2⟩,_⟩
  ·cases hcs
  obtain⟨w',r1,r2⟩:=OZ (u:=u) (ty:=ty) h ht hn hob q1 q2 hus hys hy
  unfold ZP at hk3
  exact⟨_,w',_,_,r1,r2,.int .i64 _,hk3⟩
 ·cases hk3
end
@[irreducible] def nilL{α:Type}(l:List α):Bool:=l.isEmpty
def Kt:D:=.s (.c .amb)
section
variable {R:Type} (P:Program)
def VC:D→Bool
 | .s (.c (.t (.v (.slice none 0 0))))=>true
 | _=>false
def VD(st:St)(eq:Bool)(c:C)(k:D→Option R):Option R:=match c with
 | .t (.v (.slice none 0 0))=>k (dB eq)
 | .t (.sl n l)=>if n<1000000000 then (bif nilL l then k Kt else k (dB (!eq))) else none
 | .row key=>match st.objs[key]? with
  | some (.row _ _ _ es)=>bif nilL es then k Kt else k (dB (!eq))
  | _=>none
 | _=>none
def NK(st:St)(op:BinOp)(ty yty:TypeId)(x y:D)(k:D→Option R):Option R:=match P.underlying ty with
 | some (.slice _)=>if VC y=true then mE x fun c=>if op=.eql then VD st true c k else if op=.neq then VD st false c k else none else none
 | _=>ZO P op ty yty x y k
end
section
variable {R:Type} {P:Program} {w0 w:World} {F Xc:Nat→Prop} {ρ0:Base} {ρ:fN} {st:St} {a:Act} {r:R}
theorem KW(t e:TypeId)(a:Option Addr)(l c:Nat)(h:P.underlying t=some (.slice e)):(Op.equal t (.slice a l c) (.slice none 0 0)).run P w=.ok a.isNone w:=by
 have key:∀d:Nat,(Op.equalIn (d+1) t (.slice a l c) (.slice none 0 0)).run P w=.ok a.isNone w:=fun d=>by
  cases a <;> simp[Op.equalIn,run_underlying h]
 exact key 9999
theorem ZQ{X:Nat→Prop}{d:D}{v:Value}(h:RdD w X ρ d v)(hd:VC d=true):v=.slice none 0 0:=by
 unfold VC at hd
 split at hd
 ·rcases h with h | ⟨h,_⟩
  ·cases h
  ·exact Rd.inv_v h
 ·cases hd
theorem XK{eq:Bool}{c:C}{v:Value}{k:D→Option R}(hR:Rel w0 F Xc ρ0 ρ st a w)(hc:RdC1 w (XB st.objs ρ Xc) ρ c v)(hk:VD st eq c k=some r):
 ∃ad l q d,v=.slice ad l q∧k d=some r∧RdD w (XB st.objs ρ Xc) ρ d (.bool (ad.isNone==eq)):=by
 have amb:∀b:Bool,RdD w (XB st.objs ρ Xc) ρ Kt (.bool b):=fun b=>.one (c:=.amb) ⟨b,rfl⟩ rfl
 have nn:∀(x:Addr),RdD w (XB st.objs ρ Xc) ρ (dB (!eq)) (.bool ((some x).isNone==eq)):=fun x=>by
  cases eq <;> exact .bool _
 unfold VD at hk
 split at hk
 ·rcases hc with hc | ⟨hc,_⟩
  ·cases hc
  ·have:=Rd.inv_v hc
   subst this
   exact⟨none,0,0,_,rfl,hk,by cases eq <;> exact .bool _⟩
 ·rename_i n l
  split at hk
  case isFalse=>cases hk
  rename_i hnm
  rcases hc with hc | ⟨hc,_⟩
  ·cases hc
  ·unfold nilL at hk
   have hc':Rd w (XB st.objs ρ Xc) (.sl n l) v:=hc
   cases hc' with
   | mp _ _ _ _ _ hbig=>omega
   | nil=>exact⟨none,0,0,_,rfl,hk,amb _⟩
   | sl _ _ ad c ys=>
    cases hl:l.isEmpty with
    | true=>rw[hl] at hk;exact⟨some ad,_,c,_,rfl,hk,amb _⟩
    | false=>rw[hl] at hk;exact⟨some ad,_,c,_,rfl,hk,nn ad⟩
 ·rename_i key
  split at hk
  ·rename_i fz e n es hob
   rcases hc with hc | ⟨hc,_⟩
   ·cases hc
   ·obtain⟨hv,e1,e2⟩:=hR.objs key _ hob
    have hcc:ρ key=some v:=hc
    rw[hcc] at e1
    cases e1
    unfold nilL at hk
    rcases fZ e2 with⟨rfl,rfl⟩ | ⟨a0,cap,rfl,_⟩
    ·exact⟨none,0,0,_,rfl,hk,amb _⟩
    ·cases hl:es.isEmpty with
     | true=>rw[hl] at hk;exact⟨some a0,_,cap,_,rfl,hk,amb _⟩
     | false=>rw[hl] at hk;exact⟨some a0,_,cap,_,rfl,hk,nn a0⟩
  ·cases hk
 ·cases hk
theorem Gw{op:BinOp}{ty yty:TypeId}{x y:D}{xo yo:Operand}{vx vy:Value}{k:D→Option R}(hR:Rel w0 F Xc ρ0 ρ st a w)(hx:RdD w (XB st.objs ρ Xc) ρ x vx)(hy:RdD w (XB st.objs ρ Xc) ρ y vy)(hk:NK P st op ty yty x y k=some r):
 ∃d v,(do eqGuard op ty xo yo vx vy;binOp op ty vx vy:Sem Value).run P w=.ok v w∧RdD w (XB st.objs ρ Xc) ρ d v∧k d=some r:=by
 unfold NK at hk
 split at hk
 ·rename_i e hu
  split at hk
  case isFalse=>cases hk
  rename_i hn
  have:=ZQ hy hn
  subst this
  obtain⟨c,rfl,hc,hk1⟩:=jJ hx hk
  split at hk1
  ·rename_i ho
   subst ho
   obtain⟨ad,l,q,d,rfl,hk2,hd⟩:=XK hR hc hk1
   refine⟨d,_,?_,hd,hk2⟩
   simp only[Sem.run_bind,zK (a:=.slice ad l q) (by simp) (by simp),Result.andThen_ok]
   simp[binOp,KW ty e ad l q hu]
  ·split at hk1
   ·rename_i ho
    subst ho
    obtain⟨ad,l,q,d,rfl,hk2,hd⟩:=XK hR hc hk1
    refine⟨d,_,?_,hd,hk2⟩
    simp only[Sem.run_bind,zK (a:=.slice ad l q) (by simp) (by simp),Result.andThen_ok]
    simp[binOp,KW ty e ad l q hu]
   ·cases hk1
 ·exact Gu hx hy hk
end
def sV(P:Program)(kt:TypeId):Option Nat:=match P.underlying kt with
 | some (.int .i64)=>some 0
 | some .string=>some 1
 | some (.array n e)=>match P.underlying e,pA P e,nU P e with
  | some (.int .i64),some 1,some false=>some (n+2)
  | _,_,_=>none
 | _=>none
def KX:Value→Value→Bool
 | .int .i64 a,.int .i64 b=>a==b
 | .string a,.string b=>a==b
 | _,_=>false
def XL:List T→List T→Bool
 | [],[]=>true
 | .v a::l,.v b::m=>KX a b&&XL l m
 | _,_=>false
def uD:T→T→Bool
 | .v a,.v b=>KX a b
 | .agg l,.agg m=>XL l m
 | _,_=>false
def vD:T→T
 | .agg (k::_)=>k
 | t=>t
def KY:T→T
 | .agg [_,v]=>v
 | t=>t
def dF(k:T)(l:List T):Option Nat:=l.findIdx? fun t=>uD k (vD t)
theorem VE:∀{l:List T} {vs:List Value},zI l=some vs→∃xs:List Int,l=xs.map (fun a=>T.v (.int .i64 a))∧vs=xs.map (Value.int .i64):=by
 intro l
 induction l with
 | nil=>intro vs h;simp only[zI,Option.some.injEq] at h;subst h;exact⟨[],rfl,rfl⟩
 | cons t l ih=>
  intro vs h
  unfold zI at h
  split at h
  ·rename_i hh;cases hh
  ·rename_i a l' hh
   cases hh
   cases hs:zI l with
   | none=>simp[hs] at h
   | some q=>
    simp only[hs,Option.map_some,Option.some.injEq] at h
    subst h
    obtain⟨xs,rfl,rfl⟩:=ih hs
    exact⟨a::xs,rfl,rfl⟩
  ·cases h
theorem dO{c:Nat}{k:T}{v:Value}(h:kT c k=some v):(c=0∧∃a,k=.v (.int .i64 a)∧v=.int .i64 a)∨(c=1∧∃s,k=.v (.string s)∧v=.string s) ∨
 ∃m,∃xs:List Int,c=m+2∧xs.length=m∧k=.agg (xs.map fun a=>T.v (.int .i64 a))∧v=.agg (xs.map (Value.int .i64)).toArray:=by
 unfold kT at h
 split at h
 ·cases h;exact .inl ⟨rfl,_,rfl,rfl⟩
 ·cases h;exact .inr (.inl ⟨rfl,_,rfl,rfl⟩)
 ·rename_i m l
  split at h
  ·rename_i hl
   cases hs:zI l with
   | none=>simp[hs] at h
   | some q=>
    simp only[hs,Option.map_some,Option.some.injEq] at h
    subst h
    obtain⟨xs,rfl,rfl⟩:=VE hs
    exact .inr (.inr ⟨m,xs,rfl,by simpa using hl,rfl,rfl⟩)
  ·cases h
 ·cases h
theorem D0:∀xs ys:List Int,XL (xs.map fun a=>T.v (.int .i64 a)) (ys.map fun a=>T.v (.int .i64 a))=decide (xs=ys)
 | [],[]=>rfl
 | [],_::_=>rfl
 | _::_,[]=>rfl
 | x::xs,y::ys=>by
  simp only[List.map_cons,XL,KX,D0 xs ys]
  by_cases h:x=y
  ·subst h;simp
  ·simp[h]
theorem E6{c:Nat}{k k':T}{v v':Value}(h:kT c k=some v)(h':kT c k'=some v'):uD k k'=true↔v=v':=by
 rcases dO h with⟨rfl,a,rfl,rfl⟩ | ⟨rfl,s,rfl,rfl⟩ | ⟨m,xs,rfl,hl,rfl,rfl⟩
 ·rcases dO h' with⟨_,b,rfl,rfl⟩ | ⟨hc,_⟩ | ⟨m,ys,hc,_⟩
  ·simp[uD,KX]
  ·omega
  ·omega
 ·rcases dO h' with⟨hc,_⟩ | ⟨_,b,rfl,rfl⟩ | ⟨m,ys,hc,_⟩
  ·omega
  ·simp[uD,KX,MapKept.bytes_beq]
  ·omega
 ·rcases dO h' with⟨hc,_⟩ | ⟨hc,_⟩ | ⟨m',ys,hc,hl',rfl,rfl⟩
  ·omega
  ·omega
  ·simp only[uD,D0,decide_eq_true_eq]
   constructor
   ·intro e;rw[e]
   ·intro e
    have e1:xs.map (Value.int .i64)=ys.map (Value.int .i64):=by
     have:=congrArg (fun v=>match v with | Value.agg cs=>cs.toList | _=>[]) e
     simpa using this
    have inj:∀xs ys:List Int,xs.map (Value.int .i64)=ys.map (Value.int .i64)→xs=ys:=by
     intro xs
     induction xs with
     | nil=>intro ys h;cases ys with
      | nil=>rfl
      | cons y ys=>cases h
     | cons x xs ih=>intro ys h;cases ys with
      | nil=>cases h
      | cons y ys=>
       simp only[List.map_cons,List.cons.injEq,Value.int.injEq,true_and] at h
       rw[h.1,ih ys h.2]
    exact inj xs ys e1
section
variable {P:Program} {w:World} {X:Nat→Prop} {ρ:fN}
theorem G3{e:TypeId}{cs:Array Value}{i:Nat}{v:Value}(hag:nU P e=some false)(hv:cs[i]?=some v)(w:World):(part e cs i).run P w=.ok v w:=by
 unfold part
 simp only[Sem.run_bind,GU hag,Result.andThen_ok,Bool.false_eq_true,if_false,hv]
 rfl
theorem KZ{xs:List Int}{i:Nat}(h:i<xs.length):((xs.map (Value.int .i64)).toArray)[i]?=some (.int .i64 xs[i]):=by simp[h]
theorem K0{kt e:TypeId}{n:Nat}(hu:P.underlying kt=some (.array n e))(he:P.underlying e=some (.int .i64))(hsz:pA P e=some 1)(hag:nU P e=some false){xs:List Int}(hl:xs.length=n)(em:Bool)(d:Nat)(w:World):
 (Instr.checkKey em (d+2) kt (.agg (xs.map (Value.int .i64)).toArray)).run P w=.ok () w:=by
 rw[Instr.checkKey]
 simp only[Sem.run_bind,run_underlying hu,Result.andThen_ok]
 simp only[Std.Legacy.Range.forIn_eq_forIn_range',Std.Legacy.Range.size,Nat.sub_zero,Nat.add_one_sub_one,Nat.div_one]
 have each:∀j∈List.range' 0 n,j<xs.length:=fun j hj=>by
  rw[List.mem_range'] at hj
  obtain⟨i,hi,rfl⟩:=hj
  omega
 generalize List.range' 0 n=is at each
 induction is with
 | nil=>simp
 | cons j is ih=>
  have hj:=each j (by simp)
  have p1:=G3 hag (KZ hj) w
  have p2:(Instr.checkKey em (d+1) e (.int .i64 xs[j])).run P w=.ok () w:=MapKept.run_checkKey he (k:=.int .i64 xs[j]) rfl em d
  simp only[List.forIn_cons,Sem.run_bind,bP hsz,Result.andThen_ok,Nat.mul_one,p1,p2,Sem.run_pure]
  exact ih fun y hy=>each y (by simp[hy])
theorem B3{kt:TypeId}{c:Nat}{k:T}{v:Value}(hk:sV P kt=some c)(hv:kT c k=some v)(em:Bool)(w:World):(Instr.checkKey em 10000 kt v).run P w=.ok () w:=by
 unfold sV at hk
 split at hk
 ·rename_i hu
  cases hk
  rcases dO hv with⟨_,a,rfl,rfl⟩ | ⟨hc,_⟩ | ⟨m,xs,hc,_⟩
  ·exact MapKept.run_checkKey hu (k:=.int .i64 a) rfl em 9999
  ·cases hc
  ·cases hc
 ·rename_i hu
  cases hk
  rcases dO hv with⟨hc,_⟩ | ⟨_,s,rfl,rfl⟩ | ⟨m,xs,hc,_⟩
  ·cases hc
  ·exact MapKept.run_checkKey hu (k:=.string s) trivial em 9999
  ·omega
 ·rename_i n e hu
  split at hk
  ·rename_i he hsz hag
   cases hk
   rcases dO hv with⟨hc,_⟩ | ⟨hc,_⟩ | ⟨m,xs,hc,hl,rfl,rfl⟩
   ·omega
   ·omega
   ·exact K0 hu he hsz hag (by omega) em 9998 w
  ·cases hk
 ·cases hk
theorem E7{e:TypeId}(he:P.underlying e=some (.int .i64))(hag:nU P e=some false){xs ys:List Int}(hl:xs.length=ys.length)(d:Nat)(w:World):∀(is:List Nat),(∀j∈is,j<xs.length) →
 ∃r,(Op.eqItems (d+1) e 1 (xs.map (Value.int .i64)).toArray (ys.map (Value.int .i64)).toArray is).run P w=.ok r w∧(r=true↔∀j∈is,xs[j]?=ys[j]?)
 | [],_=>⟨true,by simp[Op.eqItems],by simp⟩
 | i::is,hi=>by
  have h1:=hi i (by simp)
  have p1:=G3 hag (KZ h1) w
  have p2:=G3 hag (KZ (xs:=ys) (i:=i) (by omega)) w
  obtain⟨r,hr,hiff⟩:=E7 he hag hl d w is (fun j hj=>hi j (by simp[hj]))
  have p3:=run_equalIn_int w d e .i64 .i64 xs[i] (ys[i]'(by omega)) he
  simp only[Op.eqItems,Sem.run_bind,Nat.mul_one,p1,p2,Result.andThen_ok,p3]
  have hx:xs[i]?=some xs[i]:=List.getElem?_eq_getElem h1
  have hy:ys[i]?=some (ys[i]'(by omega)):=List.getElem?_eq_getElem (by omega)
  by_cases hb:xs[i]=ys[i]'(by omega)
  ·refine⟨r,by simpa[hb] using hr,?_⟩
   rw[hiff]
   constructor
   ·intro h j hj
    rcases List.mem_cons.1 hj with rfl | hj
    ·rw[hx,hy,hb]
    ·exact h j hj
   ·intro h j hj;exact h j (by simp[hj])
  ·refine⟨false,by simp[hb],?_⟩
   constructor
   ·intro h;cases h
   ·intro h
    have:=h i (by simp)
    rw[hx,hy] at this
    exact(hb (Option.some.inj this)).elim
theorem ZR{kt e:TypeId}{n:Nat}(hu:P.underlying kt=some (.array n e))(he:P.underlying e=some (.int .i64))(hsz:pA P e=some 1)(hag:nU P e=some false){k k':T}{v v':Value}(h:kT (n+2) k=some v)(h':kT (n+2) k'=some v')(w:World):
 (Op.equal kt v v').run P w=.ok (uD k k') w:=by
 have hb:=E6 h h'
 rcases dO h with⟨hc,_⟩ | ⟨hc,_⟩ | ⟨m,xs,hc,hl,rfl,rfl⟩
 ·omega
 ·omega
 rcases dO h' with⟨hc',_⟩ | ⟨hc',_⟩ | ⟨m',ys,hc',hl',rfl,rfl⟩
 ·omega
 ·omega
 obtain⟨i,hi,hsi⟩:∃i,P.info? e=some i∧i.size=1:=by
  unfold pA at hsz
  cases hi:P.info? e with
  | none=>simp[hi] at hsz
  | some i=>exact⟨i,rfl,by simpa[hi] using hsz⟩
 have hcell:P.cellsOf e=1:=by simp[Program.cellsOf,hi,hsi]
 obtain⟨r,hr,hiff⟩:=E7 he hag (xs:=xs) (ys:=ys) (by omega) 9998 w (List.range n) (fun j hj=>by rw[List.mem_range] at hj;omega)
 have hrun:(Op.equal kt (.agg (xs.map (Value.int .i64)).toArray) (.agg (ys.map (Value.int .i64)).toArray)).run P w=.ok r w:=by
  show (Op.equalIn 10000 kt _ _).run P w=_
  rw[run_equalIn_array w 9999 _ _ hu hi,hcell]
  exact hr
 rw[hrun]
 congr 1
 have:r=true↔xs=ys:=by
  rw[hiff]
  constructor
  ·intro h
   apply List.ext_getElem?
   intro j
   rcases Nat.lt_or_ge j n with hj | hj
   ·exact h j (List.mem_range.2 hj)
   ·rw[List.getElem?_eq_none (by omega),List.getElem?_eq_none (by omega)]
  ·intro e j _;rw[e]
 have h2:uD (.agg (xs.map fun a=>T.v (.int .i64 a))) (.agg (ys.map fun a=>T.v (.int .i64 a)))=decide (xs=ys):=by simp only[uD,D0]
 rw[h2]
 cases r with
 | true=>exact(decide_eq_true (this.1 rfl)).symm
 | false=>exact(decide_eq_false fun hh=>by have:=this.2 hh;cases this).symm
def EntR(c:Nat):List T→List MapEntry→Prop
 | [],[]=>True
 | t::l,e::es=>(∃k v,t=.agg [k,v]∧kT c k=some e.key)∧EntR c l es
 | _,_=>False
theorem EntR.of:∀{c:Nat} {l:List T} {es:List MapEntry},es.length=l.length→(∀(i:Nat) t e,l[i]?=some t→es[i]?=some e→∃k v,t=.agg [k,v]∧kT c k=some e.key∧CG v e.val)→EntR c l es
 | _,[],[],_,_=>trivial
 | _,[],_::_,h,_=>by simp at h
 | _,_::_,[],h,_=>by simp at h
 | c,t::l,e::es,h,hs=>by
  obtain⟨k,v,h1,h2,_⟩:=hs 0 t e rfl rfl
  exact⟨⟨k,v,h1,h2⟩,EntR.of (by simpa using h) fun i t e a b=>hs (i+1) t e (by simpa using a) (by simpa using b)⟩
theorem D4{d:TypeDesc}{c:Nat}{k:T}{v:Value}(hd:∀{k' v'},kT c k'=some v'→Instr.sameNow d v v'=some (uD k k')):∀(l:List T) (es:List MapEntry) (i:Nat),EntR c l es →
 Instr.findNow d v es i=some ((dF k l).bind fun j=>(es[j]?).map fun e=>(i+j,e.val))
 | [],[],_,_=>rfl
 | [],_::_,_,h=>h.elim
 | _::_,[],_,h=>h.elim
 | t::l,e::es,i,⟨⟨k',u,h1,h2⟩,h3⟩=>by
  subst h1
  simp only[Instr.findNow,hd h2]
  unfold dF
  rw[List.findIdx?_cons]
  have hek:∀u,vD (T.agg [k',u])=k':=fun _=>rfl
  rw[hek]
  cases hb:uD k k' with
  | true=>simp
  | false=>
   simp only[Bool.false_eq_true,if_false]
   rw[D4 hd l es (i+1) h3]
   unfold dF
   cases l.findIdx? (fun t=>uD k (vD t)) with
   | none=>rfl
   | some j=>
    simp only[Option.map_some,Option.bind_some,List.getElem?_cons_succ]
    have:i+1+j=i+(j+1):=by omega
    rw[this]
theorem CO{kt:TypeId}{c:Nat}{k:T}{v:Value}(w:World)(hd:∀{k' v'},kT c k'=some v'→(Op.equal kt v v').run P w=.ok (uD k k') w):∀(l:List T) (es:List MapEntry) (i:Nat),EntR c l es →
 (Instr.findAsking kt v es i).run P w=.ok ((dF k l).bind fun j=>(es[j]?).map fun e=>(i+j,e.val)) w
 | [],[],_,_=>rfl
 | [],_::_,_,h=>h.elim
 | _::_,[],_,h=>h.elim
 | t::l,e::es,i,⟨⟨k',u,h1,h2⟩,h3⟩=>by
  subst h1
  simp only[Instr.findAsking,Sem.run_bind,hd h2,Result.andThen_ok]
  unfold dF
  rw[List.findIdx?_cons]
  have hek:∀u,vD (T.agg [k',u])=k':=fun _=>rfl
  rw[hek]
  cases hb:uD k k' with
  | true=>simp
  | false=>
   simp only[Bool.false_eq_true,if_false]
   rw[CO w hd l es (i+1) h3]
   unfold dF
   cases l.findIdx? (fun t=>uD k (vD t)) with
   | none=>rfl
   | some j=>
    simp only[Option.map_some,Option.bind_some,List.getElem?_cons_succ]
    have:i+1+j=i+(j+1):=by omega
    rw[this]
theorem Ck{kt:TypeId}{c:Nat}{k:T}{v:Value}(hk:sV P kt=some c)(hv:kT c k=some v){l:List T}{es:List MapEntry}(h:EntR c l es)(w:World):
 (Instr.findKey kt v es).run P w=.ok ((dF k l).bind fun j=>(es[j]?).map fun e=>(j,e.val)) w:=by
 unfold sV at hk
 split at hk
 ·rename_i hu
  cases hk
  have hd:∀{k' v'},kT 0 k'=some v'→Instr.sameNow (.int .i64) v v'=some (uD k k'):=fun {k' v'} h'=>by
   rcases dO hv with⟨_,a,rfl,rfl⟩ | ⟨hc,_⟩ | ⟨m,xs,hc,_⟩
   ·rcases dO h' with⟨_,b,rfl,rfl⟩ | ⟨hc,_⟩ | ⟨m,xs,hc,_⟩
    ·simp[Instr.sameNow,uD,KX]
    ·cases hc
    ·cases hc
   ·cases hc
   ·cases hc
  have:=MapKept.run_findKey (w:=w) hu (D4 hd l es 0 h)
  simpa only[Nat.zero_add] using this
 ·rename_i hu
  cases hk
  have hd:∀{k' v'},kT 1 k'=some v'→Instr.sameNow .string v v'=some (uD k k'):=fun {k' v'} h'=>by
   rcases dO hv with⟨hc,_⟩ | ⟨_,a,rfl,rfl⟩ | ⟨m,xs,hc,_⟩
   ·cases hc
   ·rcases dO h' with⟨hc,_⟩ | ⟨_,b,rfl,rfl⟩ | ⟨m,xs,hc,_⟩
    ·cases hc
    ·simp[Instr.sameNow,uD,KX]
    ·omega
   ·omega
  have:=MapKept.run_findKey (w:=w) hu (D4 hd l es 0 h)
  simpa only[Nat.zero_add] using this
 ·rename_i n e hu
  split at hk
  ·rename_i he hsz hag
   cases hk
   have ha:=CO (P:=P) (kt:=kt) (k:=k) (v:=v) w (fun {k' v'} h'=>ZR hu he hsz hag hv h' w) l es 0 h
   simp only[Nat.zero_add] at ha
   have hn:∀es,es≠[]→Instr.findNow (.array n e) v es 0=none:=fun es hes=>by
    cases es with
    | nil=>exact(hes rfl).elim
    | cons x es=>rfl
   cases es with
   | nil=>
    cases l with
    | nil=>exact MapKept.run_findKey (w:=w) hu rfl
    | cons t l=>exact h.elim
   | cons x es=>
    unfold Instr.findKey
    simp only[Sem.run_bind,run_underlying hu,Result.andThen_ok,hn (x::es) (by simp)]
    exact ha
  ·cases hk
 ·cases hk
theorem CP(d:Nat):∀xs:List Int,((xs.map (Value.int .i64)).zip (xs.map (Value.int .i64))).all (fun(x,y)=>Instr.sameBits (d+1) x y)=true
 | []=>rfl
 | x::xs=>by
  have h:=CP d xs
  simp only[List.map_cons,List.zip_cons_cons,List.all_cons,Bool.and_eq_true]
  exact⟨by simp[Instr.sameBits],h⟩
theorem O0{c:Nat}{k:T}{v:Value}(hv:kT c k=some v)(w:World):(Instr.keyThatStays v v).run P w=.ok v w:=by
 have hs:Instr.sameBits 10000 v v=true:=by
  rcases dO hv with⟨_,a,rfl,rfl⟩ | ⟨_,s,rfl,rfl⟩ | ⟨m,xs,_,_,rfl,rfl⟩
  ·simp[Instr.sameBits]
  ·simp[Instr.sameBits,MapKept.bytes_beq]
  ·simp only[Instr.sameBits,beq_self_eq_true,Bool.true_and]
   exact CP 9998 xs
 unfold Instr.keyThatStays
 rw[if_pos hs]
 rfl
end
@[irreducible] def mapGetD(k:T)(l:List T)(z:T):T:=match dF k l with
 | some i=>KY (l.getD i z)
 | none=>z
@[irreducible] def mapHas(k:T)(l:List T):Bool:=(dF k l).isSome
@[irreducible] def kY(k v:T)(l:List T):List T:=match dF k l with
 | some i=>l.set i (.agg [k,v])
 | none=>l++[.agg [k,v]]
@[irreducible] def xL(k z:T)(l:List T):List T:=match dF k l with
 | some _=>l
 | none=>l++[.agg [k,z]]
@[irreducible] def K3(k:T)(l:List T):Int:=((dF k l).getD l.length:Nat)
@[irreducible] def XM(i:Int)(v:T)(l:List T):Option (List T):=if 0≤i then match l[i.toNat]? with
 | some t=>some (l.set i.toNat (.agg [vD t,v]))
 | none=>none else none
def T.one?:T→Option T
 | .agg _=>none
 | t=>some t
def T.parts?(m:Nat):T→Option T
 | .agg l=>if l.length=m then some (.agg l) else none
 | _=>none
section
variable {R:Type} (P:Program)
def v7:List C→(List T→Option R)→Option R
 | [],k=>k []
 | .t x::l,k=>ob (x.int? .i64) fun a=>v7 l fun ts=>k (.v (.int .i64 a)::ts)
 | _::_,_=>none
def vE(c:Nat)(d:D)(k:T→Option R):Option R:=match c with
 | 0=>J5 .i64 d fun a=>k (.v (.int .i64 a))
 | 1=>EX d fun s=>k (.v (.string s))
 | m+2=>match d with
  | .s (.agg cs)=>if cs.length=m then v7 cs fun ts=>k (.agg ts) else none
  | _=>none
def vF(st:St)(n:Nat)(c:C)(k:List T→Option R):Option R:=match c with
 | .t (.sl n' l)=>if n'=n then k l else none
 | .row key=>match st.objs[key]? with
  | some (.mp _ _ n' l)=>if n'=n then k l else none
  | _=>none
 | _=>none
def I3(e:TypeId)(v:T)(k:S1→Option R):Option R:=match nU P e with
 | some false=>ob v.one? fun x=>k (.c (.t x))
 | some true=>match pA P e with
  | some m=>ob (v.parts? m) fun x=>k (.agg ((List.range m).map fun i=>C.t (x.cell i)))
  | none=>none
 | none=>none
def nZ:Value→T
 | .agg cs=>.agg (cs.toList.map .v)
 | v=>.v v
def QF(z:Value):Bool:=z.cells.all fun v=>v.oneCell'
def qJ(st:St)(t:TypeId)(x ix:D)(ok:Bool)(k:D→Option R):Option R:=match P.underlying t with
 | some (.map kt e)=>match sV P kt,P.info? e with
  | some c,some i=>match i.zero with
   | some z=>if QF z=true then mE x fun cx=>vF st (c+1000000000) cx fun l=>vE c ix fun kk=>I3 P e (mapGetD kk l (nZ z)) fun s=>
    if ok=true then k (.tup [s,.c (.t (.v (.bool (mapHas kk l))))]) else k (.s s)
    else none
   | none=>none
  | _,_=>none
 | _=>none
def v8(st:St)(dst:Option Nat)(t:TypeId)(k:St→D→Option R):Option R:=match P.underlying t with
 | some (.map kt _)=>match sV P kt with
  | some c=>f6 st dst (.mp false t (c+1000000000) []) fun st key=>k st (.s (.c (.row key)))
  | none=>none
 | _=>none
def Oj(v:D)(ts:List T):Option T:=match v,ts with
 | .s (.agg _),ts=>some (.agg ts)
 | .s (.c _),[t]=>some t
 | _,_=>none
def xM(st:St)(t:TypeId)(m key v:D)(k:St→Option R):Option R:=match P.underlying t with
 | some (.map kt e)=>match sV P kt with
  | some c=>vE c key fun kk=>match m,xD v with
   | .s (.c (.row mk)),some cs=>match GY st.objs cs with
    | some (objs',cs')=>match objs'[mk]? with
     | some (.mp false t' n l)=>if n=c+1000000000 then fQ P ((P.cellTypes P.depth e).getD []) cs' fun ts=>match Oj v ts with
      | some tv=>k { st with objs:=objs'.set mk (.mp false t' n (kY kk tv l)) }
      | none=>none
      else none
     | _=>none
    | none=>none
   | _,_=>none
  | none=>none
 | _=>none
def mR(st:St)(t:TypeId)(m key:D)(k:St→D→Option R):Option R:=match P.underlying t with
 | some (.map kt e)=>match sV P kt,P.info? e with
  | some c,some i=>match i.zero with
   | some z=>if QF z=true then vE c key fun kk=>match m with
    | .s (.c (.row mk))=>match st.objs[mk]? with
     | some (.mp false t' n l)=>if n=c+1000000000 then I3 P e (mapGetD kk l (nZ z)) fun s=>
      k { st with objs:=st.objs.set mk (.mp false t' n (xL kk (nZ z) l)) } (.tup [s,.c (.t (.v (.int .i64 (K3 kk l))))])
      else none
     | _=>none
    | _=>none
    else none
   | none=>none
  | _,_=>none
 | _=>none
def pR(st:St)(t:TypeId)(m stamp v:D)(k:St→Option R):Option R:=match P.underlying t with
 | some (.map _ e)=>J5 .i64 stamp fun s=>match m,xD v with
  | .s (.c (.row mk)),some cs=>match GY st.objs cs with
   | some (objs',cs')=>match objs'[mk]? with
    | some (.mp false t' n l)=>fQ P ((P.cellTypes P.depth e).getD []) cs' fun ts=>match Oj v ts with
     | some tv=>ob (XM s tv l) fun l'=>k { st with objs:=objs'.set mk (.mp false t' n l') }
     | none=>none
    | _=>none
   | none=>none
  | _,_=>none
 | _=>none
end
section
variable {R:Type} {P:Program} {w0 w w':World} {F Xc X:Nat→Prop} {ρ0:Base} {ρ:fN} {st:St} {a:Act} {r:R}
theorem S2:∀{cs:List C} {ys:List Value} {k:List T→Option R},RdL w X ρ cs ys→v7 cs k=some r→∃ts,zI ts=some ys∧ts.length=cs.length∧k ts=some r
 | [],ys,k,h,hk=>by
  have:ys=[]:=List.eq_nil_of_length_eq_zero h.1
  subst this
  exact⟨[],rfl,rfl,hk⟩
 | c::cs,ys,k,h,hk=>by
  cases ys with
  | nil=>have:=h.1;simp at this
  | cons y ys=>
   cases c with
   | t x=>
    simp only[v7] at hk
    obtain⟨n,hn,hk1⟩:=aC hk
    have h0:=h.2 0 _ y rfl rfl
    have htail:RdL w X ρ cs ys:=⟨by simpa using h.1,fun i c y h1 h2=>h.2 (i+1) c y (by simpa using h1) (by simpa using h2)⟩
    obtain⟨ts,e1,e2,e3⟩:=S2 htail hk1
    have hy:y=.int .i64 n:=by
     rcases h0 with h0 | ⟨h0,_⟩
     ·cases h0
     ·exact P2 h0 hn
    subst hy
    exact⟨_,by simp[zI,e1],by simp[e2],e3⟩
   | _=>simp[v7] at hk
theorem B4{c:Nat}{d:D}{y:Value}{k:T→Option R}(h:RdD w X ρ d y)(hk:vE c d k=some r):∃t,kT c t=some y∧k t=some r:=by
 match c with
 | 0=>
  obtain⟨n,rfl,hk1⟩:=rK h hk
  exact⟨_,rfl,hk1⟩
 | 1=>
  obtain⟨n,rfl,hk1⟩:=pJ h hk
  exact⟨_,rfl,hk1⟩
 | m+2=>
  simp only[vE] at hk
  split at hk
  ·rename_i cs
   split at hk
   ·rename_i hl
    obtain⟨vs,rfl,hl'⟩:=h
    obtain⟨ts,e1,e2,e3⟩:=S2 hl' hk
    exact⟨.agg ts,by simp[kT,e1,e2,hl],e3⟩
   ·cases hk
  ·cases hk
theorem E8{k:T}{l:List T}{i:Nat}(h:dF k l=some i):∃t,l[i]?=some t∧uD k (vD t)=true:=by
 unfold dF at h
 rw[List.findIdx?_eq_some_iff_getElem] at h
 obtain⟨hi,h1,_⟩:=h
 exact⟨l[i],List.getElem?_eq_getElem hi,h1⟩
theorem E9{n c:Nat}{kt:TypeId}{l:List T}{es:Array MapEntry}{kk:T}{kv:Value}(hkd:sV P kt=some c)(hkv:kT c kk=some kv)(hn:n=c+1000000000)(hl:es.size=l.length)
 (hs:∀(i:Nat) t e,l[i]?=some t→es[i]?=some e→∃k v,t=.agg [k,v]∧kT (n-1000000000) k=some e.key∧CG v e.val) (w:World):
 (dF kk l=none∧(Instr.findKey kt kv es.toList).run P w=.ok none w) ∨
 ∃i k v e,dF kk l=some i∧l[i]?=some (.agg [k,v])∧es[i]?=some e∧e.key=kv∧CG v e.val∧(Instr.findKey kt kv es.toList).run P w=.ok (some (i,e.val)) w:=by
 have hc:n-1000000000=c:=by omega
 rw[hc] at hs
 have hr:EntR c l es.toList:=EntR.of (by simpa using hl) fun i t e h1 h2=>hs i t e h1 (by simpa using h2)
 have hf:=Ck hkd hkv hr w
 cases hm:dF kk l with
 | none=>rw[hm] at hf;exact .inl ⟨rfl,hf⟩
 | some i=>
  obtain⟨t,h1,h2⟩:=E8 hm
  have hlt:i<es.size:=by rw[hl];exact(List.getElem?_eq_some_iff.1 h1).1
  have he:es[i]?=some es[i]:=Array.getElem?_eq_getElem hlt
  obtain⟨k,v,rfl,hk,ho⟩:=hs i t _ h1 he
  rw[hm] at hf
  have:es.toList[i]?=some es[i]:=by simp
  simp only[Option.bind_some,this,Option.map_some] at hf
  refine .inr ⟨i,k,v,es[i],rfl,h1,he,?_,ho,hf⟩
  exact((E6 hkv hk).1 h2).symm
theorem K4{z:Value}(hz:QF z=true):Rd w X (nZ z) z∧CG (nZ z) z:=by
 unfold QF at hz
 unfold nZ
 split
 ·rename_i cs
  have h1:∀v∈cs.toList,v.oneCell'=true:=fun v hv=>by
   have:=Array.all_eq_true_iff_forall_mem.1 hz v (by simpa[Value.cells] using hv)
   exact this
  refine⟨.agg _ cs (by simp) (fun i y hi=>h1 y (by rw[←Array.getElem?_toList] at hi;exact List.mem_of_getElem? hi)) fun i t y e1 e2=>?_,.inl ⟨_,rfl⟩⟩
  rw[List.getElem?_map,Array.getElem?_toList,e2] at e1
  cases e1
  exact .v y
 ·rename_i hn
  refine⟨.v _,.inr ?_⟩
  cases z with
  | agg cs=>exact(hn cs rfl).elim
  | _=>simpa[Value.cells] using hz
theorem FA{e:TypeId}{v:T}{y:Value}{k:S1→Option R}(h:Rd w X v y)(h1:CG v y)(hk:I3 P e v k=some r):∃s,RdS w X ρ s y∧k s=some r:=by
 unfold I3 at hk
 split at hk
 ·obtain⟨x,hx,hk1⟩:=aC hk
  refine⟨_,?_,hk1⟩
  unfold T.one? at hx
  split at hx
  ·cases hx
  ·rename_i hn
   cases hx
   rcases h1 with⟨l,hl⟩ | h1
   ·exact(hn l hl).elim
   ·exact .inr ⟨h,h1⟩
 ·split at hk
  ·rename_i m hm
   obtain⟨x,hx,hk1⟩:=aC hk
   refine⟨_,?_,hk1⟩
   unfold T.parts? at hx
   split at hx
   ·rename_i l
    split at hx
    ·rename_i hl
     cases hx
     cases h with
     | agg _ cs hlen hone hr=>
      refine⟨cs,rfl,by simp[hlen,hl],fun i c y e1 e2=>?_⟩
      rw[List.getElem?_map] at e1
      rw[Array.getElem?_toList] at e2
      have hlt:i<l.length:=by rw[←hlen];exact(Array.getElem?_eq_some_iff.1 e2).1
      rw[List.getElem?_range (by omega)] at e1
      simp only[Option.map_some,Option.some.injEq] at e1
      subst e1
      have hli:l[i]?=some l[i]:=List.getElem?_eq_getElem hlt
      refine .inr ⟨?_,hone i y e2⟩
      have:=hr i _ y hli e2
      simpa[RdC,T.cell,T.cells,List.getD_eq_getElem?_getD,hli] using this
    ·cases hx
   ·cases hx
  ·cases hk
 ·cases hk
theorem ZS{n:Nat}(hn:1000000000≤n){c:C}{y:Value}{k:List T→Option R}(h:Rel w0 F Xc ρ0 ρ st a w)(hc:RdC1 w (XB st.objs ρ Xc) ρ c y)(hk:vF st n c k=some r):
 ∃l g es clock,k l=some r∧y=.map (some g)∧w.heap[g]?=some (.map es clock)∧es.size=l.length ∧
  (∀(i:Nat) t e,l[i]?=some t→es[i]?=some e→∃k v,t=.agg [k,v]∧kT (n-1000000000) k=some e.key∧CG v e.val) ∧
  ∀(i:Nat) k v e,l[i]?=some (.agg [k,v])→es[i]?=some e→Rd w (XB st.objs ρ Xc) v e.val:=by
 unfold vF at hk
 split at hk
 ·rename_i n' l
  split at hk
  ·rename_i hnn
   subst hnn
   rcases hc with hc | ⟨hc,_⟩
   ·cases hc
   ·have hc':Rd w (XB st.objs ρ Xc) (.sl n' l) y:=hc
    cases hc' with
    | mp _ _ g es clock _ hg hx hl hs _ hv=>exact⟨l,g,es,clock,hk,rfl,hg,hl,hs,hv⟩
    | nil=>omega
    | sl=>omega
  ·cases hk
 ·rename_i key
  split at hk
  ·rename_i fz e n' l hob
   split at hk
   ·rename_i hnn
    subst hnn
    rcases hc with hc | ⟨hc,_⟩
    ·cases hc
    ·obtain⟨hv,e1,e2⟩:=h.objs key _ hob
     have hcc:ρ key=some y:=hc
     rw[hcc] at e1
     cases e1
     obtain⟨_,g,es,clock,rfl,hg,⟨q1,q2,q3,_⟩,_⟩:=e2
     exact⟨l,g,es,clock,hk,rfl,hg,q1,q2,q3⟩
   ·cases hk
  ·cases hk
 ·cases hk
theorem VF{t:TypeId}{x ix:D}{vx vi:Value}{ok:Bool}{k:D→Option R}(h:Rel w0 F Xc ρ0 ρ st a w)(hx:RdD w (XB st.objs ρ Xc) ρ x vx)(hi:RdD w (XB st.objs ρ Xc) ρ ix vi)(hk:qJ P st t x ix ok k=some r):
 ∃y d,(Instr.lookup t vx vi ok).run P w=.ok y w∧RdD w (XB st.objs ρ Xc) ρ d y∧k d=some r:=by
 unfold qJ at hk
 split at hk
 case h_2=>cases hk
 rename_i kt e hu
 split at hk
 case h_2=>cases hk
 rename_i c i hc hi0
 split at hk
 case h_2=>cases hk
 rename_i z hz
 split at hk
 case isFalse=>cases hk
 rename_i hzok
 obtain⟨cx,rfl,hcx,hk1⟩:=jJ hx hk
 obtain⟨l,g,es,clock,hk2,rfl,hg,hl,hs,hv⟩:=ZS (by omega) h hcx hk1
 obtain⟨kk,hkk,hk3⟩:=B4 hi hk2
 have hzr:=d3 (P:=P) hi0 hz w
 have hch:=fun em=>B3 hc hkk em w
 have fin:∀(v:T) (y:Value) (b:Bool),Rd w (XB st.objs ρ Xc) v y→CG v y→(Instr.lookup t (.map (some g)) vi ok).run P w=.ok (if ok=true then .tuple #[y,.bool b] else y) w →
  (I3 P e v fun s=>if ok=true then k (.tup [s,.c (.t (.v (.bool b)))]) else k (.s s))=some r→∃y d,(Instr.lookup t (.map (some g)) vi ok).run P w=.ok y w∧RdD w (XB st.objs ρ Xc) ρ d y∧k d=some r:=by
  intro v y b hr h1 hrun hval
  obtain⟨s,hs1,hk4⟩:=FA (ρ:=ρ) hr h1 hval
  cases ok with
  | true=>
   simp only[if_true] at hk4 hrun
   refine⟨_,.tup [s,.c (.t (.v (.bool b)))],hrun,⟨_,rfl,rfl,fun j s' y' e1 e2=>?_⟩,hk4⟩
   match j,e1,e2 with
   | 0,e1,e2=>simp at e1 e2;subst e1;subst e2;exact hs1
   | 1,e1,e2=>simp at e1 e2;subst e1;subst e2;exact .inr ⟨.v _,rfl⟩
   | j+2,e1,e2=>simp at e1
  | false=>
   simp only[Bool.false_eq_true,if_false] at hk4 hrun
   exact⟨_,.s s,hrun,hs1,hk4⟩
 rcases E9 hc hkk rfl hl hs w with⟨h1,h2⟩ | ⟨j,kj,vj,ej,h1,h2,h3,h4,h5,h6⟩
 ·have e1:mapGetD kk l (nZ z)=nZ z:=by unfold mapGetD;rw[h1]
  have e2:mapHas kk l=false:=by unfold mapHas;rw[h1];rfl
  rw[e1,e2] at hk3
  obtain⟨z1,z2⟩:=K4 (w:=w) (X:=XB st.objs ρ Xc) hzok
  refine fin _ z false z1 z2 ?_ hk3
  unfold Instr.lookup
  simp only[Sem.run_bind,run_underlying hu,Result.andThen_ok,MapKept.run_getObj_map hg,Sem.run_pure,hch,h2,hzr]
 ·have e1:mapGetD kk l (nZ z)=vj:=by unfold mapGetD;rw[h1];simp[List.getD_eq_getElem?_getD,h2,KY]
  have e2:mapHas kk l=true:=by unfold mapHas;rw[h1];rfl
  rw[e1,e2] at hk3
  refine fin _ ej.val true (hv j kj vj ej h2 h3) h5 ?_ hk3
  unfold Instr.lookup
  simp only[Sem.run_bind,run_underlying hu,Result.andThen_ok,MapKept.run_getObj_map hg,Sem.run_pure,hch,h6]
theorem S3{dst:Option Nat}{t:TypeId}{k:St→D→Option R}(h:Rel w0 F Xc ρ0 ρ st a w)(hk:v8 P st dst t k=some r):
 ∃y w' ρ' st' d,(Instr.makeMap t none).run P w=.ok y w'∧Rel w0 F Xc ρ0 ρ' st' a w'∧RdD w' (XB st'.objs ρ' Xc) ρ' d y∧k st' d=some r:=by
 unfold v8 at hk
 split at hk
 case h_2=>cases hk
 rename_i kt e hu
 split at hk
 case h_2=>cases hk
 rename_i c hc
 obtain⟨d,_,hf,hk1⟩:=r8 hk
 refine⟨_,_,_,_,_,run_makeMap t w,h.new (hv:=.map (some w.heap.size)) (o:=.mp false t (c+1000000000) []) hf (Stp.alloc (fun _=>False) w (.map #[] 0)) (fun b hb=>by simp only[blk,Option.some.injEq] at hb;omega)
  (fun X' hX=>⟨by omega,w.heap.size,#[],0,rfl,heap_alloc_new w _,⟨rfl,fun i t e h1 _=>by simp at h1,fun i k v e h1 _=>by simp at h1,rfl,fun i e h1=>by simp at h1⟩,fun hz=>by cases hz⟩) (Nat.le_add_right _ _) (by simp),
  .one (c:=.row (st.np+d)) (by simp[RdC,upd]) rfl,hk1⟩
def setMap(w:World)(g:Nat)(es:Array MapEntry)(clock:Nat):World:={ w with heap:=w.heap.setIfInBounds g (.map es clock) }
theorem mX(w:World)(g:Nat)(es:Array MapEntry)(clock:Nat):Stp (fun b=>b=g) w (setMap w g es clock):=
 ⟨rfl,rfl,rfl,by simp[setMap],fun b _ hb=>by simp[setMap,Ne.symm hb]⟩
theorem Rel.setMap{key g n clock clock':Nat}{t:TypeId}{l l':List T}{es es':Array MapEntry}(h:Rel w0 F Xc ρ0 ρ st a w)(ho:st.objs[key]?=some (.mp false t n l))(hh:ρ key=some (.map (some g)))(hn:1000000000≤n)
 (hg:w.heap[g]?=some (.map es clock)) (hent:EntL w (XB st.objs ρ Xc) n l' es' clock'):Rel w0 F Xc ρ0 ρ { st with objs:=st.objs.set key (.mp false t n l') } a (setMap w g es' clock'):=by
 have hlt:key<st.objs.length:=(List.getElem?_eq_some_iff.1 ho).1
 have hHas:Has st.objs ρ key g:=⟨_,_,ho,rfl,hh,.inl rfl⟩
 refine h.change _ ρ (·=key) (mX w g es' clock') (fun jj hj=>⟨by rw[List.getElem?_set_ne (fun e=>hj e.symm)],rfl⟩) (.refl _) (fun b hb=>⟨key,rfl,hb▸hHas⟩)
  (fun jj b hj hb=>?_) (fun jj j' b hj hj' _ _=>hj.trans hj'.symm) (fun hX jj o' hj ho'=>?_) (fun _ _=>rfl)
 ·subst hj
  obtain⟨o',v,_,_,q3,q4⟩:=hb
  rw[hh] at q3
  cases q3
  have q5:=q4.one rfl
  cases q5
  exact .inl ⟨_,rfl,hHas⟩
 ·subst hj
  rw[List.getElem?_set_self hlt] at ho'
  cases ho'
  refine⟨_,hh,hn,g,es',clock',rfl,?_,hent.step (mX w g es' clock') (fun b hb=>.inl ⟨_,hb▸hHas⟩) hX,fun hz=>by cases hz⟩
  have hgl:g<w.heap.size:=(Array.getElem?_eq_some_iff.1 hg).1
  simp[Eng.setMap,hgl]
theorem Cl{X0:Nat→Prop}{v:D}{y:Value}{cs cs':List C}{ts:List T}{tv:T}(hv:RdD w X0 ρ v y)(hcs:xD v=some cs)(hlen:cs'.length=cs.length)(hr:RdT w X ts y.cells.toList)(hna:∀t∈ts,∀l,t≠.agg l)(hm:Oj v ts=some tv):Rd w X tv y∧CG tv y:=by
 unfold Oj at hm
 split at hm
 ·rename_i cl
  cases hm
  obtain⟨vs,rfl,hl⟩:=hv
  refine⟨.agg _ vs (by have:=hr.1;simpa[Value.cells] using this) (fun i z hi=>?_) fun i t z e1 e2=>?_,.inl ⟨_,rfl⟩⟩
  ·have hlt:i<ts.length:=by have:=hr.1;simp only[Value.cells,Array.length_toList] at this;rw[←this];exact(Array.getElem?_eq_some_iff.1 hi).1
   exact(hr.2 i _ z (List.getElem?_eq_getElem hlt) (by simpa[Value.cells] using hi)).2
  ·exact(hr.2 i t z e1 (by simpa[Value.cells] using e2)).1
 ·rename_i c t
  cases hm
  rcases hv with hv | ⟨_,h1⟩
  ·subst hv;simp[xD] at hcs
  ·rw[OS h1] at hr
   have:=hr.2 0 _ y rfl rfl
   exact⟨this.1,.inr h1⟩
 ·cases hm
theorem QG{n c clock:Nat}{l:List T}{es:Array MapEntry}{kk tv:T}{kv y:Value}(he:EntL w X n l es clock)(hn:n=c+1000000000)(hkk:kT c kk=some kv)(hr:Rd w X tv y)(h1:CG tv y):
 (dF kk l=none→EntL w X n (kY kk tv l) (es.push ⟨kv,y,clock⟩) (clock+1)) ∧
 ∀i,dF kk l=some i→EntL w X n (kY kk tv l) (es.modify i fun e=>{ e with key:=kv,val:=y }) clock:=by
 have hc:n-1000000000=c:=by omega
 obtain⟨q1,q2,q3,q4,q5⟩:=he
 refine⟨fun hm=>?_,fun i hm=>?_⟩
 ·have hp:kY kk tv l=l++[.agg [kk,tv]]:=by unfold kY;rw[hm]
  rw[hp]
  refine⟨by simp[q1],fun i t e e1 e2=>?_,fun i k v e e1 e2=>?_,by simp[q4],fun i e e2=>?_⟩
  ·rw[List.getElem?_append] at e1
   rw[Array.getElem?_push] at e2
   split at e1
   ·rename_i hlt
    rw[if_neg (by omega)] at e2
    exact q2 i t e e1 e2
   ·rename_i hge
    have hi:i=l.length:=by
     have:=(List.getElem?_eq_some_iff.1 e1).1
     simp at this;omega
    subst hi
    rw[if_pos q1.symm] at e2
    cases e2
    simp at e1
    subst e1
    exact⟨kk,tv,rfl,by rw[hc];exact hkk,h1⟩
  ·rw[List.getElem?_append] at e1
   rw[Array.getElem?_push] at e2
   split at e1
   ·rename_i hlt
    rw[if_neg (by omega)] at e2
    exact q3 i k v e e1 e2
   ·have hi:i=l.length:=by
     have:=(List.getElem?_eq_some_iff.1 e1).1
     simp at this;omega
    subst hi
    rw[if_pos q1.symm] at e2
    cases e2
    simp at e1
    obtain⟨rfl,rfl⟩:=e1
    exact hr
  ·rw[Array.getElem?_push] at e2
   split at e2
   ·rename_i hi
    cases e2
    show clock=i
    omega
   ·exact q5 i e e2
 ·obtain⟨t,g1,_⟩:=E8 hm
  have hil:i<l.length:=(List.getElem?_eq_some_iff.1 g1).1
  have hp:kY kk tv l=l.set i (.agg [kk,tv]):=by unfold kY;rw[hm]
  rw[hp]
  refine⟨by simp[q1],fun j t e e1 e2=>?_,fun j k v e e1 e2=>?_,by simp[q4],fun j e e2=>?_⟩
  ·rw[List.getElem?_set] at e1
   rw[Array.getElem?_modify] at e2
   split at e1
   ·rename_i hij
    subst hij
    rw[if_pos rfl] at e2
    cases e1
    obtain⟨e0,g2,rfl⟩:=Option.map_eq_some_iff.1 e2
    exact⟨kk,tv,rfl,by rw[hc];exact hkk,h1⟩
   ·rename_i hij
    rw[if_neg hij] at e2
    exact q2 j t e e1 e2
  ·rw[List.getElem?_set] at e1
   rw[Array.getElem?_modify] at e2
   split at e1
   ·rename_i hij
    subst hij
    rw[if_pos rfl] at e2
    cases e1
    obtain⟨e0,g2,rfl⟩:=Option.map_eq_some_iff.1 e2
    exact hr
   ·rename_i hij
    rw[if_neg hij] at e2
    exact q3 j k v e e1 e2
  ·rw[Array.getElem?_modify] at e2
   split at e2
   ·rename_i hij
    subst hij
    obtain⟨e0,g2,rfl⟩:=Option.map_eq_some_iff.1 e2
    exact q5 _ e0 g2
   ·exact q5 j e e2
end
section
variable {R:Type} {P:Program} {w0 w w':World} {F Xc X:Nat→Prop} {ρ0:Base} {ρ:fN} {st:St} {a:Act} {r:R}
theorem qK{t kt e:TypeId}{n c g clock:Nat}{l:List T}{es:Array MapEntry}{kk:T}{kv:Value}(hu:P.underlying t=some (.map kt e))(hc:sV P kt=some c)(hkk:kT c kk=some kv)(hn:n=c+1000000000)
 (hg:w.heap[g]?=some (.map es clock)) (hl:es.size=l.length) (hs:∀(i:Nat) t e,l[i]?=some t→es[i]?=some e→∃k v,t=.agg [k,v]∧kT (n-1000000000) k=some e.key∧CG v e.val) (y:Value):
 (dF kk l=none∧(Instr.mapUpdate t (.map (some g)) kv y).run P w=.ok () (setMap w g (es.push ⟨kv,y,clock⟩) (clock+1))) ∨
 ∃i,dF kk l=some i∧(Instr.mapUpdate t (.map (some g)) kv y).run P w=.ok () (setMap w g (es.modify i fun e=>{ e with key:=kv,val:=y }) clock):=by
 have hch:=fun em=>B3 hc hkk em w
 rcases E9 hc hkk hn hl hs w with⟨h1,h2⟩ | ⟨j,kj,vj,ej,h1,h2,h3,h4,h5,h6⟩
 ·refine .inl ⟨h1,?_⟩
  unfold Instr.mapUpdate
  simp only[Sem.run_bind,run_underlying hu,Result.andThen_ok,MapKept.run_getObj_map hg,hch,h2,MapKept.run_setObj_map _ hg]
  rfl
 ·refine .inr ⟨j,h1,?_⟩
  have hst:=O0 (P:=P) hkk w
  unfold Instr.mapUpdate
  simp only[Sem.run_bind,run_underlying hu,Result.andThen_ok,MapKept.run_getObj_map hg,hch,h6,h3,Option.map_some,Option.getD_some,h4,hst,MapKept.run_setObj_map _ hg]
  rfl
theorem VG{t:TypeId}{m key v:D}{vm vk vv:Value}{k:St→Option R}(h:Rel w0 F Xc ρ0 ρ st a w)(hm:RdD w (XB st.objs ρ Xc) ρ m vm)(hkey:RdD w (XB st.objs ρ Xc) ρ key vk)(hv:RdD w (XB st.objs ρ Xc) ρ v vv)
 (hk:xM P st t m key v k=some r):∃st' w',(Instr.mapUpdate t vm vk vv).run P w=.ok () w'∧Rel w0 F Xc ρ0 ρ st' a w'∧k st'=some r:=by
 unfold xM at hk
 split at hk
 case h_2=>cases hk
 rename_i kt e hu
 split at hk
 case h_2=>cases hk
 rename_i c hc
 obtain⟨kk,hkk,hk1⟩:=B4 hkey hk
 clear hk
 split at hk1
 case h_2=>cases hk1
 rename_i mk cs hcs
 split at hk1
 case h_2=>cases hk1
 rename_i objs' cs' hfq
 obtain⟨hR,hl⟩:=EZ h (pK hv hcs) hfq
 split at hk1
 case h_2=>cases hk1
 rename_i t' n l hob
 split at hk1
 case isFalse=>cases hk1
 rename_i hn
 obtain⟨ts,hk2,t1,t2,t3⟩:=pM hl hk1
 split at hk2
 case h_2=>cases hk2
 rename_i tv htv
 have hlen:cs'.length=cs.length:=by
  have q1:=hl.1
  have q2:=(pK hv hcs).1
  omega
 obtain⟨r1,r2⟩:=Cl hv hcs hlen t2 t3 htv
 rcases hm with hm | ⟨hm,_⟩
 ·cases hm
 have hmm:ρ mk=some vm:=hm
 obtain⟨vm',e1,h0,g,es,clock,rfl,hg,he,_⟩:=hR.objs mk _ hob
 rw[hmm] at e1
 cases e1
 obtain⟨p1,p2⟩:=QG (kk:=kk) (tv:=tv) (kv:=vk) (y:=vv) he hn hkk r1 r2
 rcases qK hu hc hkk hn hg he.1 he.2.1 vv with⟨q1,q2⟩ | ⟨i,q1,q2⟩
 ·exact⟨_,_,q2,hR.setMap hob hmm h0 hg (p1 q1),hk2⟩
 ·exact⟨_,_,q2,hR.setMap hob hmm h0 hg (p2 i q1),hk2⟩
theorem Cm{n clock:Nat}{l:List T}{es es':Array MapEntry}(he:EntL w X n l es clock)(h:∀i:Nat,es'[i]?=es[i]?)(hs:es'.size=es.size):EntL w X n l es' clock:=
 ⟨by rw[hs];exact he.1,fun i t e a b=>he.2.1 i t e a (by rw[←h];exact b),fun i k v e a b=>he.2.2.1 i k v e a (by rw[←h];exact b),by rw[hs];exact he.2.2.2.1,fun i e b=>he.2.2.2.2 i e (by rw[←h];exact b)⟩
theorem VH{t:TypeId}{m key:D}{vm vk:Value}{k:St→D→Option R}(h:Rel w0 F Xc ρ0 ρ st a w)(hm:RdD w (XB st.objs ρ Xc) ρ m vm)(hkey:RdD w (XB st.objs ρ Xc) ρ key vk)
 (hk:mR P st t m key k=some r):∃y st' w' d,(Instr.mapEntry t vm vk).run P w=.ok y w'∧Rel w0 F Xc ρ0 ρ st' a w'∧RdD w' (XB st'.objs ρ Xc) ρ d y∧k st' d=some r:=by
 unfold mR at hk
 split at hk
 case h_2=>cases hk
 rename_i kt e hu
 split at hk
 case h_2=>cases hk
 rename_i c i hc hi0
 split at hk
 case h_2=>cases hk
 rename_i z hz
 split at hk
 case isFalse=>cases hk
 rename_i hzok
 obtain⟨kk,hkk,hk1⟩:=B4 hkey hk
 clear hk
 split at hk1
 case h_2=>cases hk1
 rename_i mk
 split at hk1
 case h_2=>cases hk1
 rename_i t' n l hob
 split at hk1
 case isFalse=>cases hk1
 rename_i hn
 rcases hm with hm | ⟨hm,_⟩
 ·cases hm
 have hmm:ρ mk=some vm:=hm
 obtain⟨vm',e1,h0,g,es,clock,rfl,hg,he,_⟩:=h.objs mk _ hob
 rw[hmm] at e1
 cases e1
 have hch:=fun em=>B3 hc hkk em w
 have hzr:=d3 (P:=P) hi0 hz w
 obtain⟨z1,z2⟩:=K4 (w:=w) (X:=XB st.objs ρ Xc) hzok
 have hout:∀(s:S1) (y:Value) (b:Int) (st':St) (w':World),RdS w' (XB st'.objs ρ Xc) ρ s y→RdD w' (XB st'.objs ρ Xc) ρ (.tup [s,.c (.t (.v (.int .i64 b)))]) (.tuple #[y,goInt b]):=fun s y b st' w' hs=>⟨_,rfl,rfl,fun j s' y' e1 e2=>by
  match j,e1,e2 with
  | 0,e1,e2=>simp at e1 e2;subst e1;subst e2;exact hs
  | 1,e1,e2=>simp at e1 e2;subst e1;subst e2;exact .inr ⟨.v _,rfl⟩
  | j+2,e1,e2=>simp at e1⟩
 rcases E9 hc hkk hn he.1 he.2.1 w with⟨h1,h2⟩ | ⟨j,kj,vj,ej,h1,h2,h3,h4,h5,h6⟩
 ·have e1:mapGetD kk l (nZ z)=nZ z:=by unfold mapGetD;rw[h1]
  have e2:K3 kk l=(l.length:Int):=by unfold K3;rw[h1];rfl
  have e3:xL kk (nZ z) l=kY kk (nZ z) l:=by unfold xL kY;rw[h1]
  rw[e1,e2,e3] at hk1
  obtain⟨p1,_⟩:=QG (kk:=kk) (tv:=nZ z) (kv:=vk) (y:=z) he hn hkk z1 z2
  have hR:=h.setMap hob hmm h0 hg (p1 h1)
  obtain⟨z1',_⟩:=K4 (w:=setMap w g (es.push ⟨vk,z,clock⟩) (clock+1)) (X:=XB (st.objs.set mk (.mp false t' n (kY kk (nZ z) l))) ρ Xc) hzok
  obtain⟨s,hs1,hk2⟩:=FA (ρ:=ρ) z1' z2 hk1
  refine⟨_,_,_,_,?_,hR,hout s z l.length _ _ hs1,hk2⟩
  have hcl:clock=l.length:=by rw[he.2.2.2.1,he.1]
  unfold Instr.mapEntry
  simp only[Sem.run_bind,run_underlying hu,Result.andThen_ok,MapKept.run_getObj_map hg,hch,h2,hzr,MapKept.run_setObj_map _ hg]
  rw[hcl]
  rfl
 ·have e1:mapGetD kk l (nZ z)=vj:=by unfold mapGetD;rw[h1];simp[List.getD_eq_getElem?_getD,h2,KY]
  have e2:K3 kk l=(j:Int):=by unfold K3;rw[h1];rfl
  have e3:xL kk (nZ z) l=l:=by unfold xL;rw[h1]
  rw[e1,e2,e3] at hk1
  have hst:=O0 (P:=P) hkk w
  have hjl:j<es.size:=(Array.getElem?_eq_some_iff.1 h3).1
  have hsame:∀i:Nat,(es.modify j fun e=>{ e with key:=vk })[i]?=es[i]?:=fun i=>by
   rw[Array.getElem?_modify]
   split
   ·rename_i hij
    subst hij
    rw[h3]
    simp only[Option.map_some]
    congr 1
    cases ej
    simp only at h4
    rw[h4]
   ·rfl
  have hE:=Cm he hsame (by simp)
  have hR:=h.setMap hob hmm h0 hg hE
  have hval:=he.2.2.1 j kj vj ej h2 h3
  have hHas:Has st.objs ρ mk g:=⟨_,_,hob,rfl,hmm,.inl rfl⟩
  have hlt:mk<st.objs.length:=(List.getElem?_eq_some_iff.1 hob).1
  have hXX:∀b,XB (st.objs.set mk (.mp false t' n l)) ρ Xc b→XB st.objs ρ Xc b:=fun b hb=>by
   rcases hb with⟨q,o,v,g1,g2,g3,g4⟩ | hb
   ·by_cases hq:mk=q
    ·subst hq
     rw[List.getElem?_set_self hlt] at g1
     cases g1
     exact .inl ⟨_,_,v,hob,g2,g3,g4⟩
    ·rw[List.getElem?_set_ne hq] at g1
     exact .inl ⟨q,o,v,g1,g2,g3,g4⟩
   ·exact .inr hb
  have hval':Rd (setMap w g (es.modify j fun e=>{ e with key:=vk }) clock) (XB (st.objs.set mk (.mp false t' n l)) ρ Xc) vj ej.val:=
   hval.step (mX w g _ _) (fun b hb=>.inl ⟨_,hb▸hHas⟩) (fun b hb=>.inl (hXX b hb))
  obtain⟨s,hs1,hk2⟩:=FA (ρ:=ρ) hval' h5 hk1
  refine⟨_,_,_,_,?_,hR,hout s ej.val j _ _ hs1,hk2⟩
  have hb:ej.born=j:=he.2.2.2.2 j ej h3
  unfold Instr.mapEntry
  simp only[Sem.run_bind,run_underlying hu,Result.andThen_ok,MapKept.run_getObj_map hg,hch,h6,h3,Option.map_some,Option.getD_some,h4,hst,hb,MapKept.run_setObj_map _ hg]
  rfl
theorem Cn{n clock i:Nat}{l:List T}{es:Array MapEntry}{t tv:T}{y:Value}(he:EntL w X n l es clock)(hi:l[i]?=some t)(hr:Rd w X tv y)(h1:CG tv y):EntL w X n (l.set i (.agg [vD t,tv])) (es.modify i fun e=>{ e with val:=y }) clock:=by
 obtain⟨q1,q2,q3,q4,q5⟩:=he
 have hil:i<l.length:=(List.getElem?_eq_some_iff.1 hi).1
 refine⟨by simp[q1],fun j u e e1 e2=>?_,fun j k v e e1 e2=>?_,by simp[q4],fun j e e2=>?_⟩
 ·rw[List.getElem?_set] at e1
  rw[Array.getElem?_modify] at e2
  split at e1
  ·rename_i hij
   subst hij
   rw[if_pos rfl] at e2
   cases e1
   obtain⟨e0,g2,rfl⟩:=Option.map_eq_some_iff.1 e2
   obtain⟨k,v,rfl,a2,_⟩:=q2 i t e0 hi g2
   exact⟨k,tv,rfl,a2,h1⟩
  ·rename_i hij
   rw[if_neg hij] at e2
   exact q2 j u e e1 e2
 ·rw[List.getElem?_set] at e1
  rw[Array.getElem?_modify] at e2
  split at e1
  ·rename_i hij
   subst hij
   rw[if_pos rfl] at e2
   cases e1
   obtain⟨e0,g2,rfl⟩:=Option.map_eq_some_iff.1 e2
   exact hr
  ·rename_i hij
   rw[if_neg hij] at e2
   exact q3 j k v e e1 e2
 ·rw[Array.getElem?_modify] at e2
  split at e2
  ·rename_i hij
   subst hij
   obtain⟨e0,g2,rfl⟩:=Option.map_eq_some_iff.1 e2
   exact q5 _ e0 g2
  ·exact q5 j e e2
theorem QH{t:TypeId}{m stamp v:D}{vm vs vv:Value}{k:St→Option R}(h:Rel w0 F Xc ρ0 ρ st a w)(hm:RdD w (XB st.objs ρ Xc) ρ m vm)(hst:RdD w (XB st.objs ρ Xc) ρ stamp vs)(hv:RdD w (XB st.objs ρ Xc) ρ v vv)
 (hk:pR P st t m stamp v k=some r):∃st' w',(Instr.entryStore t vm vs vv).run P w=.ok () w'∧Rel w0 F Xc ρ0 ρ st' a w'∧k st'=some r:=by
 unfold pR at hk
 split at hk
 case h_2=>cases hk
 rename_i kt e hu
 obtain⟨s,rfl,hk1⟩:=rK hst hk
 clear hk
 split at hk1
 case h_2=>cases hk1
 rename_i mk cs hcs
 split at hk1
 case h_2=>cases hk1
 rename_i objs' cs' hfq
 obtain⟨hR,hl⟩:=EZ h (pK hv hcs) hfq
 split at hk1
 case h_2=>cases hk1
 rename_i t' n l hob
 obtain⟨ts,hk2,t1,t2,t3⟩:=pM hl hk1
 split at hk2
 case h_2=>cases hk2
 rename_i tv htv
 obtain⟨l',hl',hk3⟩:=aC hk2
 have hlen:cs'.length=cs.length:=by
  have q1:=hl.1
  have q2:=(pK hv hcs).1
  omega
 obtain⟨r1,r2⟩:=Cl hv hcs hlen t2 t3 htv
 rcases hm with hm | ⟨hm,_⟩
 ·cases hm
 have hmm:ρ mk=some vm:=hm
 obtain⟨vm',e1,h0,g,es,clock,rfl,hg,he,_⟩:=hR.objs mk _ hob
 rw[hmm] at e1
 cases e1
 unfold XM at hl'
 split at hl'
 case isFalse=>cases hl'
 rename_i hs0
 split at hl'
 case h_2=>cases hl'
 rename_i tt htt
 cases hl'
 have hE:=Cn he htt r1 r2
 refine⟨_,_,?_,hR.setMap hob hmm h0 hg hE,hk3⟩
 have hil:s.toNat<es.size:=by rw[he.1];exact(List.getElem?_eq_some_iff.1 htt).1
 have hfind:es.findIdx? (fun e=>(e.born:Int)==s)=some s.toNat:=by
  rw[Array.findIdx?_eq_some_iff_getElem]
  have hb:∀(j:Nat) (hj:j<es.size),es[j].born=j:=fun j hj=>he.2.2.2.2 j _ (Array.getElem?_eq_getElem hj)
  refine⟨hil,?_,fun j hj=>?_⟩
  ·rw[hb _ hil];simp;omega
  ·rw[hb j (by omega)];simp;omega
 have hai:(asInt (.int .i64 s)).run P w=.ok s w:=rfl
 unfold Instr.entryStore
 simp only[Sem.run_bind,MapKept.run_getObj_map hg,Result.andThen_ok,hai,hfind,MapKept.run_setObj_map _ hg]
 rfl
end
@[irreducible] def IC(k:T)(l:List (List T)):Option Nat:=l.findIdx? fun m=>uD k (m.headD (.agg []))
@[irreducible] def Co(k:T)(l:List (List T)):Bool:=(IC k l).isSome
@[irreducible] def Cp{α:Type}(x:Option α):Option Unit:=match x with
 | none=>some ()
 | some _=>none
theorem VI{α:Type}{x:Option α}{u:Unit}(h:Cp x=some u):x=none:=by
 unfold Cp at h
 split at h
 ·rfl
 ·cases h
section
variable {R:Type} (P:Program)
def XN(st:St)(t:TypeId)(key:Nat)(ix:D)(ok:Bool)(k:D→Option R):Option R:=match P.underlying t with
 | some (.map kt e)=>match sV P kt,P.info? e with
  | some c,some i=>match i.zero with
   | some (.slice none 0 0)=>match rL st.objs 64 key with
    | some K=>match st.objs[K]? with
     | some (.rr none e1 _ _ l)=>if e1=c+1000000000∧ok=false then vE c ix fun kk=>
      bif Co kk l then ob (IC kk l) fun j=>k (.s (.c (.inn K j))) else k (.s (.c (.t (.v (.slice none 0 0)))))
      else none
     | _=>none
    | none=>none
   | _=>none
  | _,_=>none
 | _=>none
def n3(st:St)(t:TypeId)(x ix:D)(ok:Bool)(k:D→Option R):Option R:=match x with
 | .s (.c (.rk key))=>XN P st t key ix ok k
 | _=>qJ P st t x ix ok k
def FC(st:St)(t:TypeId)(mk:Nat)(key v:D)(k:St→Option R):Option R:=match P.underlying t with
 | some (.map kt _)=>match sV P kt with
  | some c=>match rL st.objs 64 mk with
   | some K=>match v with
    | .s (.c (.inn k3 i3))=>match st.objs[K]? with
     | some (.rr (some hi) e1 e2 n l)=>if e1=c+1000000000∧k3=K then vE c key fun kk=>ob (IC kk l) fun j=>ob (Mr hi j) fun _=>ob (Mr hi i3) fun _=>k { st with objs:=st.objs.set K (.rr none e1 e2 n l) } else none
     | _=>none
    | .s (.c (.row q))=>match st.objs[K]? with
     | some (.rr none e1 e2 n l)=>match st.objs[q]? with
      | some (.row false e' n' es)=>match gR st with
       | some F=>if e1=c+1000000000∧e'=e2∧n'=n then vE c key fun kk=>ob (Cp (IC kk l)) fun _=>k { st with objs:=((st.objs.set F (.rr none e1 e2 n (l++[kk::es]))).set K (.fwd F)).set q .dead } else none
       | none=>none
      | _=>none
     | _=>none
    | _=>none
   | none=>none
  | none=>none
 | _=>none
def n4(st:St)(t:TypeId)(m key v:D)(k:St→Option R):Option R:=match m with
 | .s (.c (.rk mk))=>FC P st t mk key v k
 | _=>xM P st t m key v k
def wA(st:St)(dst:Option Nat)(t:TypeId)(k:St→D→Option R):Option R:=match P.underlying t with
 | some (.map kt e)=>match sV P kt with
  | some c=>match P.underlying e with
   | some (.slice e2)=>match pA P e2 with
    | some n=>if 0<n∧n<1000000000 then f6 st dst (.rr none (c+1000000000) e2 n []) fun st key=>k st (.s (.c (.rk key))) else none
    | none=>none
   | _=>none
  | none=>none
 | _=>none
end
section
variable {R:Type} {P:Program} {w0 w w':World} {F Xc X:Nat→Prop} {ρ0:Base} {ρ:fN} {st:St} {a:Act} {r:R}
def ZT(l:List (List T))(es:List MapEntry):List T:=(l.zip es).map fun p=>.agg [p.1.headD (.agg []),.v p.2.val]
theorem zY{α β:Type}(f:α→β)(p:β→Bool):∀l:List α,(l.map f).findIdx? p=l.findIdx? fun x=>p (f x)
 | []=>rfl
 | x::l=>by simp only[List.map_cons,List.findIdx?_cons,zY f p l]
theorem XO{α β:Type}:∀(l:List α) (m:List β),l.length≤m.length→(l.zip m).map (·.1)=l
 | [],_,_=>by simp
 | x::l,[],h=>by simp at h
 | x::l,y::m,h=>by simp only[List.zip_cons_cons,List.map_cons,XO l m (by simpa using h)]
theorem K5(kk:T){l:List (List T)}{es:List MapEntry}(h:l.length≤es.length):dF kk (ZT l es)=IC kk l:=by
 unfold dF ZT IC
 rw[zY]
 have e:=zY (α:=List T×MapEntry) (fun p=>p.1) (fun m=>uD kk (m.headD (.agg []))) (l.zip es)
 rw[XO l es h] at e
 rw[e]
 rfl
theorem QI{c:Nat}{l:List (List T)}{es:Array MapEntry}(hl:es.size=l.length)(hs:∀(i:Nat) m en,l[i]?=some m→es[i]?=some en→∃k m',m=k::m'∧kT c k=some en.key)(h1:∀(i:Nat) en,es[i]?=some en→en.val.oneCell'=true):
 ∀(i:Nat) t e,(ZT l es.toList)[i]?=some t→es[i]?=some e→∃k v,t=.agg [k,v]∧kT c k=some e.key∧CG v e.val:=by
 intro i t e e1 e2
 unfold ZT at e1
 rw[List.getElem?_map] at e1
 cases hz:(l.zip es.toList)[i]? with
 | none=>rw[hz] at e1;cases e1
 | some p=>
  rw[hz] at e1
  simp only[Option.map_some,Option.some.injEq] at e1
  subst e1
  obtain⟨z1,z2⟩:=List.getElem?_zip_eq_some.1 hz
  have z3:es[i]?=some p.2:=by simpa using z2
  rw[e2] at z3
  cases z3
  obtain⟨k,m',hm,hk⟩:=hs i p.1 _ z1 e2
  refine⟨k,_,by rw[hm];rfl,hk,.inr (h1 i _ e2)⟩
theorem QJ{l:List (List T)}{es:Array MapEntry}(hl:es.size=l.length):es.size=(ZT l es.toList).length:=by unfold ZT;simp[hl]
theorem VJ(h:Rel w0 F Xc ρ0 ρ st a w){key K:Nat}{v:Value}{hole:Option Nat}{e1 e2:TypeId}{n:Nat}{l:List (List T)}(hK:rL st.objs 64 key=some K)(hc:RdC w (XB st.objs ρ Xc) ρ (.rk key) v)(hob:st.objs[K]?=some (.rr hole e1 e2 n l)):
 ∃vs',ρ K=some (.tuple vs')∧vs'[0]?=some v∧okR w (XB st.objs ρ Xc) hole e1 e2 n l (.tuple vs'):=by
 obtain⟨vs,q1,q2⟩:=hc
 obtain⟨hole',e',e2',n',l',vs',f1,f2,f3,f4⟩:=uJ h hK q1
 rw[hob] at f1
 cases f1
 exact⟨vs',f2,f3.trans q2,f4⟩
theorem Cq{t:TypeId}{key:Nat}{ix:D}{vx vi:Value}{ok:Bool}{k:D→Option R}(h:Rel w0 F Xc ρ0 ρ st a w)(hx:RdD w (XB st.objs ρ Xc) ρ (.s (.c (.rk key))) vx)(hi:RdD w (XB st.objs ρ Xc) ρ ix vi)(hk:XN P st t key ix ok k=some r):
 ∃y d,(Instr.lookup t vx vi ok).run P w=.ok y w∧RdD w (XB st.objs ρ Xc) ρ d y∧k d=some r:=by
 unfold XN at hk
 split at hk
 case h_2=>cases hk
 rename_i kt e hu
 split at hk
 case h_2=>cases hk
 rename_i c i hc hi0
 split at hk
 case h_2=>cases hk
 rename_i hz
 split at hk
 case h_2=>cases hk
 rename_i K hK
 split at hk
 case h_2=>cases hk
 rename_i e1 e2 n l hob
 split at hk
 case isFalse=>cases hk
 rename_i hcond
 obtain⟨he1,rfl⟩:=hcond
 obtain⟨kk,hkk,hk3⟩:=B4 hi hk
 rcases hx with hx | ⟨hx,_⟩
 ·cases hx
 obtain⟨vs',q1,q2,h0,ho,hs,xs,hvs,g2,g3,g4,g5,g6⟩:=VJ h hK hx hob
 cases hvs
 have:ho=vx:=by simpa using q2
 subst this
 rcases g2 with⟨g2,_⟩ | ⟨_,g,es,clock,rfl,hg,hl,rfl,hkeys,_⟩
 ·exact(Nat.not_lt.2 (he1▸Nat.le_add_left _ _) g2).elim
 have hcc:e1-1000000000=c:=by rw[he1];exact Nat.add_sub_cancel _ _
 rw[hcc] at hkeys
 have hone:∀(i:Nat) en,es[i]?=some en→en.val.oneCell'=true:=fun i en hen=>by
  have hlt:i<es.size:=(Array.getElem?_eq_some_iff.1 hen).1
  have hsi:hs[i]?=some hs[i]:=List.getElem?_eq_getElem (by omega)
  exact(g4 i en.val _ (by rw[List.getElem?_map];simp[hen]) hsi).1
 have hzr:=d3 (P:=P) hi0 hz w
 have hch:=fun em=>B3 hc hkk em w
 have hle:l.length≤es.toList.length:=by simp[hl]
 have hfz:=K5 kk hle
 rcases E9 (n:=c+1000000000) hc hkk rfl (QJ hl) (by rw[Nat.add_sub_cancel];exact QI hl hkeys hone) w with⟨h1,h2⟩ | ⟨j,kj,vj,ej,h1,h2,h3,h4,h5,h6⟩
 ·rw[hfz] at h1
  have hb:Co kk l=false:=by unfold Co;rw[h1];rfl
  rw[hb] at hk3
  refine⟨.slice none 0 0,_,?_,.val rfl,hk3⟩
  unfold Instr.lookup
  simp only[Sem.run_bind,run_underlying hu,Result.andThen_ok,MapKept.run_getObj_map hg,Sem.run_pure,hch,h2,hzr]
  rfl
 ·rw[hfz] at h1
  have hb:Co kk l=true:=by unfold Co;rw[h1];rfl
  rw[hb] at hk3
  simp only[cond_true] at hk3
  obtain⟨j',hj',hk4⟩:=aC hk3
  rw[h1] at hj'
  cases hj'
  have hlt:j<es.size:=(Array.getElem?_eq_some_iff.1 h3).1
  have hsj:hs[j]?=some hs[j]:=List.getElem?_eq_getElem (by omega)
  have hxj:(es.toList.map (·.val))[j]?=some ej.val:=by rw[List.getElem?_map];simp[h3]
  obtain⟨o1,o2⟩:=g4 j _ _ hxj hsj
  refine⟨ej.val,.s (.c (.inn K j)),?_,.one (c:=.inn K j) ⟨_,q1,?_⟩ o1,hk4⟩
  ·unfold Instr.lookup
   simp only[Sem.run_bind,run_underlying hu,Result.andThen_ok,MapKept.run_getObj_map hg,Sem.run_pure,hch,h6]
   rfl
  ·simp only[List.getElem?_toArray,List.getElem?_cons_succ]
   rw[hsj,o2 (by simp)]
theorem VK{t:TypeId}{x ix:D}{vx vi:Value}{ok:Bool}{k:D→Option R}(h:Rel w0 F Xc ρ0 ρ st a w)(hx:RdD w (XB st.objs ρ Xc) ρ x vx)(hi:RdD w (XB st.objs ρ Xc) ρ ix vi)(hk:n3 P st t x ix ok k=some r):
 ∃y d,(Instr.lookup t vx vi ok).run P w=.ok y w∧RdD w (XB st.objs ρ Xc) ρ d y∧k d=some r:=by
 unfold n3 at hk
 split at hk
 ·exact Cq h hx hi hk
 ·exact VF h hx hi hk
theorem S4{dst:Option Nat}{t:TypeId}{k:St→D→Option R}(h:Rel w0 F Xc ρ0 ρ st a w)(hk:wA P st dst t k=some r):
 ∃y w' ρ' st' d,(Instr.makeMap t none).run P w=.ok y w'∧Rel w0 F Xc ρ0 ρ' st' a w'∧RdD w' (XB st'.objs ρ' Xc) ρ' d y∧k st' d=some r:=by
 unfold wA at hk
 split at hk
 case h_2=>cases hk
 rename_i kt e hu
 split at hk
 case h_2=>cases hk
 rename_i c hc
 split at hk
 case h_2=>cases hk
 rename_i e2 he2
 split at hk
 case h_2=>cases hk
 rename_i n hn
 split at hk
 case isFalse=>cases hk
 rename_i hpos
 obtain⟨d,_,hf,hk1⟩:=r8 hk
 have hbig:(1000000000:Nat)≤c+1000000000:=Nat.le_add_left _ _
 refine⟨_,_,_,_,_,run_makeMap t w,h.newG (hv:=.tuple #[.map (some w.heap.size)]) (o:=.rr none (c+1000000000) e2 n []) hf (Stp.alloc (fun _=>False) w (.map #[] 0)) (fun b hb=>?_)
  (fun X' hX=>⟨hpos,.map (some w.heap.size),[],[],rfl,.inr ⟨hbig,w.heap.size,#[],0,rfl,heap_alloc_new w _,rfl,rfl,fun i m en h1 _=>by simp at h1,rfl,fun i en h1=>by simp at h1⟩,rfl,fun i y z h1 _=>by simp at h1,fun i m y h1 _=>by simp at h1,fun i j y z b q1 q2 _ _=>?_⟩) (Nat.le_add_right _ _) (by simp),
  .one (c:=.rk (st.np+d)) ⟨#[.map (some w.heap.size)],by simp[upd],rfl⟩ rfl,hk1⟩
 ·rcases hb with hb | ⟨vs,hvs,y,hy,hyb⟩
  ·cases hb
  ·cases hvs
   simp only[List.mem_singleton] at hy
   subst hy
   cases hyb
   exact Nat.le_refl _
 ·have e1:i=0:=by have:=(List.getElem?_eq_some_iff.1 q1).1;simpa using this
  have e2:j=0:=by have:=(List.getElem?_eq_some_iff.1 q2).1;simpa using this
  rw[e1,e2]
theorem okR.map{X:Nat→Prop}{hole:Option Nat}{c:Nat}{e1 e2:TypeId}{n:Nat}{l:List (List T)}{vs:Array Value}{v:Value}(h:okR w X hole e1 e2 n l (.tuple vs))(hv:vs[0]?=some v)(he:e1=c+1000000000):
 ∃(hs:List Value) (g:Nat) (es:Array MapEntry) (clock:Nat),vs=(v::hs).toArray∧v=.map (some g)∧w.heap[g]?=some (.map es clock)∧es.size=l.length∧hs.length=l.length ∧
  (∀(i:Nat) m en,l[i]?=some m→es[i]?=some en→∃k m',m=k::m'∧kT c k=some en.key)∧(∀(i:Nat) en,es[i]?=some en→en.val.oneCell'=true)∧clock=es.size∧(∀(i:Nat) en,es[i]?=some en→en.born=i) ∧
  (∀(i:Nat) en z,es[i]?=some en→hs[i]?=some z→hole≠some i→en.val=z) ∧
  (∀(i:Nat) m y,l[i]?=some m→hs[i]?=some y→Uni n (SH e1 m)∧∃ys,rowAt w e2 n y (SH e1 m).length ys∧RdT w X (flat (SH e1 m)) ys) ∧
  ∀(i j:Nat) y z b,(v::hs)[i]?=some y→(v::hs)[j]?=some z→blk y=some b→blk z=some b→i=j:=by
 obtain⟨h0,ho,hs,xs,hvs,g2,g3,g4,g5,g6⟩:=h
 cases hvs
 have:ho=v:=by simpa using hv
 subst this
 rcases g2 with⟨g2,_⟩ | ⟨_,g,es,clock,rfl,hg,hl,rfl,hkeys,hcl,hborn⟩
 ·exact(Nat.not_lt.2 (he▸Nat.le_add_left _ _) g2).elim
 have hcc:e1-1000000000=c:=by rw[he];exact Nat.add_sub_cancel _ _
 rw[hcc] at hkeys
 have hx:∀(i:Nat) en,es[i]?=some en→(es.toList.map (·.val))[i]?=some en.val:=fun i en hen=>by rw[List.getElem?_map];simp[hen]
 refine⟨hs,g,es,clock,rfl,rfl,hg,hl,g3,hkeys,fun i en hen=>?_,hcl,hborn,fun i en z hen hz hne=>(g4 i en.val z (hx i en hen) hz).2 hne,g5,g6⟩
 have hlt:i<es.size:=(Array.getElem?_eq_some_iff.1 hen).1
 exact(g4 i en.val _ (hx i en hen) (List.getElem?_eq_getElem (show i<hs.length by omega))).1
theorem VL{t:TypeId}{mk:Nat}{key v:D}{vm vk vv:Value}{k:St→Option R}(h:Rel w0 F Xc ρ0 ρ st a w)(hm:RdD w (XB st.objs ρ Xc) ρ (.s (.c (.rk mk))) vm)(hkey:RdD w (XB st.objs ρ Xc) ρ key vk)(hv:RdD w (XB st.objs ρ Xc) ρ v vv)
 (hk:FC P st t mk key v k=some r):∃ρ' st' w',(Instr.mapUpdate t vm vk vv).run P w=.ok () w'∧Rel w0 F Xc ρ0 ρ' st' a w'∧k st'=some r:=by
 unfold FC at hk
 split at hk
 case h_2=>cases hk
 rename_i kt e hu
 split at hk
 case h_2=>cases hk
 rename_i c hc
 split at hk
 case h_2=>cases hk
 rename_i K hK
 rcases hm with hm | ⟨hm,_⟩
 ·cases hm
 split at hk
 case h_3=>cases hk
 case h_1=>
  rename_i k3 i3
  split at hk
  case h_2=>cases hk
  rename_i hi e1 e2 n l hob
  split at hk
  case isFalse=>cases hk
  rename_i hcond
  obtain⟨he1,rfl⟩:=hcond
  obtain⟨kk,hkk,hk1⟩:=B4 hkey hk
  obtain⟨j,hj,hk2⟩:=aC hk1
  obtain⟨_,q1,hk3⟩:=aC hk2
  obtain⟨_,q2,hk4⟩:=aC hk3
  clear hk hk1 hk2 hk3
  have q1:=E0 q1
  have q2:=E0 q2
  subst q1;subst q2
  obtain⟨vs',p1,p2,hR⟩:=VJ h hK hm hob
  obtain⟨hs,g,es,clock,rfl,rfl,hg,hl,hhs,hkeys,hone,hcl,hborn,hval,hrow,hsep⟩:=hR.map p2 he1
  have h0:=hR.1
  rcases hv with hv | ⟨⟨us,u1,u2⟩,hv1⟩
  ·cases hv
  rw[p1] at u1
  cases u1
  have hsi:hs[hi]?=some vv:=by simpa using u2
  have hle:l.length≤es.toList.length:=by simp[hl]
  have hfz:=K5 kk hle
  rcases qK (c:=c) hu hc hkk rfl hg (QJ hl) (by rw[Nat.add_sub_cancel];exact QI hl hkeys hone) vv with⟨z1,_⟩ | ⟨i,z1,z2⟩
  ·rw[hfz,hj] at z1;cases z1
  rw[hfz,hj] at z1
  cases z1
  refine⟨ρ,_,_,z2,?_,hk4⟩
  have hlt:k3<st.objs.length:=(List.getElem?_eq_some_iff.1 hob).1
  have hHas:Has st.objs ρ k3 g:=⟨_,_,hob,rfl,p1,.inr ⟨_,rfl,.map (some g),by simp,rfl⟩⟩
  have hil:hi<es.size:=by have:=(List.getElem?_eq_some_iff.1 hsi).1;omega
  have hkey':∀en,es[hi]?=some en→en.key=vk:=fun en hen=>by
   have hll:hi<l.length:=by omega
   obtain⟨k',m',hm',hk'⟩:=hkeys hi _ en (List.getElem?_eq_getElem hll) hen
   have hfi:IC kk l=some hi:=hj
   unfold IC at hfi
   rw[List.findIdx?_eq_some_iff_getElem] at hfi
   obtain⟨_,hb,_⟩:=hfi
   rw[hm'] at hb
   exact((E6 hkk hk').1 hb).symm
  have hstp:=mX w g (es.modify hi fun e=>{ e with key:=vk,val:=vv }) clock
  refine h.change _ ρ (·=k3) hstp (fun jj hj=>⟨by rw[List.getElem?_set_ne (fun e=>hj e.symm)],rfl⟩) (.refl _) (fun b hb=>⟨k3,rfl,hb▸hHas⟩)
   (fun jj b hj hb=>?_) (fun jj j' b hj hj' _ _=>hj.trans hj'.symm) (fun hX jj o' hj ho2=>?_) (fun _ _=>rfl)
  ·subst hj
   obtain⟨o',v',_,_,q3,q4⟩:=hb
   exact .inl ⟨_,rfl,_,v',hob,rfl,q3,q4⟩
  ·subst hj
   rw[List.getElem?_set_self hlt] at ho2
   cases ho2
   have hgl:g<w.heap.size:=(Array.getElem?_eq_some_iff.1 hg).1
   have hoff:∀(j:Nat) y,(Value.map (some g)::hs)[j+1]?=some y→blk y≠some g:=fun j y hj hb=>by
    have:=hsep 0 (j+1) (.map (some g)) y g rfl hj rfl hb
    omega
   refine⟨_,p1,h0,.map (some g),hs,(es.modify hi fun e=>{ e with key:=vk,val:=vv }).toList.map (·.val),rfl,.inr ⟨he1▸Nat.le_add_left _ _,g,_,clock,rfl,by simp[Eng.setMap,hgl],by simpa using hl,rfl,fun i m en a1 a2=>?_,by simpa using hcl,fun i en a2=>?_⟩,hhs,fun i y z a1 a2=>?_,fun i m y a1 a2=>?_,hsep⟩
   ·have hcc:e1-1000000000=c:=by rw[he1];exact Nat.add_sub_cancel _ _
    rw[hcc]
    rw[Array.getElem?_modify] at a2
    split at a2
    ·rename_i hij
     subst hij
     obtain⟨e0,b1,rfl⟩:=Option.map_eq_some_iff.1 a2
     have:=hkeys hi m e0 a1 b1
     rw[hkey' e0 b1] at this
     exact this
    ·exact hkeys i m en a1 a2
   ·rw[Array.getElem?_modify] at a2
    split at a2
    ·rename_i hij
     subst hij
     obtain⟨e0,b1,rfl⟩:=Option.map_eq_some_iff.1 a2
     exact hborn hi e0 b1
    ·exact hborn i en a2
   ·rw[List.getElem?_map] at a1
    simp only[Array.getElem?_toList,Array.getElem?_modify] at a1
    by_cases hij:hi=i
    ·subst hij
     rw[if_pos rfl] at a1
     have he:es[hi]?=some es[hi]:=Array.getElem?_eq_getElem hil
     rw[he] at a1
     simp only[Option.map_some,Option.some.injEq] at a1
     rw[hsi] at a2
     cases a2
     subst a1
     exact⟨hv1,fun _=>rfl⟩
    ·rw[if_neg hij] at a1
     obtain⟨en,b1,rfl⟩:=Option.map_eq_some_iff.1 a1
     exact⟨hone i en b1,fun _=>hval i en z b1 a2 (fun e=>hij (by cases e;rfl))⟩
   ·obtain⟨f1,ys,f2,f3⟩:=hrow i m y a1 a2
    exact⟨f1,ys,f2.step hstp (fun b hb hy=>hoff i y (by simpa using a2) (by rw[hb,hy])),f3.step hstp (fun b hb=>.inl ⟨_,hb▸hHas⟩) hX⟩
 case h_2=>
  rename_i q
  split at hk
  case h_2=>cases hk
  rename_i e1 e2 n l hob
  split at hk
  case h_2=>cases hk
  rename_i e' n' es0 hoq
  split at hk
  case h_2=>cases hk
  rename_i FF hF
  split at hk
  case isFalse=>cases hk
  rename_i hcond
  obtain⟨he1,rfl,rfl⟩:=hcond
  obtain⟨kk,hkk,hk1⟩:=B4 hkey hk
  obtain⟨_,hj,hk2⟩:=aC hk1
  clear hk hk1
  have hj:=VI hj
  obtain⟨vs',p1,p2,hR⟩:=VJ h hK hm hob
  obtain⟨hs,g,es,clock,rfl,rfl,hg,hl,hhs,hkeys,hone,hcl,hborn,hval,hrow,hsep⟩:=hR.map p2 he1
  have h0:=hR.1
  rcases hv with hv | ⟨hv,hv1⟩
  ·cases hv
  have hvq:ρ q=some vv:=hv
  obtain⟨vq,u1,hq0,hqu,⟨xq,hqr,hqt⟩,_⟩:=h.objs q _ hoq
  rw[hvq] at u1
  cases u1
  have hle:l.length≤es.toList.length:=by simp[hl]
  have hfz:=K5 kk hle
  rcases qK (c:=c) hu hc hkk rfl hg (QJ hl) (by rw[Nat.add_sub_cancel];exact QI hl hkeys hone) vv with⟨_,z2⟩ | ⟨i,z1,_⟩
  case inr=>rw[hfz,hj] at z1;cases z1
  obtain⟨hFn,hFf⟩:=uK hF
  have hFlt:FF<st.objs.length:=(List.getElem?_eq_some_iff.1 hFf).1
  have hKlt:K<st.objs.length:=(List.getElem?_eq_some_iff.1 hob).1
  have hqlt:q<st.objs.length:=(List.getElem?_eq_some_iff.1 hoq).1
  have hFK:FF≠K:=fun e=>by rw[e,hob] at hFf;cases hFf
  have hFq:FF≠q:=fun e=>by rw[e,hoq] at hFf;cases hFf
  have hKq:K≠q:=fun e=>by rw[e,hoq] at hob;cases hob
  have hnone:ρ FF=none:=h.objs _ _ hFf
  have hHas:∀y b,y∈(Value.map (some g)::hs)→blk y=some b→Has st.objs ρ K b:=fun y b hy hb=>⟨_,_,hob,rfl,p1,.inr ⟨_,rfl,y,by simpa using hy,hb⟩⟩
  have hHasq:∀b,blk vv=some b→Has st.objs ρ q b:=fun b hb=>⟨_,_,hoq,rfl,hvq,.inl hb⟩
  have hHg:Has st.objs ρ K g:=hHas (.map (some g)) g (by simp) rfl
  have hstp:=mX w g (es.push ⟨vk,vv,clock⟩) (clock+1)
  have o1:(((st.objs.set FF (.rr none e1 e' n' (l++[kk::es0]))).set K (.fwd FF)).set q .dead)[FF]?=some (.rr none e1 e' n' (l++[kk::es0])):=by
   rw[List.getElem?_set_ne (fun e=>hFq e.symm),List.getElem?_set_ne (fun e=>hFK e.symm),List.getElem?_set_self hFlt]
  have o2:(((st.objs.set FF (.rr none e1 e' n' (l++[kk::es0]))).set K (.fwd FF)).set q .dead)[K]?=some (.fwd FF):=by
   rw[List.getElem?_set_ne (fun e=>hKq e.symm),List.getElem?_set_self (by simpa using hKlt)]
  have o3:(((st.objs.set FF (.rr none e1 e' n' (l++[kk::es0]))).set K (.fwd FF)).set q .dead)[q]?=some .dead:=by
   rw[List.getElem?_set_self (by simpa using hqlt)]
  refine⟨upd ρ FF (.tuple (Value.map (some g)::(hs++[vv])).toArray),_,_,z2,?_,hk2⟩
  have hρ:Rle ρ (upd ρ FF (.tuple (Value.map (some g)::(hs++[vv])).toArray)):=fun j u hj=>by
   unfold upd
   split
   ·rename_i e;subst e;rw[hnone] at hj;cases hj
   ·exact hj
  have hin:∀y,y∈(Value.map (some g)::(hs++[vv]))→y∈(Value.map (some g)::hs)∨y=vv:=fun y hy=>by
   simp only[List.mem_cons,List.mem_append,List.not_mem_nil,or_false] at hy ⊢
   rcases hy with hy | hy | hy
   ·exact .inl (.inl hy)
   ·exact .inl (.inr hy)
   ·exact .inr hy
  have hnew:∀j b,(j=FF∨j=K∨j=q)→Has (((st.objs.set FF (.rr none e1 e' n' (l++[kk::es0]))).set K (.fwd FF)).set q .dead) (upd ρ FF (.tuple (Value.map (some g)::(hs++[vv])).toArray)) j b→j=FF∧(Has st.objs ρ K b∨Has st.objs ρ q b):=by
   intro j b hj hh
   obtain⟨o',u',s1,s2,s3,s4⟩:=hh
   rcases hj with rfl | rfl | rfl
   ·refine⟨rfl,?_⟩
    simp only[upd,if_true,Option.some.injEq] at s3
    subst s3
    rcases s4 with s4 | ⟨ws,hws,y,hy1,hy2⟩
    ·cases s4
    ·cases hws
     rcases hin y hy1 with hy | rfl
     ·exact .inl (hHas y b hy hy2)
     ·exact .inr (hHasq b hy2)
   ·rw[o2] at s1;cases s1;cases s2
   ·rw[o3] at s1;cases s1;cases s2
  refine h.change _ _ (fun j=>j=FF∨j=K∨j=q) hstp (fun j hj=>⟨?_,by unfold upd;rw[if_neg (fun e=>hj (.inl e))]⟩) hρ (fun b hb=>⟨K,.inr (.inl rfl),hb▸hHg⟩)
   (fun j b hj hh=>?_) (fun j j' b hj hj' hh hh'=>(hnew j b hj hh).1.trans (hnew j' b hj' hh').1.symm) (fun hX j o' hj ho'=>?_) (fun j hj=>by unfold upd;rw[if_neg (by have:=hFn;omega)])
  ·rw[List.getElem?_set_ne (fun e=>hj (.inr (.inr e.symm))),List.getElem?_set_ne (fun e=>hj (.inr (.inl e.symm))),List.getElem?_set_ne (fun e=>hj (.inl e.symm))]
  ·rcases(hnew j b hj hh).2 with hb | hb
   ·exact .inl ⟨K,.inr (.inl rfl),hb⟩
   ·exact .inl ⟨q,.inr (.inr rfl),hb⟩
  ·have hYX:∀b,b=g→XB st.objs ρ Xc b:=fun b hb=>.inl ⟨K,hb▸hHg⟩
   rcases hj with rfl | rfl | rfl
   ·rw[o1] at ho'
    cases ho'
    have hgl:g<w.heap.size:=(Array.getElem?_eq_some_iff.1 hg).1
    have hcc:e1-1000000000=c:=by rw[he1];exact Nat.add_sub_cancel _ _
    have hbig:1000000000≤e1:=he1▸Nat.le_add_left _ _
    have hoff:∀y,y∈hs→blk y≠some g:=fun y hy hb=>by
     obtain⟨i,hi,rfl⟩:=List.getElem_of_mem hy
     have:=hsep 0 (i+1) (.map (some g)) _ g rfl (by simp[List.getElem?_eq_getElem hi]) rfl hb
     omega
    have hoffq:blk vv≠some g:=fun hb=>hKq (h.sep K q g hHg (hHasq g hb))
    refine⟨_,by simp only[upd,if_true],h0,.map (some g),hs++[vv],(es.push ⟨vk,vv,clock⟩).toList.map (·.val),rfl,.inr ⟨hbig,g,_,clock+1,rfl,by simp[Eng.setMap,hgl],by simp[hl],rfl,fun i m en a1 a2=>?_,by simp[hcl],fun i en a2=>?_⟩,by simp[hhs],fun i y z a1 a2=>?_,fun i m y a1 a2=>?_,fun i j y z b a1 a2 a3 a4=>?_⟩
    ·rw[hcc]
     rw[Array.getElem?_push] at a2
     rw[List.getElem?_append] at a1
     split at a1
     ·rename_i hlt
      rw[if_neg (by omega)] at a2
      exact hkeys i m en a1 a2
     ·have hi:i=l.length:=by
       have:=(List.getElem?_eq_some_iff.1 a1).1
       simp at this;omega
      subst hi
      rw[if_pos hl.symm] at a2
      cases a2
      simp at a1
      exact⟨kk,es0,a1.symm,hkk⟩
    ·rw[Array.getElem?_push] at a2
     split at a2
     ·rename_i hi
      cases a2
      show clock=i
      omega
     ·exact hborn i en a2
    ·simp only[Array.toList_push,List.map_append,List.map_cons,List.map_nil] at a1
     rw[List.getElem?_append] at a1 a2
     simp only[List.length_map,Array.length_toList] at a1
     by_cases hlt:i<es.size
     ·rw[if_pos hlt] at a1
      rw[if_pos (by omega)] at a2
      rw[List.getElem?_map] at a1
      obtain⟨en,b1,rfl⟩:=Option.map_eq_some_iff.1 a1
      have b1':es[i]?=some en:=by simpa using b1
      exact⟨hone i en b1',fun _=>hval i en z b1' a2 (by simp)⟩
     ·rw[if_neg hlt] at a1
      rw[if_neg (by omega)] at a2
      have hi:i-es.size=0:=by
       have:=(List.getElem?_eq_some_iff.1 a1).1
       simp at this;omega
      have hi2:i-hs.length=0:=by omega
      rw[hi] at a1
      rw[hi2] at a2
      simp at a1 a2
      subst a1;subst a2
      exact⟨hv1,fun _=>rfl⟩
    ·rw[List.getElem?_append] at a1 a2
     by_cases hlt:i<l.length
     ·rw[if_pos hlt] at a1
      rw[if_pos (by omega)] at a2
      obtain⟨f1,ys,f2,f3⟩:=hrow i m y a1 a2
      exact⟨f1,ys,f2.step hstp (fun b hb hy=>hoff y (List.mem_of_getElem? a2) (by rw[hb,hy])),f3.step hstp hYX hX⟩
     ·rw[if_neg hlt] at a1
      rw[if_neg (by omega)] at a2
      have hi:i-l.length=0:=by
       have:=(List.getElem?_eq_some_iff.1 a1).1
       simp at this;omega
      have hi2:i-hs.length=0:=by omega
      rw[hi] at a1
      rw[hi2] at a2
      simp at a1 a2
      subst a1;subst a2
      rw[XA hbig]
      exact⟨hqu,xq,hqr.step hstp (fun b hb hy=>hoffq (by rw[hb,hy])),hqt.step hstp hYX hX⟩
    ·-- blocks are apart
     have hmix:∀(i:Nat) y,(Value.map (some g)::(hs++[vv]))[i]?=some y→(i<hs.length+1∧(Value.map (some g)::hs)[i]?=some y)∨(i=hs.length+1∧y=vv):=fun i y hy=>by
      cases i with
      | zero=>exact .inl ⟨by omega,hy⟩
      | succ i=>
       simp only[List.getElem?_cons_succ,List.getElem?_append] at hy ⊢
       split at hy
       ·rename_i hlt
        exact .inl ⟨by omega,hy⟩
       ·have hi2:i-hs.length=0:=by
         have:=(List.getElem?_eq_some_iff.1 hy).1
         simp at this;omega
        rw[hi2] at hy
        simp at hy
        exact .inr ⟨by omega,hy.symm⟩
     rcases hmix i y a1 with⟨b1,b2⟩ | ⟨b1,b2⟩ <;> rcases hmix j z a2 with⟨c1,c2⟩ | ⟨c1,c2⟩
     ·exact hsep i j y z b b2 c2 a3 a4
     ·subst c2
      exact(hKq (h.sep K q b (hHas y b (List.mem_of_getElem? b2) a3) (hHasq b a4))).elim
     ·subst b2
      exact(hKq (h.sep K q b (hHas z b (List.mem_of_getElem? c2) a4) (hHasq b a3))).elim
     ·omega
   ·rw[o2] at ho'
    cases ho'
    refine⟨.tuple (Value.map (some g)::hs).toArray,hρ _ _ p1,(Value.map (some g)::hs).toArray,(Value.map (some g)::(hs++[vv])).toArray,rfl,by simp[upd],by simp⟩
   ·rw[o3] at ho'
    cases ho'
    trivial
theorem K6{t:TypeId}{m key v:D}{vm vk vv:Value}{k:St→Option R}(h:Rel w0 F Xc ρ0 ρ st a w)(hm:RdD w (XB st.objs ρ Xc) ρ m vm)(hkey:RdD w (XB st.objs ρ Xc) ρ key vk)(hv:RdD w (XB st.objs ρ Xc) ρ v vv)
 (hk:n4 P st t m key v k=some r):∃ρ' st' w',(Instr.mapUpdate t vm vk vv).run P w=.ok () w'∧Rel w0 F Xc ρ0 ρ' st' a w'∧k st'=some r:=by
 unfold n4 at hk
 split at hk
 ·exact VL h hm hkey hv hk
 ·obtain⟨st',w',q⟩:=VG h hm hkey hv hk
  exact⟨ρ,st',w',q⟩
end
section
variable {R:Type} {P:Program} {w0 w w':World} {F Xc X:Nat→Prop} {ρ0:Base} {ρ:fN} {st:St} {a:Act} {r:R}
theorem QK{t:TypeId}{x:D}{vx:Value}{k:St→D→Option R}(h:Rel w0 F Xc ρ0 ρ st a w)(hx:RdD w (XB st.objs ρ Xc) ρ x vx)(hk:vY P st t x k=some r):
 ∃y st' d,(Instr.sliceAt t vx none none none).run P w=.ok y w∧Rel w0 F Xc ρ0 ρ st' a w∧RdD w (XB st'.objs ρ Xc) ρ d y∧k st' d=some r:=by
 unfold vY at hk
 split at hk
 case h_2=>cases hk
 rename_i n e hu
 split at hk
 case h_2=>cases hk
 rename_i m tys key hm hty
 split at hk
 case h_2=>cases hk
 rename_i l hob
 split at hk
 case isFalse=>cases hk
 rename_i hcond
 obtain⟨hlen,hpos,hmax⟩:=hcond
 obtain⟨hv,f1,g,ys,ty,f2,f3,f0,f4⟩:=h.objs key _ hob
 have hk9:=pM f4 hk
 obtain⟨ts,hk1,t1,t2,t3⟩:=hk9
 rcases hx with hx | ⟨⟨hv',q1,ba,q2,q3⟩,_⟩
 ·cases hx
 rw[f1] at q1
 cases q1
 rw[f2] at q2
 simp only[zJ,Option.some.injEq] at q2
 subst q2
 have hadd:(⟨g,0,none⟩:Addr).add 0=⟨g,0,none⟩:=by unfold Addr.add;simp
 rw[hadd] at q3
 subst q3
 have hlt:key<st.objs.length:=(List.getElem?_eq_some_iff.1 hob).1
 have hblk:blk hv=some g:=by rw[f2];rfl
 have hHas:Has st.objs ρ key g:=⟨_,hv,hob,rfl,f1,.inl hblk⟩
 have hnl:∀b,¬Has (st.objs.set key (.fbox (ts.map .t))) ρ key b:=fun b ⟨o,v,g1,g2,_,_⟩=>by
  rw[List.getElem?_set_self hlt] at g1
  cases g1
  cases g2
 have hXX:∀b,XB (st.objs.set key (.fbox (ts.map .t))) ρ Xc b→XB st.objs ρ Xc b:=fun b hb=>by
  rcases hb with⟨q,hq⟩ | hb
  ·by_cases hqk:q=key
   ·subst hqk;exact(hnl b hq).elim
   ·obtain⟨o,v,g1,g2,g3,g4⟩:=hq
    rw[List.getElem?_set_ne (Ne.symm hqk)] at g1
    exact .inl ⟨q,o,v,g1,g2,g3,g4⟩
  ·exact .inr hb
 have hng:¬XB (st.objs.set key (.fbox (ts.map .t))) ρ Xc g:=fun hb=>by
  rcases hb with⟨q,hq⟩ | hb
  ·by_cases hqk:q=key
   ·subst hqk;exact hnl g hq
   ·obtain⟨o,v,g1,g2,g3,g4⟩:=hq
    rw[List.getElem?_set_ne (Ne.symm hqk)] at g1
    exact hqk (h.sep q key g ⟨o,v,g1,g2,g3,g4⟩ hHas)
  ·exact h.xc g hHas.mut hb
 have hts:RdT w (XB (st.objs.set key (.fbox (ts.map .t))) ρ Xc) ts ys.toList:=⟨t2.1,fun i t y e1 e2=>⟨(t2.2 i t y e1 e2).1.weak hXX,(t2.2 i t y e1 e2).2⟩⟩
 have hR:Rel w0 F Xc ρ0 ρ { st with objs:=st.objs.set key (.fbox (ts.map .t)) } a w:=by
  refine h.change (Y:=fun _=>False) _ ρ (·=key) (.refl _ w) (fun j hj=>⟨by rw[List.getElem?_set_ne (fun e=>hj e.symm)],rfl⟩) (.refl _) (fun b hb=>hb.elim)
   (fun j b hj hb=>by subst hj;exact(hnl b hb).elim) (fun j j' b hj hj' _ _=>hj.trans hj'.symm) (fun hX j o hj ho=>?_) (fun _ _=>rfl)
  subst hj
  rw[List.getElem?_set_self hlt] at ho
  cases ho
  refine⟨hv,f1,g,ys,ty,f2,f3,⟨by simpa using hts.1,fun i c y e1 e2=>?_⟩,hng⟩
  rw[List.getElem?_map] at e1
  cases ht:ts[i]? with
  | none=>simp[ht] at e1
  | some tt=>
   simp only[ht,Option.map_some,Option.some.injEq] at e1
   subst e1
   exact .inr (hts.2 i tt y ht e2)
 have hcl:=pP n m ts
 have htl:ts.length=n*m:=by rw[t1,hlen]
 obtain⟨u1,u2⟩:=B2 n m ts htl hpos.1 t3
 have hnm:n≤n*m:=Nat.le_mul_of_pos_right _ hpos.1
 refine⟨.slice (some ⟨g,0,none⟩) n n,_,_,?_,hR,?_,hk1⟩
 ·unfold Instr.sliceAt
  simp only[Sem.run_bind,run_underlying hu,Result.andThen_ok,Instr.sureAddr,Sem.run_pure,Instr.sliceBounds,bP hm]
  by_cases hn0:n=0
  ·subst hn0;rfl
  ·rw[if_neg hn0]
   simp only[Nat.zero_mul,hadd,Nat.sub_zero]
 ·have key:Rd w (XB (st.objs.set key (.fbox (ts.map .t))) ρ Xc) (.sl m (mT n m ts)) (.slice (some ⟨g,0,none⟩) (mT n m ts).length n):=by
   refine .sl m _ _ n ys.toList hpos.2 (by rw[hcl];exact Nat.le_refl _) (by simp only[maxLen];omega) u1 (by rw[u2];exact hts.1) (fun i y hi=>?_) fun i t y e1 e2=>?_
   ·have hi':ys[i]?=some y:=by simpa using hi
    have had:(⟨g,0,none⟩:Addr).add i=⟨g,i,none⟩:=by unfold Addr.add;split <;> simp_all
    have hil:i<ts.length:=by
     have h1:=hts.1
     rw[←h1];exact(List.getElem?_eq_some_iff.1 hi).1
    refine⟨by rw[had,cell_of_row w g i ys ty (0,0) f3];exact hi',hng,(hts.2 i _ y (List.getElem?_eq_getElem hil) hi).2⟩
   ·rw[u2] at e1
    exact(hts.2 i t y e1 e2).1
  rw[hcl] at key
  exact .inr ⟨key,rfl⟩
theorem ZU{t:TypeId}{x:D}{v:Value}{lo hi mx:Option D}{vlo vhi vmx:Option Value}{k:St→D→Option R}(hR:Rel w0 F Xc ρ0 ρ st a w)(h:RdD w (XB st.objs ρ Xc) ρ x v)(hlo:H9 w (XB st.objs ρ Xc) ρ lo vlo)(hhi:H9 w (XB st.objs ρ Xc) ρ hi vhi)
 (hmx:H9 w (XB st.objs ρ Xc) ρ mx vmx) (hk:l9 P st t x lo hi mx k=some r):∃y st' d,(Instr.sliceAt t v vlo vhi vmx).run P w=.ok y w∧Rel w0 F Xc ρ0 ρ st' a w∧RdD w (XB st'.objs ρ Xc) ρ d y∧k st' d=some r:=by
 unfold l9 at hk
 split at hk
 ·split at hk
  case isFalse=>cases hk
  rename_i hn
  obtain⟨h1,h2,h3⟩:=hn
  have e1:vlo=none:=by
   cases lo with
   | none=>cases vlo with | none=>rfl | some v=>exact hlo.elim
   | some d=>cases h1
  have e2:vhi=none:=by
   cases hi with
   | none=>cases vhi with | none=>rfl | some v=>exact hhi.elim
   | some d=>cases h2
  have e3:vmx=none:=by
   cases mx with
   | none=>cases vmx with | none=>rfl | some v=>exact hmx.elim
   | some d=>cases h3
  subst e1;subst e2;subst e3
  exact QK hR h hk
 ·obtain⟨y,d,q1,q2,q3⟩:=ZM (P:=P) (w:=w) hR h hlo hhi hmx hk
  exact⟨y,st,d,q1,hR,q2,q3⟩
end
@[irreducible] def mmI(mx:Bool)(a b:Int):Int:=if mx then max a b else min a b
@[irreducible] def Pt(mx:Bool)(a b:ByteArray):ByteArray:=if mx then (if !Gk a b then a else b) else (if Gk a b||eqS a b then a else b)
section
variable {R:Type} (P:Program) (Γ:FuncId→Option Callee)
def K7(mx:Bool)(t:TypeId)(x y:D)(k:D→Option R):Option R:=match P.underlying t with
 | some (.int kd)=>J5 kd x fun a=>J5 kd y fun b=>k (dI kd (mmI mx a b))
 | some .string=>EX x fun a=>EX y fun b=>k (dS (Pt mx a b))
 | _=>none
def FD(st:St)(dst:Option Nat)(ty:TypeId)(b:Builtin)(args:List D)(ts:List TypeId)(k:St→D→Option R):Option R:=match b,args,ts with
 | .len,[x],[t]=>uC P st t x fun d=>k st d
 | .append,[s,x],[t,u]=>lK P st dst t u s x k
 | .copy,[s,x],[t,_]=>KV P st t s x k
 | .min,[x,y],[t,_]=>K7 P false t x y fun d=>k st d
 | .max,[x,y],[t,_]=>K7 P true t x y fun d=>k st d
 | _,_,_=>none
def S5(caps:List (Nat×Nat)):List D:=caps.map fun p=>.s (.c (.box p.1 p.2))
def lL:Value→Option FuncId
 | .func (.func g) first captured=>if first.isEmpty&&captured.isEmpty then some g else none
 | _=>none
def eP(st:St)(dst:Option Nat)(f:D)(args:List D)(k:St→D→Option R):Option R:=mE f fun c=>match c with
 | .t (.v v)=>match lL v with
  | some g=>match Γ g with
   | some A=>match A.ext with
    | some I=>I.go args fun d=>k st d
    | none=>pG A st dst args k
   | none=>none
  | none=>none
 | .fn g caps=>match Γ g with
  | some A=>match A.ext with
   | some _=>none
   | none=>pG A st dst (args++S5 caps) k
  | none=>none
 | _=>none
def xN:List Nat:=match Γ 2000000 with
 | some A=>A.quiet
 | none=>[]
def zZ(B:List Nat):D→Bool
 | .s (.c (.box k _))=>B.contains k
 | .s (.c (.pe _ _ _))=>true
 | _=>false
def gE:Option O→Bool
 | some (.box _)=>true
 | _=>false
def SI(B:List Nat)(o o':List O):Bool:=B.all fun k=>gE o[k]?||!gE o'[k]?
def O1:D→List Nat
 | .s s=>s.list.flatMap C.ks
 | .tup l=>l.flatMap fun s=>s.list.flatMap C.ks
def VM(B:List Nat)(ds:List D):Bool:=ds.all fun d=>(O1 d).all fun k=>!B.contains k
def bL:List Nat:=match Γ 2000000 with
 | some A=>A.loose
 | none=>[]
def kI(l:List Nat):Option Nat→Bool
 | some s=>l.contains s
 | none=>false
def QL:D→Bool
 | .s (.c (.box _ _))=>true
 | .s (.c (.pe _ _ _))=>true
 | .s (.c (.t _))=>true
 | _=>false
def pS(st:St):D→Bool
 | .s (.c (.box k _))=>gE st.objs[k]?
 | _=>true
def l7(P:Program)(st:St)(dst:Option Nat)(t:TypeId)(d:D)(k:D→Option R):Option R:=match xN Γ with
 | []=>nV P st t d k
 | B=>if ((zZ B d&&pS st d)||kI (bL Γ) dst)=true then nV P st t d k else none
def n5(P:Program)(st:St)(dst:Option Nat)(t:TypeId)(x ix:D)(k:D→Option R):Option R:=match xN Γ with
 | []=>eO P st t x ix k
 | _=>if (QL x||kI (bL Γ) dst)=true then eO P st t x ix k else none
def G4(st:St)(dst:Option Nat):Bool:=(bL Γ).contains 8999999||match dst with
 | some d=>match st.objs[st.np+d]? with
  | some .fresh=>true
  | _=>false
 | none=>false
def D5:List Nat:=match Γ 2000002 with
 | some A=>A.quiet
 | none=>[]
def eJ:List Nat:=match Γ 2000002 with
 | some A=>A.loose
 | none=>[]
def Ms:List Nat:=(eJ Γ).filterMap fun g=>if 1500000≤g∧g<1600000 then some (g-1500000) else none
def ID(st:St)(dst:Option Nat):Bool:=match dst with
 | some s=>!(eJ Γ).contains (1600000+s)||((Ms Γ).contains (st.np+s)&&(bL Γ).contains s)
 | none=>true
def QM(P:Program)(st:St)(dst:Option Nat)(t:TypeId)(k:St→D→Option R):Option R:=match xN Γ with
 | []=>mU P st dst t k
 | B=>if (G4 Γ st dst&&ID Γ st dst)=true then mU P st dst t fun s d=>if (SI B st.objs s.objs||kI (bL Γ) dst)=true then k s d else none else none
def Ok:List Nat:=(eJ Γ).filterMap fun g=>if 5000000≤g then some (g-5000000) else none
def QN:D→List C
 | .s s=>s.list
 | .tup l=>l.flatMap S1.list
def Jn(o:Option O):List Nat:=match o with
 | some (.box l)=>l.flatMap C.rs
 | _=>[]
def jM(objs:List O)(k:Nat)(ds:List D):Bool:=ds.all fun d=>(QN d).all fun c=>!c.rs.contains k&&c.ks.all fun k'=>k' != k&&!(Jn objs[k']?).contains k
def I4:Option O→Bool
 | some .fresh=>false
 | some _=>true
 | none=>false
def Mz(objs:List O)(ds:List D):Bool:=(Ok Γ).all fun k=>I4 objs[k]?&&jM objs k ds
def CQ(objs:List O)(dst:Option Nat)(ds:List D):Bool:=match dst with
 | some s=>!(eJ Γ).contains (2000000+s)||((bL Γ).contains (10000000+s)&&Mz Γ objs ds)
 | none=>true
def z8:D→Bool
 | .s (.c (.t _))=>true
 | .s (.c (.row k))=>(eJ Γ).contains (5000000+k)
 | _=>false
def Cr(dst:Option Nat)(x:D):Bool:=match dst with
 | some s=>!(eJ Γ).contains (3000000+s)||z8 Γ x
 | none=>true
def nE(st:St)(dst:Option Nat)(ds:List D):Bool:=match dst with
 | some s=>!(eJ Γ).contains (2500000+s)||((bL Γ).contains (10000000+s)&&(((bL Γ).contains s&&!(eJ Γ).contains (2000000+s))&&(Ms Γ).all fun k=>jM st.objs k ds&&(decide (k<st.np+st.env.length)&&(k != st.np+s&&decide (k<st.objs.length)))))
 | none=>true
def VN(st:St)(dst:Option Nat)(f:D)(args:List D)(k:St→Option R):Option R:=match xN Γ with
 | []=>eP Γ st dst f args fun st d=>k (st.put dst d)
 | B=>if kI (bL Γ) dst=true then eP Γ st dst f args fun st d=>k (st.put dst d) else if VM B (f::args)=true then eP Γ st dst f args fun st' d=>(fun s:St=>if SI B st.objs s.objs=true then k s else none) (st'.put dst d) else none
def XP(st:St)(dst:Option Nat)(f:D)(args:List D)(k:St→Option R):Option R:=if (CQ Γ st.objs dst (f::args)&&nE Γ st dst (f::args))=true then VN Γ st dst f args k else none
def ZV(x:D)(k:D→Option R):Option R:=mE x fun c=>match c with
 | .box _ _=>k x
 | .elt _ _ _ _=>k x
 | .pe _ _ _=>k x
 | _=>none
def K8:D→Bool
 | .s (.c (.t _))=>true
 | _=>false
def CR(dst:Option Nat)(x:D):Bool:=match xN Γ with
 | []=>true
 | _=>K8 x||kI (bL Γ) dst
def Ku(dst:Option Nat):Bool:=match dst with
 | some s=>(eJ Γ).contains (4000000+s)
 | none=>false
def K9(dst:Option Nat)(x:D):Bool:=!Ku Γ dst||z8 Γ x
def QO:D→Bool
 | .s (.c (.t _))=>true
 | .s (.c (.row k))=>!(eJ Γ).contains (5000000+k)
 | _=>false
def IE(objs:List O)(dst:Option Nat):Bool:=!Ku Γ dst||(Ok Γ).all fun k=>I4 objs[k]?
def Cs(objs:List O)(dst:Option Nat)(s:D):Bool:=IE Γ objs dst&&(!Ku Γ dst||QO Γ s)
def Jo:List D→Bool
 | [.s (.c (.t _)),.s (.c (.t _))]=>true
 | [.s (.c (.row _)),.s (.c (.t _))]=>true
 | [.s (.c (.t _)),.s (.c (.row _))]=>true
 | [.s (.c (.row _)),.s (.c (.row _))]=>true
 | _=>false
def XQ(st:St)(dst:Option Nat)(args:List D):Bool:=match dst with
 | some s=>!(eJ Γ).contains (2500000+s)||(nE Γ st dst args&&(Jo args&&!Ku Γ dst))
 | none=>true
def qT(st:St)(dst:Option Nat)(bi:Builtin)(args:List D):Bool:=match bi with
 | .len=>args.all fun x=>CR Γ dst x&&Cr Γ dst x
 | .append=>match args with
  | s::_=>Cs Γ st.objs dst s&&XQ Γ st dst args
  | []=>true
 | _=>true
def Ct(t:TypeId)(x:D):Bool:=match xN Γ with
 | []=>true
 | B=>(bL Γ).contains 8999999||(bL Γ).contains (60000000+t)||match x with
  | .s (.c (.box k _))=>!B.contains k
  | .s (.c (.elt _ _ _ _))=>true
  | _=>false
def VO:D→Bool
 | .s (.c (.elt _ _ _ _))=>true
 | _=>false
def QP:D→Bool
 | .s (.c (.box _ _))=>true
 | _=>false
def Cu:D→Bool
 | .s (.c (.box k _))=>(eJ Γ).contains (5000000+k)
 | _=>false
def VP:D→Bool
 | .s (.c (.box k _))=>!(eJ Γ).contains (5000000+k)
 | _=>false
def XR(t:TypeId)(x:D):Bool:=((!(D5 Γ).contains t||VO x)&&(!(D5 Γ).contains (1000000+t)||QP x))&&(!(D5 Γ).contains (2000000+t)||VP Γ x)
def yD(dst:Option Nat)(x:D):Bool:=match dst with
 | some s=>(!(eJ Γ).contains s||QP x)&&(!(eJ Γ).contains (1000000+s)||Cu Γ x)
 | none=>true
def Ox:List Nat:=match Γ 2000001 with
 | some A=>A.loose
 | none=>[]
def Kv(dst:Option Nat):Bool:=match dst with
 | some s=>(Ox Γ).contains s
 | none=>false
def d6(P:Program)(st:St)(dst:Option Nat)(t:TypeId)(l c:D)(k:St→D→Option R):Option R:=if Kv Γ dst=true then uL P st dst t l c k else kW P st dst t l c k
def wB(P:Program)(st:St)(dst:Option Nat)(t:TypeId)(k:St→D→Option R):Option R:=if Kv Γ dst=true then wA P st dst t k else v8 P st dst t k
def gF(P:Program)(st:St)(dst:Option Nat)(t:TypeId)(l c:D)(k:St→D→Option R):Option R:=match xN Γ with
 | []=>d6 Γ P st dst t l c k
 | _=>if G4 Γ st dst=true then d6 Γ P st dst t l c k else none
def VQ(dst:Option Nat):Bool:=match dst with
 | some s=>(eJ Γ).contains (500000+s)
 | none=>false
def Gx(P:Program)(st:St)(dst:Option Nat)(t:TypeId)(len:Nat)(parts:List (Nat×D))(k:St→D→Option R):Option R:=
 if VQ Γ dst=true then ZI P t len parts fun d=>k st d else if IE Γ st.objs dst=true then eV P st dst t len parts k else none
def Kw(o:Oper)(st:St)(k:St→Option R):Option R:=match o.op with
 | .move x=>k (st.put o.dst (ev st x))
 | .assign x=>k (st.put o.dst (ev st x))
 | .pick c x y=>NF (ev st c) fun q=>bif q then k (st.put o.dst (ev st x)) else k (st.put o.dst (ev st y))
 | .alloc e=>QM Γ P st o.dst e fun st d=>k (st.put o.dst d)
 | .box _ x=>SO st o.dst (ev st x) fun st d=>k (st.put o.dst d)
 | .build t parts=>zP P t (parts.toList.map fun p=>(p.1,ev st p.2)) fun d=>k (st.put o.dst d)
 | .buildSlice t len parts=>Gx Γ P st o.dst t len (parts.toList.map fun p=>(p.1,ev st p.2)) fun st d=>k (st.put o.dst d)
 | .load t x=>if yD Γ o.dst (ev st x)=true then l7 Γ P st o.dst t (ev st x) fun d=>k (st.put o.dst d) else none
 | .store t x v=>if (Ct Γ t (ev st x)&&XR Γ t (ev st x))=true then rM P st t (ev st x) (ev st v) fun st=>k (st.put o.dst D.top) else none
 | .nilCheck x=>ZV (ev st x) fun d=>k (st.put o.dst d)
 | .binOp op t x y yt=>NK P st op t yt (ev st x) (ev st y) fun d=>k (st.put o.dst d)
 | .unOp op t x=>Ki (P:=P) op t (ev st x) fun d=>k (st.put o.dst d)
 | .convert s t x=>KT P st s t (ev st x) fun d=>k (st.put o.dst d)
 | .makeFunc fn f c=>pN fn (f.toList.map (ev st)) (c.toList.map (ev st)) fun d=>k (st.put o.dst d)
 | .makeSlice t l c=>gF Γ P st o.dst t (ev st l) (ev st c) fun st d=>k (st.put o.dst d)
 | .slice t x lo hi mx=>if (CR Γ o.dst (ev st x)&&K9 Γ o.dst (ev st x))=true then l9 P st t (ev st x) (lo.map (ev st)) (hi.map (ev st)) (mx.map (ev st)) fun st d=>k (st.put o.dst d) else none
 | .fieldAddr t x f=>mV P t (ev st x) f fun d=>k (st.put o.dst d)
 | .field t x f=>DR P t (ev st x) f fun d=>k (st.put o.dst d)
 | .indexAddr t x ix=>n5 Γ P st o.dst t (ev st x) (ev st ix) fun d=>k (st.put o.dst d)
 | .index t x ix=>DS P t (ev st x) (ev st ix) fun d=>k (st.put o.dst d)
 | .extract x i=>sT (ev st x) i fun d=>k (st.put o.dst d)
 | .call { callee:=.builtin b,args,argTypes }=>if qT Γ st o.dst b (args.toList.map (ev st))=true then FD P st o.dst o.type b (args.toList.map (ev st)) argTypes.toList fun st d=>k (st.put o.dst d) else none
 | .call { callee:=.value f,args,.. }=>XP Γ st o.dst (ev st f) (args.toList.map (ev st)) k
 | .makeMap t none=>wB Γ P st o.dst t fun st d=>k (st.put o.dst d)
 | .lookup t x ix ok=>n3 P st t (ev st x) (ev st ix) ok fun d=>k (st.put o.dst d)
 | .mapUpdate t m q v=>n4 P st t (ev st m) (ev st q) (ev st v) fun st=>k (st.put o.dst D.top)
 | .insert t m q v=>n4 P st t (ev st m) (ev st q) (ev st v) fun st=>k (st.put o.dst D.top)
 | .mapEntry t m q=>mR P st t (ev st m) (ev st q) fun st d=>k (st.put o.dst d)
 | .entryStore t m q v=>pR P st t (ev st m) (ev st q) (ev st v) fun st=>k (st.put o.dst D.top)
 | _=>none
def NL:D:=.tup []
def ZW(d:D)(x y:Option R):Option R:=match d with
 | .tup []=>x
 | _=>y
def AA(ops:Array Oper):List Nat→St→(St→Option R)→Option R
 | [],st,k=>k st
 | i::jB,st,k=>match ops[i]? with
  | none=>AA ops jB st k
  | some o=>match o.guard with
   | none=>Kw P Γ o st fun st=>AA ops jB st k
   | some (j,want)=>match (ops[j]?).bind (·.dst) with
    | none=>none
    | some t=>ZW (st.env.getD t D.top) (AA ops jB (st.put o.dst NL) k) <| NF (st.env.getD t D.top) fun b=>
     bif b then
      (if want then Kw P Γ o (st.put (some t) (dB true)) fun st=>AA ops jB st k else AA ops jB ((st.put (some t) (dB true)).put o.dst NL) k)
     else
      (if want then AA ops jB ((st.put (some t) (dB false)).put o.dst NL) k else Kw P Γ o (st.put (some t) (dB false)) fun st=>AA ops jB st k)
end
section
variable {R:Type} {P:Program} {Γ:FuncId→Option Callee} {w0 w:World} {F Xc:Nat→Prop} {ρ0:Base} {ρ:fN} {st:St} {a:Act} {r:R} {Q:Exit→Act→World→Prop}
theorem G5{o:Oper}{next:Act→World→Prop}{y:Value}{w':World}(h:(execOp a.eval o).run P w=.ok (.value y) w')(hn:next (a.put o.dst y) w'):o.wp P a w next Q:=by
 unfold Oper.wp
 rw[h]
 exact hn
theorem dD{o:Oper}{next:Act→World→Prop}{y:Value}{w':World}{ρ':fN}{st':St}{d:D}{k:St→Option R}(hrun:(execOp a.eval o).run P w=.ok (.value y) w')(hR:Rel w0 F Xc ρ0 ρ' st' a w')
 (hd:RdD w' (XB st'.objs ρ' Xc) ρ' d y) (hk:k (st'.put o.dst d)=some r) (hn:∀ρ' st' a' w',Rel w0 F Xc ρ0 ρ' st' a' w'→k st'=some r→next a' w'):o.wp P a w next Q:=
 G5 hrun (hn ρ' _ _ _ (hR.put o.dst hd) hk)
theorem J7(h:Rel w0 F Xc ρ0 ρ st a w)(l:List Operand):∀(i:Nat) d v,(l.map (ev st))[i]?=some d→(l.map a.eval)[i]?=some v→RdD w (XB st.objs ρ Xc) ρ d v:=fun i d v h1 h2=>by
 rw[List.getElem?_map] at h1 h2
 cases hx:l[i]? with
 | none=>simp[hx] at h1
 | some x=>simp only[hx,Option.map_some,Option.some.injEq] at h1 h2;subst h1;subst h2;exact h.ev x
theorem VR(h:Rel w0 F Xc ρ0 ρ st a w)(o:Option Operand):H9 w (XB st.objs ρ Xc) ρ (o.map (ev st)) (o.map a.eval):=by
 cases o with
 | none=>trivial
 | some x=>exact h.ev x
theorem S6(h:Rel w0 F Xc ρ0 ρ st a w)(parts:Array (Nat×Operand)):
 (parts.toList.map fun p=>(p.1,ev st p.2)).length=(parts.map fun(i,x)=>(i,a.eval x)).toList.length ∧
 ∀(i:Nat) p q,(parts.toList.map fun p=>(p.1,ev st p.2))[i]?=some p→(parts.map fun(i,x)=>(i,a.eval x)).toList[i]?=some q→p.1=q.1∧RdD w (XB st.objs ρ Xc) ρ p.2 q.2:=by
 refine⟨by simp,fun i p q h1 h2=>?_⟩
 rw[Array.toList_map] at h2
 rw[List.getElem?_map] at h1 h2
 cases hx:parts.toList[i]? with
 | none=>simp[hx] at h1
 | some x=>simp only[hx,Option.map_some,Option.some.injEq] at h1 h2;subst h1;subst h2;exact⟨rfl,h.ev x.2⟩
theorem sB{f:FuncId}{args:Array Value}(h:fO P f):(callFunc f args).run P w=.ok (.enter f args) w:=by
 obtain⟨fn,h1,h2,h3⟩:=h
 unfold callFunc
 simp only[Sem.run_bind,run_program,Result.andThen_ok,h1]
 rw[if_neg (by rw[h3];simp),if_neg (by cases hb:fn.body <;> simp[hb] at h2 ⊢)]
 rfl
theorem XS{o:Oper}{next:Act→World→Prop}{f:FuncId}{vals:List Value}{k:St→D→Option R}{k':St→Option R}(hrun:(execOp a.eval o).run P w=.ok (.enter f vals.toArray) w)
 (hc:Calls P f vals.toArray w fun e w'=>∃v ρ' st' d,e=.returned v∧Rel w0 F Xc ρ0 ρ' st' a w'∧RdD w' (XB st'.objs ρ' Xc) ρ' d v∧k st' d=some r)
 (hkk:∀st d,k st d=k' (st.put o.dst d)) (hn:∀ρ' st' a' w',Rel w0 F Xc ρ0 ρ' st' a' w'→k' st'=some r→next a' w'):o.wp P a w next Q:=by
 unfold Oper.wp
 rw[hrun]
 refine hc.mono fun e w' ⟨v,ρ',st',d,he,hR,hd,hk⟩=>?_
 subst he
 exact hn ρ' _ _ _ (hR.put o.dst hd) ((hkk st' d)▸hk)
theorem G6{o:Oper}{c:Call}{f:Operand}{next:Act→World→Prop}{k:St→Option R}(hΓ:GOK P Γ)(hG:Good P w0 F)(ho:o.op=.call c)(hc:c.callee=.value f)(h:Rel w0 F Xc ρ0 ρ st a w)
 (hk:eP Γ st o.dst (ev st f) (c.args.toList.map (ev st)) (fun st d=>k (st.put o.dst d))=some r) (hn:∀ρ' st' a' w',Rel w0 F Xc ρ0 ρ' st' a' w'→k st'=some r→next a' w'):o.wp P a w next Q:=by
 unfold eP at hk
 obtain⟨cc,hfe,hcc,hk1⟩:=jJ (h.ev f) hk
 have hexec:execOp a.eval o=(do let d ←resolve a.eval c o.type;invoke d.target d.args):=by
  unfold execOp;rw[ho]
 split at hk1
 ·rename_i v
  split at hk1
  case h_2=>cases hk1
  rename_i g hg
  split at hk1
  case h_2=>cases hk1
  rename_i A hA
  obtain⟨hcall,hOK⟩:=hΓ g A hA
  have hv:a.eval f=.func (.func g) #[] #[]:=by
   rcases hcc with hcc | ⟨hcc,_⟩
   ·cases hcc
   ·rw[Rd.inv_v hcc]
    unfold lL at hg
    split at hg
    ·split at hg
     ·rename_i hemp
      simp only[Bool.and_eq_true,Array.isEmpty_iff] at hemp
      cases hg
      rw[hemp.1,hemp.2]
     ·cases hg
    ·cases hg
  have hinv:(execOp a.eval o).run P w=(callFunc g (c.args.toList.map a.eval).toArray).run P w:=by
   rw[hexec]
   unfold resolve
   simp only[hc,hv,Deferred.ofValue,Sem.run_bind,Sem.run_pure,Result.andThen_ok,invoke]
   congr 2
   apply Array.ext'
   simp
  split at hk1
  ·rename_i I hI
   obtain⟨y,d,h1,h2,h3⟩:=hOK.2.2 I hI _ _ _ (by simp) (J7 h _) hk1
   exact dD (by rw[hinv,h1]) h h2 h3 hn
  rename_i hext
  have hrun:(execOp a.eval o).run P w=.ok (.enter g (c.args.toList.map a.eval).toArray) w:=by rw[hinv,sB (hcall hext)]
  exact XS hrun (KS hG hOK h (by simp) (J7 h _) hk1) (fun st d=>rfl) hn
 ·rename_i g caps
  split at hk1
  case h_2=>cases hk1
  rename_i A hA
  obtain⟨hcall,hOK⟩:=hΓ g A hA
  split at hk1
  ·cases hk1
  rename_i hext
  replace hcall:=hcall hext
  rcases hcc with hcc | ⟨⟨hs,e1,e2,e3⟩,_⟩
  ·cases hcc
  ·have hrun:(execOp a.eval o).run P w=.ok (.enter g (c.args.toList.map a.eval++hs).toArray) w:=by
    rw[hexec]
    unfold resolve
    simp only[hc,e1,Deferred.ofValue,Sem.run_bind,Sem.run_pure,Result.andThen_ok,invoke]
    rw[sB hcall]
    congr 2
    apply Array.ext'
    simp
   refine XS hrun (KS hG hOK h (by simp[S5,e2]) (fun i d v h1 h2=>?_) hk1) (fun st d=>rfl) hn
   rw[List.getElem?_append] at h1 h2
   simp only[List.length_map] at h1 h2
   split at h1
   ·rename_i hi
    rw[if_pos hi] at h2
    exact J7 h _ i d v h1 h2
   ·rename_i hi
    rw[if_neg hi] at h2
    simp only[S5,List.getElem?_map] at h1
    cases hp:caps[i-c.args.toList.length]? with
    | none=>rw[hp] at h1;cases h1
    | some p=>
     simp only[hp,Option.map_some,Option.some.injEq] at h1
     subst h1
     obtain⟨hh,f1,f2⟩:=e3 _ p v hp h2
     obtain⟨ba,g1,g2⟩:=f2
     exact .one (c:=.box p.1 p.2) ⟨hh,f1,ba,g1,g2⟩ (by rw[g2];rfl)
 ·cases hk1
theorem XT{mx:Bool}{t:TypeId}{x y:D}{vx vy:Value}{X:Nat→Prop}{k:D→Option R}(hx:RdD w X ρ x vx)(hy:RdD w X ρ y vy)(hk:K7 P mx t x y k=some r)(ts:Array TypeId)(ty:TypeId):
 ∃v d,(if mx then Builtin.max_ ts ty #[vx,vy] else Builtin.min_ ts ty #[vx,vy]).run P w=.ok v w∧RdD w X ρ d v∧k d=some r:=by
 unfold K7 at hk
 split at hk
 ·obtain⟨a,rfl,hk1⟩:=rK hx hk
  obtain⟨b,rfl,hk2⟩:=rK hy hk1
  refine⟨_,_,?_,.int _ _,hk2⟩
  unfold mmI
  cases mx with
  | true=>exact Lib.run_max_ints w ts ty _ _ a b
  | false=>exact Lib.run_min_ints w ts ty _ _ a b
 ·obtain⟨a,rfl,hk1⟩:=pJ hx hk
  obtain⟨b,rfl,hk2⟩:=pJ hy hk1
  refine⟨_,_,?_,.str _,hk2⟩
  unfold Pt
  cases mx with
  | true=>
   have hb:∀q:Bool,(asBool (.bool q)).run P w=.ok q w:=fun _=>rfl
   simp[Builtin.max_,Builtin.max2,Op.stringOp,Gk,hb]
  | false=>
   have hb:∀q:Bool,(asBool (.bool q)).run P w=.ok q w:=fun _=>rfl
   simp[Builtin.min_,Builtin.min2,Op.stringOp,Gk,eqS,hb]
 ·cases hk
theorem VS{o:Oper}{k:St→Option R}{next:Act→World→Prop}(hΓ:GOK P Γ)(hG:Good P w0 F)(h:Rel w0 F Xc ρ0 ρ st a w)(hk:Kw P Γ o st k=some r)
 (hn:∀ρ' st' a' w',Rel w0 F Xc ρ0 ρ' st' a' w'→k st'=some r→next a' w'):o.wp P a w next Q:=by
 unfold Kw at hk
 split at hk
 ·rename_i x ho
  exact dD (y:=a.eval x) (by unfold execOp;rw[ho];rfl) h (h.ev x) hk hn
 ·rename_i x ho
  exact dD (y:=a.eval x) (by unfold execOp;rw[ho];rfl) h (h.ev x) hk hn
 ·rename_i c x y ho
  obtain⟨b,hb,hk1⟩:=vC (h.ev c) hk
  cases b with
  | true=>exact dD (y:=a.eval x) (by unfold execOp;rw[ho];dsimp only;rw[hb];rfl) h (h.ev x) hk1 hn
  | false=>exact dD (y:=a.eval y) (by unfold execOp;rw[ho];dsimp only;rw[hb];rfl) h (h.ev y) hk1 hn
 ·rename_i e ho
  unfold QM at hk
  have hk':∃k',mU P st o.dst e k'=some r∧∀s d,k' s d=some r→k (s.put o.dst d)=some r:=by
   split at hk
   ·exact⟨_,hk,fun _ _ h=>h⟩
   ·split at hk
    case isFalse=>cases hk
    exact⟨_,hk,fun s d h=>by
     split at h
     ·exact h
     ·cases h⟩
  obtain⟨k',hk,hkk⟩:=hk'
  obtain⟨y,w',ρ',st',d,h1,h2,h3,h4⟩:=ZJ h hk
  have h4:=hkk _ _ h4
  exact dD (by unfold execOp;rw[ho];simp only[Sem.run_bind,h1,Result.andThen_ok];rfl) h2 h3 h4 hn
 ·rename_i e x ho
  obtain⟨y,w',ρ',st',d,h1,h2,h3,h4⟩:=Gm (P:=P) (e:=e) h (h.ev x) hk
  exact dD (by unfold execOp;rw[ho];simp only[Sem.run_bind,h1,Result.andThen_ok];rfl) h2 h3 h4 hn
 ·rename_i t parts ho
  obtain⟨p1,p2⟩:=S6 h parts
  obtain⟨y,d,h1,h3,h4⟩:=OU p1 p2 hk
  exact dD (by unfold execOp;rw[ho];simp only[Sem.run_bind,h1,Result.andThen_ok];rfl) h h3 h4 hn
 ·rename_i t len parts ho
  obtain⟨p1,p2⟩:=S6 h parts
  unfold Gx at hk
  split at hk
  ·obtain⟨y,w',d,h1,h2,h3,h4⟩:=Gq h p1 p2 hk
   exact dD (by unfold execOp;rw[ho];simp only[Sem.run_bind,h1,Result.andThen_ok];rfl) (h.world h2) h3 h4 hn
  split at hk
  case isFalse=>cases hk
  obtain⟨y,w',ρ',st',d,h1,h2,h3,h4⟩:=KQ h p1 p2 hk
  exact dD (by unfold execOp;rw[ho];simp only[Sem.run_bind,h1,Result.andThen_ok];rfl) h2 h3 h4 hn
 ·rename_i t x ho
  split at hk
  case isFalse=>cases hk
  unfold l7 at hk
  have hk:nV P st t (ev st x) (fun d=>k (st.put o.dst d))=some r:=by
   split at hk
   ·exact hk
   ·split at hk
    ·exact hk
    ·cases hk
  obtain⟨d,y,h1,h3,h4⟩:=SM h (h.ev x) hk
  exact dD (by unfold execOp;rw[ho];simp only[Sem.run_bind,h1,Result.andThen_ok];rfl) h h3 h4 hn
 ·rename_i t x v ho
  split at hk
  case isFalse=>cases hk
  obtain⟨st',w',h1,h2,h3⟩:=ZG h (h.ev x) (h.ev v) hk
  unfold Oper.wp
  have hrun:(execOp a.eval o).run P w=.ok .skip w':=by unfold execOp;rw[ho];simp only[Sem.run_bind,h1,Result.andThen_ok];rfl
  rw[hrun]
  exact hn ρ _ _ _ (h2.put o.dst (.top_ _)) h3
 ·rename_i x ho
  unfold ZV at hk
  obtain⟨c,hx,hc,hk1⟩:=jJ (h.ev x) hk
  have hr:=h.ev x
  have key:∀(aa:Addr),a.eval x=.pointer (some aa)→(execOp a.eval o).run P w=.ok (.value (a.eval x)) w:=fun aa e=>by
   unfold execOp;rw[ho];dsimp only;rw[e];rfl
  split at hk1
  ·rcases hc with hc | ⟨⟨v,_,ba,_,e⟩,_⟩
   ·cases hc
   ·exact dD (key _ e) h hr hk1 hn
  ·rcases hc with hc | ⟨⟨v,_,ba,_,e⟩,_⟩
   ·cases hc
   ·exact dD (key _ e) h hr hk1 hn
  ·rcases hc with hc | ⟨⟨ba,e,_⟩,_⟩
   ·cases hc
   ·exact dD (key _ e) h hr hk1 hn
  ·cases hk1
 ·rename_i op t x y yt ho
  obtain⟨d,v,h1,h3,h4⟩:=Gw (xo:=x) (yo:=y) h (h.ev x) (h.ev y) hk
  exact dD (by unfold execOp;rw[ho];simp only[Sem.run_bind] at h1 ⊢;simp only[h1,Result.andThen_ok];rfl) h h3 h4 hn
 ·rename_i op t x ho
  obtain⟨d,v,h1,h3,h4⟩:=Kj (P:=P) (w:=w) (h.ev x) hk
  exact dD (by unfold execOp;rw[ho];simp only[Sem.run_bind,h1,Result.andThen_ok];rfl) h h3 h4 hn
 ·rename_i s t x ho
  obtain⟨y,w',d,h1,h2,h3,h4⟩:=Ci h (h.ev x) hk
  exact dD (by unfold execOp;rw[ho];simp only[Sem.run_bind,h1,Result.andThen_ok];rfl) (h.world h2) h3 h4 hn
 ·rename_i fn f c ho
  obtain⟨y,d,h1,h3,h4⟩:=P8 (P:=P) (w:=w) (X:=XB st.objs ρ Xc) (ρ:=ρ) (vf:=f.map a.eval) (vc:=c.map a.eval) (by simp) (by simp) (fun i d v e1 e2=>by
   rw[Array.toList_map] at e2
   exact J7 h _ i d v e1 e2) hk
  exact dD (by unfold execOp;rw[ho];simp only[Sem.run_bind,h1,Result.andThen_ok];rfl) h h3 h4 hn
 ·rename_i t l c ho
  have hk9:∃y w' ρ' st' d,(Instr.makeSlice t (a.eval l) (a.eval c)).run P w=.ok y w'∧Rel w0 F Xc ρ0 ρ' st' a w'∧RdD w' (XB st'.objs ρ' Xc) ρ' d y∧(fun st d=>k (st.put o.dst d)) st' d=some r:=by
   have hk8:d6 Γ P st o.dst t (ev st l) (ev st c) (fun st d=>k (st.put o.dst d))=some r:=by
    unfold gF at hk
    split at hk
    ·exact hk
    ·split at hk
     ·exact hk
     ·cases hk
   unfold d6 at hk8
   split at hk8
   ·exact U8 h (h.ev l) (h.ev c) hk8
   ·exact NI h (h.ev l) (h.ev c) hk8
  obtain⟨y,w',ρ',st',d,h1,h2,h3,h4⟩:=hk9
  exact dD (by unfold execOp;rw[ho];simp only[Sem.run_bind,h1,Result.andThen_ok];rfl) h2 h3 h4 hn
 ·rename_i t x lo hi mx ho
  split at hk
  case isFalse=>cases hk
  obtain⟨y,st',d,h1,h2,h3,h4⟩:=ZU (P:=P) (w:=w) h (h.ev x) (VR h lo) (VR h hi) (VR h mx) hk
  exact dD (by unfold execOp;rw[ho];simp only[Sem.run_bind,h1,Result.andThen_ok];rfl) h2 h3 h4 hn
 ·rename_i t x f ho
  obtain⟨y,d,h1,h3,h4⟩:=NG (P:=P) (h.ev x) hk
  exact dD (by unfold execOp;rw[ho];simp only[Sem.run_bind,h1,Result.andThen_ok];rfl) h h3 h4 hn
 ·rename_i t x f ho
  obtain⟨y,d,h1,h3,h4⟩:=ZK (P:=P) (h.ev x) hk
  exact dD (by unfold execOp;rw[ho];simp only[Sem.run_bind,h1,Result.andThen_ok];rfl) h h3 h4 hn
 ·rename_i t x ix ho
  unfold n5 at hk
  have hk:eO P st t (ev st x) (ev st ix) (fun d=>k (st.put o.dst d))=some r:=by
   split at hk
   ·exact hk
   ·split at hk
    ·exact hk
    ·cases hk
  obtain⟨y,d,h1,h3,h4⟩:=NH h (h.ev x) (h.ev ix) hk
  exact dD (by unfold execOp;rw[ho];simp only[Sem.run_bind,h1,Result.andThen_ok];rfl) h h3 h4 hn
 ·rename_i t x ix ho
  obtain⟨y,d,h1,h3,h4⟩:=ZL (P:=P) (h.ev x) (h.ev ix) hk
  exact dD (by unfold execOp;rw[ho];simp only[Sem.run_bind,h1,Result.andThen_ok];rfl) h h3 h4 hn
 ·rename_i x i ho
  obtain⟨y,d,h1,h3,h4⟩:=SQ (P:=P) (h.ev x) hk
  exact dD (by unfold execOp;rw[ho];simp only[Sem.run_bind,h1,Result.andThen_ok];rfl) h h3 h4 hn
 ·rename_i b args ts ho
  split at hk
  case isFalse=>cases hk
  rename_i hgq
  clear hgq
  unfold FD at hk
  have hexec:execOp a.eval o=builtin b ts o.type (args.map fun | .const _=>true | _=>false) (args.map a.eval):=by
   unfold execOp;rw[ho];rfl
  split at hk
  ·rename_i x t hargs hts
   have e1:∃xo,args=#[xo]∧ev st xo=x:=by
    obtain⟨l⟩:=args
    match l,hargs with
    | [xo],hargs=>simp at hargs;exact⟨xo,rfl,hargs⟩
   obtain⟨xo,rfl,rfl⟩:=e1
   have e2:ts=#[t]:=by obtain⟨l⟩:=ts;simp at hts;rw[hts]
   subst e2
   obtain⟨y,d,h1,h3,h4⟩:=Gn (ty:=o.type) h (h.ev xo) hk
   refine dD (y:=y) ?_ h h3 h4 hn
   rw[hexec]
   simp only[builtin,List.map_toArray,List.map_cons,List.map_nil,Sem.run_bind,h1,Result.andThen_ok]
   rfl
  ·rename_i s x t u hargs hts
   have e1:∃so xo,args=#[so,xo]∧ev st so=s∧ev st xo=x:=by
    obtain⟨l⟩:=args
    match l,hargs with
    | [so,xo],hargs=>simp at hargs;exact⟨so,xo,rfl,hargs⟩
   obtain⟨so,xo,rfl,rfl,rfl⟩:=e1
   have e2:ts=#[t,u]:=by obtain⟨l⟩:=ts;simp at hts;rw[hts]
   subst e2
   obtain⟨y,w',ρ',st',d,h1,h2,h3,h4⟩:=U7 (ty:=o.type) h (h.ev so) (h.ev xo) hk
   refine dD (y:=y) ?_ h2 h3 h4 hn
   rw[hexec]
   simp only[builtin,List.map_toArray,List.map_cons,List.map_nil,Sem.run_bind,h1,Result.andThen_ok]
   rfl
  ·rename_i s x t u hargs hts
   have e1:∃so xo,args=#[so,xo]∧ev st so=s∧ev st xo=x:=by
    obtain⟨l⟩:=args
    match l,hargs with
    | [so,xo],hargs=>simp at hargs;exact⟨so,xo,rfl,hargs⟩
   obtain⟨so,xo,rfl,rfl,rfl⟩:=e1
   have e2:ts=#[t,u]:=by obtain⟨l⟩:=ts;simp at hts;rw[hts]
   subst e2
   obtain⟨y,w',st',d,h1,h2,h3,h4⟩:=Cj (u:=u) (ty:=o.type) h (h.ev so) (h.ev xo) hk
   refine dD (y:=y) ?_ h2 h3 h4 hn
   rw[hexec]
   simp only[builtin,List.map_toArray,List.map_cons,List.map_nil,Sem.run_bind,h1,Result.andThen_ok]
   rfl
  ·rename_i x y t u hargs hts
   have e1:∃so xo,args=#[so,xo]∧ev st so=x∧ev st xo=y:=by
    obtain⟨l⟩:=args
    match l,hargs with
    | [so,xo],hargs=>simp at hargs;exact⟨so,xo,rfl,hargs⟩
   obtain⟨so,xo,rfl,rfl,rfl⟩:=e1
   obtain⟨v,d,h1,h3,h4⟩:=XT (h.ev so) (h.ev xo) hk ts o.type
   refine dD (y:=v) ?_ h h3 h4 hn
   rw[hexec]
   simp only[Bool.false_eq_true,if_false] at h1
   simp only[builtin,List.map_toArray,List.map_cons,List.map_nil,Sem.run_bind,h1,Result.andThen_ok]
   rfl
  ·rename_i x y t u hargs hts
   have e1:∃so xo,args=#[so,xo]∧ev st so=x∧ev st xo=y:=by
    obtain⟨l⟩:=args
    match l,hargs with
    | [so,xo],hargs=>simp at hargs;exact⟨so,xo,rfl,hargs⟩
   obtain⟨so,xo,rfl,rfl,rfl⟩:=e1
   obtain⟨v,d,h1,h3,h4⟩:=XT (h.ev so) (h.ev xo) hk ts o.type
   refine dD (y:=v) ?_ h h3 h4 hn
   rw[hexec]
   simp only[if_true] at h1
   simp only[builtin,List.map_toArray,List.map_cons,List.map_nil,Sem.run_bind,h1,Result.andThen_ok]
   rfl
  ·cases hk
 ·rename_i f args ts ho
  unfold XP at hk
  split at hk
  case isFalse=>cases hk
  unfold VN at hk
  split at hk
  ·exact G6 (f:=f) hΓ hG ho rfl h hk hn
  ·rename_i B _
   split at hk
   ·exact G6 (f:=f) hΓ hG ho rfl h hk hn
   split at hk
   ·exact G6 (f:=f) (k:=fun s:St=>if SI (xN Γ) st.objs s.objs=true then k s else none) hΓ hG ho rfl h hk fun ρ' st' a' w' hR hk'=>hn ρ' st' a' w' hR (by
     split at hk'
     ·exact hk'
     ·cases hk')
   ·cases hk
 ·rename_i t ho
  have hmk:∃y w' ρ' st' d,(Instr.makeMap t none).run P w=.ok y w'∧Rel w0 F Xc ρ0 ρ' st' a w'∧RdD w' (XB st'.objs ρ' Xc) ρ' d y∧k (st'.put o.dst d)=some r:=by
   unfold wB at hk
   split at hk
   ·exact S4 h hk
   ·exact S3 h hk
  obtain⟨y,w',ρ',st',d,h1,h2,h3,h4⟩:=hmk
  exact dD (by unfold execOp;rw[ho];simp only[Option.map_none,Sem.run_bind,h1,Result.andThen_ok];rfl) h2 h3 h4 hn
 ·rename_i t x ix ok ho
  obtain⟨y,d,h1,h3,h4⟩:=VK h (h.ev x) (h.ev ix) hk
  exact dD (by unfold execOp;rw[ho];simp only[Sem.run_bind,h1,Result.andThen_ok];rfl) h h3 h4 hn
 ·rename_i t m q v ho
  obtain⟨ρ',st',w',h1,h2,h3⟩:=K6 h (h.ev m) (h.ev q) (h.ev v) hk
  unfold Oper.wp
  have hrun:(execOp a.eval o).run P w=.ok .skip w':=by unfold execOp;rw[ho];simp only[Sem.run_bind,h1,Result.andThen_ok];rfl
  rw[hrun]
  exact hn ρ' _ _ _ (h2.put o.dst (.top_ _)) h3
 ·rename_i t m q v ho
  obtain⟨ρ',st',w',h1,h2,h3⟩:=K6 h (h.ev m) (h.ev q) (h.ev v) hk
  unfold Oper.wp
  have hrun:(execOp a.eval o).run P w=.ok .skip w':=by unfold execOp;rw[ho];simp only[Sem.run_bind,h1,Result.andThen_ok];rfl
  rw[hrun]
  exact hn ρ' _ _ _ (h2.put o.dst (.top_ _)) h3
 ·rename_i t m q ho
  obtain⟨y,st',w',d,h1,h2,h3,h4⟩:=VH h (h.ev m) (h.ev q) hk
  exact dD (by unfold execOp;rw[ho];simp only[Sem.run_bind,h1,Result.andThen_ok];rfl) h2 h3 h4 hn
 ·rename_i t m q v ho
  obtain⟨st',w',h1,h2,h3⟩:=QH h (h.ev m) (h.ev q) (h.ev v) hk
  unfold Oper.wp
  have hrun:(execOp a.eval o).run P w=.ok .skip w':=by unfold execOp;rw[ho];simp only[Sem.run_bind,h1,Result.andThen_ok];rfl
  rw[hrun]
  exact hn ρ _ _ _ (h2.put o.dst (.top_ _)) h3
 ·cases hk
end
section
variable {R:Type} {P:Program} {Γ:FuncId→Option Callee} {w0 w:World} {F Xc:Nat→Prop} {ρ0:Base} {ρ:fN} {st:St} {a:Act} {r:R} {Q:Exit→Act→World→Prop}
theorem Rel.slot(h:Rel w0 F Xc ρ0 ρ st a w){t:Nat}{d:D}(hd:∀y,a.tmps[t]?=some y→RdD w (XB st.objs ρ Xc) ρ d y):Rel w0 F Xc ρ0 ρ (st.put (some t) d) a w:=by
 refine⟨by simpa[St.put] using h.len,fun i d' y h1 h2=>?_,h.objs,h.sep,h.own,h.par,h.defers,h.frame,h.xcl,h.xc,h.ext⟩
 simp only[St.put,List.getElem?_set] at h1
 by_cases hit:t=i
 ·subst hit
  rw[if_pos rfl] at h1
  split at h1
  ·cases h1;exact hd y h2
  ·cases h1
 ·rw[if_neg hit] at h1
  exact h.env i d' y h1 h2
theorem VT{X:Nat→Prop}:RdD w X ρ NL undef:=⟨#[],rfl,rfl,fun i s y h=>by cases h⟩
theorem lM{ops:Array Oper}{tail:List Nat}(hΓ:GOK P Γ)(hG:Good P w0 F):∀(l:List Nat) {ρ:fN} {st:St} {a:Act} {w:World} {k:St→Option R},Rel w0 F Xc ρ0 ρ st a w→AA P Γ ops l st k=some r →
 (∀ρ' st' a' w',Rel w0 F Xc ρ0 ρ' st' a' w'→k st'=some r→wpOps P ops Q tail a' w')→wpOps P ops Q (l++tail) a w
 | [],ρ,st,a,w,k,h,hk,hn=>hn ρ st a w h hk
 | i::jB,ρ,st,a,w,k,h,hk,hn=>by
  simp only[AA] at hk
  simp only[List.cons_append,wpOps]
  split at hk
  ·rename_i ho
   simp only[ho]
   exact lM hΓ hG jB h hk hn
  ·rename_i o ho
   simp only[ho]
   split at hk
   ·rename_i hg
    have hw:Region.wanted o (yielded ops a.tmps)=true:=by simp[Region.wanted,hg]
    rw[if_pos hw]
    exact .inl (VS hΓ hG h hk fun ρ' st' a' w' hR hk'=>lM hΓ hG jB hR hk' hn)
   ·rename_i j want hg
    split at hk
    case h_1=>cases hk
    rename_i t hdst
    have hr:=h.ev (.tmp t)
    have hev:ev st (.tmp t)=st.env.getD t D.top:=rfl
    rw[hev] at hr
    unfold ZW at hk
    split at hk
    case h_1=>
     rename_i hoff
     rw[hoff] at hr
     obtain⟨vs,hvs,hl,_⟩:=hr
     have hu:a.eval (.tmp t)=.tuple #[]:=by
      rw[hvs]
      have:vs=#[]:=by simpa using hl
      rw[this]
     have hw:Region.wanted o (yielded ops a.tmps)=false:=by
      have hy:yielded ops a.tmps j=none:=by
       simp only[yielded,hdst,Option.bind_some]
       cases hc:a.tmps[t]? with
       | none=>rfl
       | some y=>
        have:a.eval (.tmp t)=y:=by simp[Act.eval,Array.getD_eq_getD_getElem?,hc]
        rw[this] at hu
        subst hu;rfl
      simp[Region.wanted,hg,hy]
     rw[if_neg (by rw[hw];decide)]
     exact lM hΓ hG jB (h.put o.dst VT) hk hn
    obtain⟨b,hb,hk1⟩:=vC hr hk
    have hlt:t<a.tmps.size:=by
     apply Classical.byContradiction
     intro hge
     have:a.eval (.tmp t)=undef:=by simp[Act.eval,Array.getD_eq_getD_getElem?,Array.getElem?_eq_none (Nat.le_of_not_lt hge)]
     rw[this] at hb
     cases hb
    have hat:a.tmps[t]?=some (.bool b):=by
     have:a.eval (.tmp t)=a.tmps[t]:=by simp[Act.eval,Array.getD_eq_getD_getElem?,Array.getElem?_eq_getElem hlt]
     rw[Array.getElem?_eq_getElem hlt,←this,hb]
    have hw:Region.wanted o (yielded ops a.tmps)=(b==want):=by
     simp only[Region.wanted,hg,yielded,hdst,Option.bind_some,hat]
     cases b <;> cases want <;> rfl
    have hslot:Rel w0 F Xc ρ0 ρ (st.put (some t) (dB b)) a w:=h.slot fun y hy=>by
     rw[hat] at hy;cases hy;exact .bool b
    cases b with
    | true=>
     simp only[cond_true] at hk1
     cases want with
     | true=>
      rw[if_pos rfl] at hk1
      rw[if_pos (show Region.wanted o (yielded ops a.tmps)=true from hw)]
      exact .inl (VS hΓ hG hslot hk1 fun ρ' st' a' w' hR hk'=>lM hΓ hG jB hR hk' hn)
     | false=>
      rw[if_neg (by decide)] at hk1
      rw[if_neg (by rw[hw];decide)]
      exact lM hΓ hG jB (hslot.put o.dst VT) hk1 hn
    | false=>
     simp only[cond_false] at hk1
     cases want with
     | true=>
      rw[if_pos rfl] at hk1
      rw[if_neg (by rw[hw];decide)]
      exact lM hΓ hG jB (hslot.put o.dst VT) hk1 hn
     | false=>
      rw[if_neg (by decide)] at hk1
      rw[if_pos (show Region.wanted o (yielded ops a.tmps)=true from hw)]
      exact .inl (VS hΓ hG hslot hk1 fun ρ' st' a' w' hR hk'=>lM hΓ hG jB hR hk' hn)
theorem QQ{ops:Array Oper}(hΓ:GOK P Γ)(hG:Good P w0 F)(l:List Nat){ρ:fN}{st:St}{a:Act}{w:World}{k:St→Option R}(h:Rel w0 F Xc ρ0 ρ st a w)(hk:AA P Γ ops l st k=some r)
 (hn:∀ρ' st' a' w',Rel w0 F Xc ρ0 ρ' st' a' w'→k st'=some r→Q .normal a' w'):wpOps P ops Q l a w:=by
 have:=lM (Q:=Q) (tail:=[]) hΓ hG l h hk hn
 rwa[List.append_nil] at this
end
inductive Sh where
 | int (k:IntKind)
 | bool
 | str
 | sl (n:Nat)
 | row (e:TypeId) (n:Nat) (key:Nat)
 | rr (e e2:TypeId) (n:Nat) (key:Nat)
 | tree
 | lit (c:C)
def Sh.ty:Sh→Type
 | .int _=>Int
 | .bool=>Bool
 | .str=>ByteArray
 | .sl _=>List T
 | .row _ _ _=>List T
 | .rr _ _ _ _=>List (List T)
 | .tree=>T
 | .lit _=>Unit
def nR:List Sh→Type
 | []=>Unit
 | s::l=>s.ty×nR l
inductive It where
 | slot (i:Nat)
 | aggs (i n:Nat)
 | box (k n:Nat)
 | boxr (i k n:Nat)
structure Hint where
 items:List It
 shapes:List Sh
def O2(σ:List (Nat×Nat)):List (Nat×Nat)→List (Nat×Nat)→Bool
 | [],[]=>true
 | p::l,q::m=>σ.contains (p.1,q.1)&&p.2==q.2&&O2 σ l m
 | _,_=>false
def C.same(σ:List (Nat×Nat)):C→C→Bool
 | _,.top=>true
 | .box k j,.box k' j'=>σ.contains (k,k')&&j==j'
 | .row k,.row k'=>σ.contains (k,k')
 | .fn f l,.fn f' l'=>f==f'&&O2 σ l l'
 | .self u,.self u'=>u==u'
 | .t (.v v),.t (.v v')=>match lL v,lL v' with
  | some f,some f'=>f==f'
  | _,_=>false
 | _,_=>false
section
variable {R:Type}
@[irreducible] def uN(m:Nat)(l:List (List T)):List T:=l.map (T.sl m)
@[irreducible] def S7(m:Nat)(l:List (List T)):List T:=l.map fun r=>.agg [r.headD (.agg []),.sl m r.tail]
def Kx(e:TypeId):Nat:=if e<1000000000 then 1 else e
def Cv(e:TypeId)(m:Nat)(l:List (List T)):List T:=if e<1000000000 then uN m l else S7 m l
def FE(σ:List (Nat×Nat))(objs:List O)(s:Sh)(c:C)(f:s.ty→List (Option Nat)→List Nat→Option R):Option R:=match s with
 | .int k=>match c with
  | .t x=>ob (x.int? k) fun n=>f n [] []
  | _=>none
 | .bool=>match c with
  | .t x=>ob x.bool? fun b=>f b [] []
  | _=>none
 | .str=>match c with
  | .t x=>ob x.str? fun s=>f s [] []
  | _=>none
 | .sl n=>match c with
  | .t x=>ob (x.sl? n) fun l=>f l [] []
  | .row key=>match objs[key]? with
   | some (.row _ _ n' es)=>if n'=n then f es [] [key] else none
   | some (.mp _ _ n' es)=>if n'=n then f es [] [key] else none
   | _=>none
  | .cut key m lo len _=>match objs[key]? with
   | some (.row _ _ n' es)=>if n'=n∧m=n then f (iR es lo len) [] [key] else none
   | _=>none
  | .rk k0=>match rL objs 64 k0 with
   | some K=>match objs[K]? with
    | some (.rr none e1 _ m l)=>if n=Kx e1 then f (Cv e1 m l) [] [K] else none
    | _=>none
   | none=>none
  | _=>none
 | .rr e e2 n _=>match c with
  | .rk k0=>match rL objs 64 k0 with
   | some K=>match objs[K]? with
    | some (.rr none e' e2' n' l)=>if e'=e∧e2'=e2∧n'=n then f l [some K] [] else none
    | _=>none
   | none=>none
  | _=>none
 | .row e n _=>match c with
  | .t (.v (.slice none 0 0))=>if 0<n∧n<1000000000 then f [] [none] [] else none
  | .row key=>match objs[key]? with
   | some (.row false e' n' es)=>if n<1000000000∧e'=e∧n'=n then f es [some key] [] else none
   | some (.mp false e' n' es)=>if (1000000000≤n∧n<2000000000)∧e'=e∧n'=n then f es [some key] [] else none
   | some (.itr none e' n' es)=>if 2000000000≤n∧e'=e∧n'=n then f es [some key] [] else none
   | _=>none
  | _=>none
 | .tree=>match c with
  | .t x=>f x [] []
  | _=>none
 | .lit c'=>if c.same σ c' then f () [] [] else none
def G7(σ:List (Nat×Nat))(objs:List O):(l:List Sh)→List C→(nR l→List (Option Nat)→List Nat→Option R)→Option R
 | [],[],f=>f () [] []
 | s::l,c::cs,f=>FE σ objs s c fun x rs zs=>G7 σ objs l cs fun t rs' zs'=>f (x,t) (rs++rs') (zs++zs')
 | _,_,_=>none
end
def Gy:(s:Sh)→s.ty→C
 | .int k,n=>.t (.v (.int k n))
 | .bool,b=>.t (.v (.bool b))
 | .str,s=>.t (.v (.string s))
 | .sl n,l=>.t (.sl n l)
 | .row _ _ key,_=>.row key
 | .rr _ _ _ key,_=>.rk key
 | .tree,x=>.t x
 | .lit c,_=>c
def vG:(l:List Sh)→nR l→List C
 | [],_=>[]
 | s::l,t=>Gy s t.1::vG l t.2
def d7:(l:List Sh)→nR l→List (Nat×O)
 | [],_=>[]
 | .row e n key::l,t=>(key,KI e n t.1)::d7 l t.2
 | .rr e e2 n key::l,t=>(key,.rr none e e2 n t.1)::d7 l t.2
 | _::l,t=>d7 l t.2
def dP(st:St):List It→Option (List C)
 | []=>some []
 | .slot i::l=>match st.env.getD i D.top,dP st l with
  | .s (.c c),some cs=>some (c::cs)
  | _,_=>none
 | .aggs i n::l=>match st.env.getD i D.top,dP st l with
  | .s (.agg a),some cs=>if a.length=n then some (a++cs) else none
  | _,_=>none
 | .box k n::l=>match st.objs[k]?,dP st l with
  | some (.box a),some cs=>if a.length=n then some (a++cs) else none
  | _,_=>none
 | .boxr i _ n::l=>match st.env.getD i D.top,dP st l with
  | .s (.c (.box key 0)),some cs=>match st.objs[key]? with
   | some (.box a)=>if a.length=n then some (a++cs) else none
   | _=>none
  | _,_=>none
def bW(st:St):List It→List (Nat×Nat)
 | []=>[]
 | .box k _::l=>(k,k)::bW st l
 | .boxr i k _::l=>match st.env.getD i D.top with
  | .s (.c (.box key 0))=>(key,k)::bW st l
  | _=>bW st l
 | _::l=>bW st l
def cH:List Sh→List C→List (Nat×Nat)
 | .row _ _ key::l,.row k::cs=>(k,key)::cH l cs
 | _::l,_::cs=>cH l cs
 | _,_=>[]
def b8:List It→List C→St→St
 | [],_,st=>st
 | .slot i::l,cs,st=>b8 l cs.tail { st with env:=st.env.set i (.s (.c (cs.headD .top))) }
 | .aggs i n::l,cs,st=>b8 l (cs.drop n) { st with env:=st.env.set i (.s (.agg (cs.take n))) }
 | .box k n::l,cs,st=>b8 l (cs.drop n) { st with objs:=st.objs.set k (.box (cs.take n)) }
 | .boxr i k n::l,cs,st=>b8 l (cs.drop n) { st with env:=st.env.set i (.s (.c (.box k 0))),objs:=st.objs.set k (.box (cs.take n)) }
def jN(objs:List O):List (Nat×O)→List O
 | []=>objs
 | p::l=>jN (objs.set p.1 p.2) l
def b9:List It→List Nat
 | []=>[]
 | .box k _::l=>k::b9 l
 | .boxr _ k _::l=>k::b9 l
 | _::l=>b9 l
def bF:List Sh→List Nat
 | []=>[]
 | .row _ _ key::l=>key::bF l
 | .rr _ _ _ key::l=>key::bF l
 | _::l=>bF l
def fW(np n m:Nat):St:={ np:=np,env:=List.replicate n D.top,objs:=List.replicate np .dead++List.replicate (m-np) .fresh }
def bN(h:Hint)(np n m:Nat)(t:nR h.shapes):St:=
 let st:=b8 h.items (vG h.shapes t) (fW np n m)
 { st with objs:=jN st.objs (d7 h.shapes t) }
def Hint.ok(h:Hint)(m:Nat):Bool:=
 let bs:=b9 h.items
 let rs:=bF h.shapes
 (bs++rs).all (fun k=>k<m)&&decide ((bs++rs).Nodup)
def QR(np:Nat):List Nat→List (Option Nat)→Bool
 | k::ks,s::ss=>(decide (np≤k)||s==some k)&&QR np ks ss
 | _,_=>true
def yE{R:Type}(h:Hint)(st:St)(f:nR h.shapes→Option R):Option R:=match dP st h.items with
 | some cs=>let bp:=bW st h.items
  G7 (bp++cH h.shapes cs) st.objs h.shapes cs fun t rs zs=>if h.ok st.objs.length&&QR st.np (bF h.shapes) rs&&bp.all (fun p=>p.1==p.2||decide (st.np≤p.2))&&decide ((bp.map (·.1)).Nodup)&&decide (rs.filterMap id).Nodup&&zs.all (fun z=>!rs.contains (some z))&&decide (st.np≤st.objs.length) then f t else none
 | none=>none
section
variable {R:Type} {w0 w:World} {F Xc X'':Nat→Prop} {ρ0:Base} {ρ ρ'':fN} {st:St} {a:Act} {r:R}
def AC:List Nat→List (Option Nat)→Nat→Option (Option Nat)
 | k::ks,s::ss,j=>if k=j then some s else AC ks ss j
 | _,_,_=>none
def Ky:Value:=.slice none 0 0
def Ol(ρ:fN):Option Nat→Option Value
 | some k=>ρ k
 | none=>some Ky
theorem O3:∀(ks:List Nat) (ss:List (Option Nat)) (i:Nat) (k:Nat) (s:Option Nat),ks.Nodup→ks[i]?=some k→ss[i]?=some s→AC ks ss k=some s
 | [],_,i,k,s,_,h,_=>by simp at h
 | k'::ks,[],i,k,s,_,_,h=>by simp at h
 | k'::ks,s'::ss,i,k,s,hn,h1,h2=>by
  obtain⟨hk,hn'⟩:=List.nodup_cons.1 hn
  cases i with
  | zero=>simp at h1 h2;subst h1;subst h2;simp[AC]
  | succ i=>
   simp at h1 h2
   have:k'≠k:=fun e=>hk (e▸List.mem_of_getElem? h1)
   simp only[AC,if_neg this]
   exact O3 ks ss i k s hn' h1 h2
theorem LA:∀(ks:List Nat) (ss:List (Option Nat)) (k:Nat) (s:Option Nat),AC ks ss k=some s→∃i:Nat,ks[i]?=some k∧ss[i]?=some s
 | [],_,k,s,h=>by simp[AC] at h
 | k'::ks,[],k,s,h=>by simp[AC] at h
 | k'::ks,s'::ss,k,s,h=>by
  simp only[AC] at h
  split at h
  ·rename_i e;cases h;exact⟨0,by simp[e],rfl⟩
  ·obtain⟨i,h1,h2⟩:=LA ks ss k s h
   exact⟨i+1,by simpa using h1,by simpa using h2⟩
structure Turn (ρ ρ'':fN) (X X'':Nat→Prop) (objs:List O) (keys:List Nat) (src:List (Option Nat)) (zs:List Nat) (σ:List (Nat×Nat)):Prop where
 sub:∀b,X'' b→X b
 len:keys.length=src.length
 rows:∀(i:Nat) k s,keys[i]?=some k→src[i]?=some s→ρ'' k=Ol ρ s
 trees:∀z∈zs,∀v b,ρ z=some v→blkIn v b→¬X'' b
 lit:∀p∈σ,∀v,ρ p.1=some v→ρ'' p.2=some v
theorem LC{v:Value}{f:FuncId}(h:lL v=some f):v=.func (.func f) #[] #[]:=by
 unfold lL at h
 split at h
 ·split at h
  ·rename_i hemp
   simp only[Bool.and_eq_true,Array.isEmpty_iff] at hemp
   cases h
   rw[hemp.1,hemp.2]
  ·cases h
 ·cases h
theorem S8{σ:List (Nat×Nat)}(hl:∀p∈σ,∀v,ρ p.1=some v→ρ'' p.2=some v):∀{l m:List (Nat×Nat)} {vs:List Value},O2 σ l m=true→vs.length=l.length →
 (∀(i:Nat) p v,l[i]?=some p→vs[i]?=some v→∃h,ρ p.1=some h∧KJ h p.2 v)→vs.length=m.length∧∀(i:Nat) p v,m[i]?=some p→vs[i]?=some v→∃h,ρ'' p.1=some h∧KJ h p.2 v
 | [],[],vs,_,hv,h=>⟨hv,fun i p v h1 _=>by simp at h1⟩
 | p::l,q::m,[],_,hv,h=>by simp at hv
 | p::l,q::m,v::vs,hc,hv,h=>by
  simp only[O2,Bool.and_eq_true,beq_iff_eq,List.contains_iff_mem] at hc
  obtain⟨⟨h1,h2⟩,h3⟩:=hc
  obtain⟨r1,r2⟩:=S8 hl h3 (vs:=vs) (by simpa using hv) (fun i p v e1 e2=>h (i+1) p v (by simpa using e1) (by simpa using e2))
  refine⟨by simp[r1],fun i p' v' e1 e2=>?_⟩
  cases i with
  | zero=>
   simp at e1 e2
   subst e1;subst e2
   obtain⟨hh,f1,f2⟩:=h 0 p v rfl rfl
   exact⟨hh,hl _ h1 hh f1,by rw[←h2];exact f2⟩
  | succ i=>exact r2 i p' v' (by simpa using e1) (by simpa using e2)
 | [],_::_,_,hc,_,_=>by simp[O2] at hc
 | _::_,[],_,hc,_,_=>by simp[O2] at hc
theorem Gz{X:Nat→Prop}{σ:List (Nat×Nat)}{c c':C}{y:Value}(hX:∀b,X'' b→X b)(hl:∀p∈σ,∀v,ρ p.1=some v→ρ'' p.2=some v)(hs:c.same σ c'=true)(h:RdC1 w X ρ c y):RdC1 w X'' ρ'' c' y:=by
 unfold C.same at hs
 split at hs
 ·exact .inl rfl
 ·simp only[Bool.and_eq_true,beq_iff_eq,List.contains_iff_mem] at hs
  obtain⟨h0,rfl⟩:=hs
  rcases h with h | ⟨⟨v,e1,e2⟩,h1⟩
  ·cases h
  ·exact .inr ⟨⟨v,hl _ h0 v e1,e2⟩,h1⟩
 ·simp only[List.contains_iff_mem] at hs
  rcases h with h | ⟨h,h1⟩
  ·cases h
  ·exact .inr ⟨hl _ hs _ h,h1⟩
 ·simp only[Bool.and_eq_true,beq_iff_eq] at hs
  obtain⟨rfl,hc⟩:=hs
  rcases h with h | ⟨⟨vs,e1,e2,e3⟩,h1⟩
  ·cases h
  ·obtain⟨r1,r2⟩:=S8 hl hc e2 e3
   exact .inr ⟨⟨vs,e1,r1,r2⟩,h1⟩
 ·rcases h with h | ⟨h,h1⟩
  ·cases h
  ·exact .inr ⟨trivial,h1⟩
 ·split at hs
  ·rename_i f f' e1 e2
   have:=beq_iff_eq.1 hs
   subst this
   rw[LC e1] at h
   rw[LC e2]
   rcases h with h | ⟨h,h1⟩
   ·cases h
   ·exact .inr ⟨by have:=Rd.inv_v h;subst this;exact .v _,h1⟩
  ·cases hs
 ·cases hs
theorem Ha{X X'':Nat→Prop}{hole:Option Nat}{e e2:TypeId}{n:Nat}{l:List (List T)}{vs:Array Value}{v:Value}(h:okR w X hole e e2 n l (.tuple vs))(hv:vs[0]?=some v)(hX:∀b,X'' b→X b)(hb:∀b,blkIn (.tuple vs) b→¬X'' b)
 (hh:hole=none) (hesm:e<1000000000):Rd w X'' (.sl 1 (uN n l)) v:=by
 subst hh
 obtain⟨h0,ho,hs,xs,g1,g2,g3,g4,g5,g6⟩:=h
 cases g1
 have:ho=v:=by simpa using hv
 subst this
 have hlen:(uN n l).length=l.length:=by unfold uN;simp
 have hget:∀(i:Nat) t,(uN n l)[i]?=some t→∃m,l[i]?=some m∧t=.sl n m:=fun i t hi=>by
  unfold uN at hi
  rw[List.getElem?_map] at hi
  cases hl:l[i]? with
  | none=>simp[hl] at hi
  | some m=>simp only[hl,Option.map_some,Option.some.injEq] at hi;exact⟨m,rfl,hi.symm⟩
 have hflat:flat (uN n l)=uN n l:=KO fun t ht=>by
  obtain⟨i,hi,rfl⟩:=List.getElem_of_mem ht
  obtain⟨m,_,e⟩:=hget i _ (List.getElem?_eq_getElem hi)
  rw[e];rfl
 have huni:Uni 1 (uN n l):=fun t ht=>by
  obtain⟨i,hi,rfl⟩:=List.getElem_of_mem ht
  obtain⟨m,_,e⟩:=hget i _ (List.getElem?_eq_getElem hi)
  rw[e];rfl
 replace g2:rowAt w e 1 ho l.length xs:=by
  rcases g2 with⟨_,g2⟩ | ⟨g2,_⟩
  ·exact g2
  ·exact(Nat.not_lt.2 g2 hesm).elim
 have hxl:=g2.1
 rw[Nat.mul_one] at hxl
 have inner:∀(i:Nat) t y,(uN n l)[i]?=some t→xs[i]?=some y→Rd w X'' t y:=fun i t y h1 h2=>by
  obtain⟨m,hm,rfl⟩:=hget i t h1
  have hil:i<l.length:=(List.getElem?_eq_some_iff.1 hm).1
  have hsi:hs[i]?=some hs[i]:=List.getElem?_eq_getElem (by omega)
  have e1:=(g4 i y _ h2 hsi).2 (by simp)
  rw[←e1] at hsi
  obtain⟨q1,ys,q2,q3⟩:=g5 i m y hm hsi
  rw[W9 hesm] at q1 q2 q3
  exact vW (ρ:=fun _=>none) (X:=X) (fz:=false) (e:=e2) (l:=m) ⟨h0,q1,⟨ys,q2,q3⟩,fun hc=>by cases hc⟩ hX (fun b hyb=>hb b (.inr ⟨_,rfl,y,by simp[List.mem_of_getElem? hsi],hyb⟩))
 rcases g2.2 with⟨hn | ⟨a,hn⟩,hz⟩ | ⟨g,off,cap,cur,hn,z2,z3,z4,z5,z6,z7⟩
 ·have:l=[]:=List.eq_nil_of_length_eq_zero hz
  subst this
  subst hn
  have:uN n []=[]:=by unfold uN;rfl
  rw[this];exact .nil 1 (by omega)
 ·have:l=[]:=List.eq_nil_of_length_eq_zero hz
  subst this
  subst hn
  have:uN n []=[]:=by unfold uN;rfl
  rw[this]
  have key:Rd w X'' (.sl 1 []) (.slice (some a) ([]:List T).length 0):=.sl 1 [] a 0 [] (by omega) (Nat.le_refl _) (by unfold maxLen;omega) (.nil 1) rfl (fun i y h=>by simp at h) (fun i t y h _=>by simp[flat] at h)
  exact key
 ·subst hn
  rw[←hlen]
  refine .sl 1 _ ⟨g,off,none⟩ cap xs (by omega) (by omega) z5 huni (by rw[hflat,hlen,hxl]) (fun i y hi=>?_) (fun i t y h1 h2=>inner i t y (by rw[←hflat];exact h1) h2)
  have hil:i<l.length:=by have:=(List.getElem?_eq_some_iff.1 hi).1;omega
  refine⟨g2.cells rfl i y hi,?_,(g4 i y _ hi (List.getElem?_eq_getElem (by omega))).1⟩
  exact hb g (.inr ⟨_,rfl,.slice (some ⟨g,off,none⟩) l.length cap,by simp,by simp[blk];omega⟩)
theorem Kz{X X'':Nat→Prop}{hole:Option Nat}{e e2:TypeId}{n:Nat}{l:List (List T)}{vs:Array Value}{v:Value}(h:okR w X hole e e2 n l (.tuple vs))(hv:vs[0]?=some v)(hX:∀b,X'' b→X b)(hb:∀b,blkIn (.tuple vs) b→¬X'' b)
 (hh:hole=none) (hbig:1000000000≤e):Rd w X'' (.sl e (S7 n l)) v:=by
 subst hh
 have hcc:e=(e-1000000000)+1000000000:=(Nat.sub_add_cancel hbig).symm
 have h0:=h.1
 obtain⟨hs,g,es,clock,rfl,rfl,hg,hl,hhs,hkeys,hone,hcl,hborn,hval,hrow,hsep⟩:=h.map hv hcc
 have hget:∀(i:Nat) t,(S7 n l)[i]?=some t→∃m,l[i]?=some m∧t=.agg [m.headD (.agg []),.sl n m.tail]:=fun i t hi=>by
  unfold S7 at hi
  rw[List.getElem?_map] at hi
  obtain⟨m,h1,h2⟩:=Option.map_eq_some_iff.1 hi
  exact⟨m,h1,h2.symm⟩
 refine .mp e _ g es clock hbig hg (hb g (.inr ⟨_,rfl,.map (some g),by simp,rfl⟩)) (by unfold S7;simpa using hl) (fun i t en h1 h2=>?_) ⟨hcl,hborn⟩ (fun i k v en h1 h2=>?_)
 ·obtain⟨m,hm,rfl⟩:=hget i t h1
  obtain⟨k,m',rfl,hk⟩:=hkeys i m en hm h2
  exact⟨k,_,rfl,hk,.inr (hone i en h2)⟩
 ·obtain⟨m,hm,e1⟩:=hget i _ h1
  simp only[T.agg.injEq,List.cons.injEq,and_true] at e1
  obtain⟨_,rfl⟩:=e1
  have hil:i<l.length:=(List.getElem?_eq_some_iff.1 hm).1
  have hsi:hs[i]?=some hs[i]:=List.getElem?_eq_getElem (by omega)
  have e1:=hval i en _ h2 hsi (by simp)
  rw[←e1] at hsi
  obtain⟨q1,ys,q2,q3⟩:=hrow i m en.val hm hsi
  have hrw:SH e m=m.tail:=by unfold SH Bm;rw[if_neg (Nat.not_lt.2 hbig)]
  rw[hrw] at q1 q2 q3
  exact vW (ρ:=fun _=>none) (X:=X) (fz:=false) (e:=e2) (l:=m.tail) ⟨h0,q1,⟨ys,q2,q3⟩,fun hc=>by cases hc⟩ hX (fun b hyb=>hb b (.inr ⟨_,rfl,en.val,by simp[List.mem_of_getElem? hsi],hyb⟩))
theorem Hb{X X'':Nat→Prop}{hole:Option Nat}{e e2:TypeId}{n:Nat}{l:List (List T)}{vs:Array Value}{v:Value}(h:okR w X hole e e2 n l (.tuple vs))(hv:vs[0]?=some v)(hX:∀b,X'' b→X b)(hb:∀b,blkIn (.tuple vs) b→¬X'' b)
 (hh:hole=none:=by rfl):Rd w X'' (.sl (Kx e) (Cv e n l)) v:=by
 unfold Kx Cv
 split
 ·rename_i hlt
  exact Ha h hv hX hb hh hlt
 ·rename_i hge
  exact Kz h hv hX hb hh (Nat.not_lt.1 hge)
theorem Hc{σ:List (Nat×Nat)}{s:Sh}{c:C}{f:s.ty→List (Option Nat)→List Nat→Option R}(h:Rel w0 F Xc ρ0 ρ st a w)(hf:FE σ st.objs s c f=some r):
 ∃x rs zs,f x rs zs=some r∧rs.length=(bF [s]).length ∧
  (∀(i:Nat) k o,(d7 [s] (x,()))[i]?=some (k,o)→(bF [s])[i]?=some k∧∃sr,rs[i]?=some sr∧o.rowf=true∧(∀k',sr=some k'→st.objs[k']?=some o)∧(sr=none→∃e n,o=.row false e n []∧(0<n∧n<1000000000))) ∧
  (∀z∈zs,∃o,st.objs[z]?=some o∧o.giv=true)∧(∀p∈cH [s] [c],bF [s]=[p.2]∧rs=[some p.1]) ∧
  ∀(ρ'':fN) (X'':Nat→Prop),Turn ρ ρ'' (XB st.objs ρ Xc) X'' st.objs (bF [s]) rs zs σ→∀y,RdC1 w (XB st.objs ρ Xc) ρ c y→RdC1 w X'' ρ'' (Gy s x) y:=by
 have norow:∀{P:Nat→Nat→O→Prop},∀(i:Nat) k o,([]:List (Nat×O))[i]?=some (k,o)→P i k o:=fun i k o h=>by simp at h
 cases s with
 | int kd=>
  simp only[FE] at hf
  split at hf
  ·rename_i x
   obtain⟨n,hn,hf⟩:=aC hf
   refine⟨n,[],[],hf,rfl,norow,by simp,by simp[cH],fun ρ'' X'' _ y hy=>?_⟩
   rcases hy with hy | ⟨hy,h1⟩
   ·cases hy
   ·have:=P2 hy hn;subst this;exact .inr ⟨.v _,rfl⟩
  ·cases hf
 | bool=>
  simp only[FE] at hf
  split at hf
  ·rename_i x
   obtain⟨n,hn,hf⟩:=aC hf
   refine⟨n,[],[],hf,rfl,norow,by simp,by simp[cH],fun ρ'' X'' _ y hy=>?_⟩
   rcases hy with hy | ⟨hy,h1⟩
   ·cases hy
   ·have:=P3 hy hn;subst this;exact .inr ⟨.v _,rfl⟩
  ·cases hf
 | str=>
  simp only[FE] at hf
  split at hf
  ·rename_i x
   obtain⟨n,hn,hf⟩:=aC hf
   refine⟨n,[],[],hf,rfl,norow,by simp,by simp[cH],fun ρ'' X'' _ y hy=>?_⟩
   rcases hy with hy | ⟨hy,h1⟩
   ·cases hy
   ·have:=UZ hy hn;subst this;exact .inr ⟨.v _,rfl⟩
  ·cases hf
 | sl n=>
  simp only[FE] at hf
  split at hf
  ·rename_i x
   obtain⟨l,hl,hf⟩:=aC hf
   refine⟨l,[],[],hf,rfl,norow,by simp,by simp[cH],fun ρ'' X'' ht y hy=>?_⟩
   rcases hy with hy | ⟨hy,h1⟩
   ·cases hy
   ·unfold T.sl? at hl
    split at hl
    ·split at hl
     case isFalse=>cases hl
     rename_i hnm
     cases hl
     have:=Rd.inv_v hy
     subst this
     exact .inr ⟨.nil n hnm,rfl⟩
    ·split at hl
     ·rename_i hk
      cases hl;subst hk
      exact .inr ⟨Rd.weak hy ht.sub,h1⟩
     ·cases hl
    ·cases hl
  ·rename_i key
   split at hf
   ·rename_i fz e n' es hob
    split at hf
    ·rename_i hn
     subst hn
     refine⟨es,[],[key],hf,rfl,norow,fun z hz=>by simp at hz;subst hz;exact⟨_,hob,rfl⟩,by simp[cH],fun ρ'' X'' ht y hy=>?_⟩
     rcases hy with hy | ⟨hy,h1⟩
     ·cases hy
     ·obtain⟨v,e1,e2⟩:=h.objs key _ hob
      have hyy:ρ key=some y:=hy
      rw[hyy] at e1
      cases e1
      exact .inr ⟨vW e2 ht.sub (fun b hb=>ht.trees key (by simp) y b hyy (.inl hb)),h1⟩
    ·cases hf
   ·rename_i fz e n' es hob
    split at hf
    ·rename_i hn
     subst hn
     refine⟨es,[],[key],hf,rfl,norow,fun z hz=>by simp at hz;subst hz;exact⟨_,hob,rfl⟩,by simp[cH],fun ρ'' X'' ht y hy=>?_⟩
     rcases hy with hy | ⟨hy,h1⟩
     ·cases hy
     ·obtain⟨v,e1,e2⟩:=h.objs key _ hob
      have hyy:ρ key=some y:=hy
      rw[hyy] at e1
      cases e1
      exact .inr ⟨P5 e2 ht.sub (fun b hb=>ht.trees key (by simp) y b hyy (.inl hb)),h1⟩
    ·cases hf
   ·cases hf
  ·rename_i key m lo len tg
   split at hf
   ·rename_i fz e n' es hob
    split at hf
    ·rename_i hn
     obtain⟨rfl,rfl⟩:=hn
     refine⟨_,[],[key],hf,rfl,norow,fun z hz=>by simp at hz;subst hz;exact⟨_,hob,rfl⟩,by simp[cH],fun ρ'' X'' ht y hy=>?_⟩
     rcases hy with hy | ⟨⟨v,q1,q2⟩,h1⟩
     ·cases hy
     ·obtain⟨v',e1,e2⟩:=h.objs key _ hob
      rw[q1] at e1
      cases e1
      exact .inr ⟨KL e2 q2 ht.sub (fun b hb=>ht.trees key (by simp) v b q1 (.inl hb)),h1⟩
    ·cases hf
   ·cases hf
  ·rename_i k0
   split at hf
   ·rename_i K hK
    split at hf
    ·rename_i e1 m l hob
     split at hf
     ·rename_i hn
      subst hn
      refine⟨_,[],[K],hf,rfl,norow,fun z hz=>by simp at hz;subst hz;exact⟨_,hob,rfl⟩,by simp[cH],fun ρ'' X'' ht y hy=>?_⟩
      rcases hy with hy | ⟨⟨vs,q1,q2⟩,h1⟩
      ·cases hy
      ·obtain⟨hole,_,_,_,_,vs',f1,f2,f3,f4⟩:=uJ h hK q1
       rw[hob] at f1
       cases f1
       exact .inr ⟨Hb f4 (f3.trans q2) ht.sub (fun b hb=>ht.trees K (by simp) _ b f2 hb),h1⟩
     ·cases hf
    ·cases hf
   ·cases hf
  ·cases hf
 | rr e e2 n key=>
  simp only[FE] at hf
  split at hf
  ·rename_i k0
   split at hf
   ·rename_i K hK
    split at hf
    ·rename_i e' e2' n' l hob
     split at hf
     ·rename_i hn
      obtain⟨rfl,rfl,rfl⟩:=hn
      refine⟨l,[some K],[],hf,rfl,fun i k o hi=>?_,by simp,by simp[cH],fun ρ'' X'' ht y hy=>?_⟩
      ·cases i with
       | zero=>
        simp only[d7,List.getElem?_cons_zero,Option.some.injEq,Prod.mk.injEq] at hi
        obtain⟨rfl,rfl⟩:=hi
        exact⟨rfl,some K,rfl,rfl,fun k'' hk=>by cases hk;exact hob,by simp⟩
       | succ i=>simp[d7] at hi
      ·rcases hy with hy | ⟨⟨vs,q1,q2⟩,h1⟩
       ·cases hy
       ·obtain⟨hole,_,_,_,_,vs',f1,f2,f3,f4⟩:=uJ h hK q1
        exact .inr ⟨⟨vs',(ht.rows 0 key (some K) rfl rfl).trans f2,f3.trans q2⟩,h1⟩
     ·cases hf
    ·cases hf
   ·cases hf
  ·cases hf
 | row e n key=>
  simp only[FE] at hf
  split at hf
  ·split at hf
   ·rename_i hn
    refine⟨[],[none],[],hf,rfl,fun i k o hi=>?_,by simp,by simp[cH],fun ρ'' X'' ht y hy=>?_⟩
    ·cases i with
     | zero=>
      simp only[d7,List.getElem?_cons_zero,Option.some.injEq,Prod.mk.injEq] at hi
      obtain⟨rfl,rfl⟩:=hi
      exact⟨rfl,none,rfl,xE _ _ _,by simp,fun _=>⟨e,n,by unfold KI;rw[if_pos hn.2],hn⟩⟩
     | succ i=>simp[d7] at hi
    ·rcases hy with hy | ⟨hy,h1⟩
     ·cases hy
     ·have:=Rd.inv_v hy
      subst this
      exact .inr ⟨ht.rows 0 key none rfl rfl,rfl⟩
   ·cases hf
  ·rename_i k'
   split at hf
   ·rename_i e' n' es hob
    split at hf
    ·rename_i hc
     obtain⟨hnm,rfl,rfl⟩:=hc
     refine⟨es,[some k'],[],hf,rfl,fun i k o hi=>?_,by simp,fun p hp=>by simp only[cH,List.mem_singleton] at hp;subst hp;exact⟨rfl,rfl⟩,fun ρ'' X'' ht y hy=>?_⟩
     ·cases i with
      | zero=>
       simp only[d7,List.getElem?_cons_zero,Option.some.injEq,Prod.mk.injEq] at hi
       obtain⟨rfl,rfl⟩:=hi
       exact⟨rfl,some k',rfl,xE _ _ _,fun k'' hk=>by cases hk;unfold KI;rw[if_pos hnm];exact hob,by simp⟩
      | succ i=>simp[d7] at hi
     ·rcases hy with hy | ⟨hy,h1⟩
      ·cases hy
      ·exact .inr ⟨(ht.rows 0 key (some k') rfl rfl).trans hy,h1⟩
    ·cases hf
   ·rename_i e' n' es hob
    split at hf
    ·rename_i hc
     obtain⟨hnm,rfl,rfl⟩:=hc
     refine⟨es,[some k'],[],hf,rfl,fun i k o hi=>?_,by simp,fun p hp=>by simp only[cH,List.mem_singleton] at hp;subst hp;exact⟨rfl,rfl⟩,fun ρ'' X'' ht y hy=>?_⟩
     ·cases i with
      | zero=>
       simp only[d7,List.getElem?_cons_zero,Option.some.injEq,Prod.mk.injEq] at hi
       obtain⟨rfl,rfl⟩:=hi
       exact⟨rfl,some k',rfl,xE _ _ _,fun k'' hk=>by cases hk;unfold KI;rw[if_neg (by omega),if_pos (by omega)];exact hob,by simp⟩
      | succ i=>simp[d7] at hi
     ·rcases hy with hy | ⟨hy,h1⟩
      ·cases hy
      ·exact .inr ⟨(ht.rows 0 key (some k') rfl rfl).trans hy,h1⟩
    ·cases hf
   ·rename_i e' n' es hob
    split at hf
    ·rename_i hc
     obtain⟨hnm,rfl,rfl⟩:=hc
     refine⟨es,[some k'],[],hf,rfl,fun i k o hi=>?_,by simp,fun p hp=>by simp only[cH,List.mem_singleton] at hp;subst hp;exact⟨rfl,rfl⟩,fun ρ'' X'' ht y hy=>?_⟩
     ·cases i with
      | zero=>
       simp only[d7,List.getElem?_cons_zero,Option.some.injEq,Prod.mk.injEq] at hi
       obtain⟨rfl,rfl⟩:=hi
       exact⟨rfl,some k',rfl,xE _ _ _,fun k'' hk=>by cases hk;unfold KI;rw[if_neg (by omega),if_neg (by omega)];exact hob,by simp⟩
      | succ i=>simp[d7] at hi
     ·rcases hy with hy | ⟨hy,h1⟩
      ·cases hy
      ·exact .inr ⟨(ht.rows 0 key (some k') rfl rfl).trans hy,h1⟩
    ·cases hf
   ·cases hf
  ·cases hf
 | tree=>
  simp only[FE] at hf
  split at hf
  ·rename_i x
   refine⟨x,[],[],hf,rfl,norow,by simp,by simp[cH],fun ρ'' X'' ht y hy=>?_⟩
   rcases hy with hy | ⟨hy,h1⟩
   ·cases hy
   ·exact .inr ⟨Rd.weak hy ht.sub,h1⟩
  ·cases hf
 | lit c'=>
  simp only[FE] at hf
  split at hf
  ·rename_i hs
   refine⟨(),[],[],hf,rfl,norow,by simp,by simp[cH],fun ρ'' X'' ht y hy=>Gz ht.sub ht.lit hs hy⟩
  ·cases hf
theorem sC(s:Sh)(l:List Sh):bF (s::l)=bF [s]++bF l:=by cases s <;> rfl
theorem NM(s:Sh)(l:List Sh)(c:C)(cs:List C):cH (s::l) (c::cs)=cH [s] [c]++cH l cs:=by cases s <;> cases c <;> simp[cH]
theorem S9(s:Sh)(l:List Sh)(x:s.ty)(t:nR l):d7 (s::l) (x,t)=d7 [s] (x,())++d7 l t:=by cases s <;> rfl
theorem jO:∀(l:List Sh) (t:nR l),(d7 l t).length=(bF l).length
 | [],_=>rfl
 | .int _::l,t=>jO l t.2
 | .bool::l,t=>jO l t.2
 | .str::l,t=>jO l t.2
 | .sl _::l,t=>jO l t.2
 | .row _ _ _::l,t=>by simp[d7,bF,jO l t.2]
 | .rr _ _ _ _::l,t=>by simp[d7,bF,jO l t.2]
 | .tree::l,t=>jO l t.2
 | .lit _::l,t=>jO l t.2
theorem XU{σ:List (Nat×Nat)}(h:Rel w0 F Xc ρ0 ρ st a w):∀(l:List Sh) (cs:List C) (f:nR l→List (Option Nat)→List Nat→Option R),G7 σ st.objs l cs f=some r →
 ∃t rs zs,f t rs zs=some r∧rs.length=(bF l).length ∧
  (∀(i:Nat) k o,(d7 l t)[i]?=some (k,o)→(bF l)[i]?=some k∧∃sr,rs[i]?=some sr∧o.rowf=true∧(∀k',sr=some k'→st.objs[k']?=some o)∧(sr=none→∃e n,o=.row false e n []∧(0<n∧n<1000000000))) ∧
  (∀z∈zs,∃o,st.objs[z]?=some o∧o.giv=true)∧(∀p∈cH l cs,∃i:Nat,(bF l)[i]?=some p.2∧rs[i]?=some (some p.1)) ∧
  ∀(ρ'':fN) (X'':Nat→Prop),Turn ρ ρ'' (XB st.objs ρ Xc) X'' st.objs (bF l) rs zs σ→∀ys,RdL w (XB st.objs ρ Xc) ρ cs ys→RdL w X'' ρ'' (vG l t) ys
 | [],[],f,hf=>⟨(),[],[],hf,rfl,fun i k o hi=>by simp[d7] at hi,by simp,by simp[cH],fun _ _ _ ys hy=>⟨hy.1,fun i c y h1 _=>by simp[vG] at h1⟩⟩
 | [],_::_,f,hf=>by simp[G7] at hf
 | _::_,[],f,hf=>by simp[G7] at hf
 | s::l,c::cs,f,hf=>by
  simp only[G7] at hf
  obtain⟨x,rs1,zs1,hf1,len1,row1,z1,pr1,turn1⟩:=Hc h hf
  obtain⟨t,rs2,zs2,hf2,len2,row2,z2,pr2,turn2⟩:=XU h l cs _ hf1
  have hlen1:=jO [s] (x,())
  refine⟨(x,t),rs1++rs2,zs1++zs2,hf2,by rw[List.length_append,sC,List.length_append,len1,len2],fun i k o hi=>?_,fun z hz=>?_,fun p hp=>?_,fun ρ'' X'' ht ys hy=>?_⟩
  ·rw[S9,List.getElem?_append] at hi
   rw[sC,List.getElem?_append,List.getElem?_append]
   split at hi
   ·rename_i hlt
    rw[if_pos (by omega),if_pos (by omega)]
    exact row1 i k o hi
   ·rename_i hlt
    rw[if_neg (by omega),if_neg (by omega),len1]
    rw[hlen1] at hi
    exact row2 _ k o hi
  ·rcases List.mem_append.1 hz with hz | hz
   ·exact z1 z hz
   ·exact z2 z hz
  ·rw[NM] at hp
   rw[sC]
   rcases List.mem_append.1 hp with hp | hp
   ·obtain⟨e1,e2⟩:=pr1 p hp
    exact⟨0,by rw[e1];rfl,by rw[e2];rfl⟩
   ·obtain⟨i,e1,e2⟩:=pr2 p hp
    exact⟨i+rs1.length,by rw[List.getElem?_append,if_neg (by omega),←len1,Nat.add_sub_cancel];exact e1,by rw[List.getElem?_append,if_neg (by omega),Nat.add_sub_cancel];exact e2⟩
  ·cases ys with
   | nil=>simp[RdL] at hy
   | cons y ys=>
    have hk:=ht.rows
    rw[sC] at hk
    have t1:Turn ρ ρ'' (XB st.objs ρ Xc) X'' st.objs (bF [s]) rs1 zs1 σ:=
     ⟨ht.sub,len1.symm,fun i k sr h1 h2=>hk i k sr (by rw[List.getElem?_append,if_pos (List.getElem?_eq_some_iff.1 h1).1];exact h1) (by rw[List.getElem?_append,if_pos (List.getElem?_eq_some_iff.1 h2).1];exact h2),
      fun z hz=>ht.trees z (List.mem_append.2 (.inl hz)),ht.lit⟩
    have t2:Turn ρ ρ'' (XB st.objs ρ Xc) X'' st.objs (bF l) rs2 zs2 σ:=
     ⟨ht.sub,len2.symm,fun i k sr h1 h2=>hk (i+rs1.length) k sr (by rw[List.getElem?_append,if_neg (by omega),←len1,Nat.add_sub_cancel];exact h1) (by rw[List.getElem?_append,if_neg (by omega),Nat.add_sub_cancel];exact h2),
      fun z hz=>ht.trees z (List.mem_append.2 (.inr hz)),ht.lit⟩
    have hy2:RdL w (XB st.objs ρ Xc) ρ cs ys:=⟨by simpa using hy.1,fun i c y h1 h2=>hy.2 (i+1) c y (by simpa using h1) (by simpa using h2)⟩
    have r2:=turn2 ρ'' X'' t2 ys hy2
    refine⟨by simp[vG,r2.1],fun i c' y' h1 h2=>?_⟩
    cases i with
    | zero=>simp[vG] at h1 h2;subst h1;subst h2;exact turn1 ρ'' X'' t1 _ (hy.2 0 c _ rfl rfl)
    | succ i=>exact r2.2 i c' y' (by simpa[vG] using h1) (by simpa using h2)
theorem jC(h:Rel w0 F Xc ρ0 ρ st a w):∀(items:List It) (cs:List C),dP st items=some cs→∃ys,RdL w (XB st.objs ρ Xc) ρ cs ys
 | [],cs,hg=>by simp only[dP,Option.some.injEq] at hg;subst hg;exact⟨[],rfl,fun i c y h1 _=>by simp at h1⟩
 | .slot i::l,cs,hg=>by
  simp only[dP] at hg
  split at hg
  ·rename_i c cs' he hg'
   cases hg
   obtain⟨ys,hy⟩:=jC h l cs' hg'
   have hr:=h.ev (.tmp i)
   have:ev st (.tmp i)=.s (.c c):=he
   rw[this] at hr
   exact⟨_,(RdL.one (c:=c) hr).append hy⟩
  ·cases hg
 | .aggs i n::l,cs,hg=>by
  simp only[dP] at hg
  split at hg
  ·rename_i c cs' he hg'
   split at hg
   ·cases hg
    obtain⟨ys,hy⟩:=jC h l cs' hg'
    have hr:=h.ev (.tmp i)
    have:ev st (.tmp i)=.s (.agg c):=he
    rw[this] at hr
    obtain⟨vs,_,hvs⟩:=hr
    exact⟨_,hvs.append hy⟩
   ·cases hg
  ·cases hg
 | .box k n::l,cs,hg=>by
  simp only[dP] at hg
  split at hg
  ·rename_i c cs' ho hg'
   split at hg
   ·cases hg
    obtain⟨ys,hy⟩:=jC h l cs' hg'
    obtain⟨v,_,g,zs,ty,_,_,_,hz⟩:=h.objs k _ ho
    exact⟨_,hz.append hy⟩
   ·cases hg
  ·cases hg
 | .boxr i k n::l,cs,hg=>by
  simp only[dP] at hg
  split at hg
  ·rename_i key cs' he hg'
   split at hg
   ·rename_i c ho
    split at hg
    ·cases hg
     obtain⟨ys,hy⟩:=jC h l cs' hg'
     obtain⟨v,_,g,zs,ty,_,_,_,hz⟩:=h.objs key _ ho
     exact⟨_,hz.append hy⟩
    ·cases hg
   ·cases hg
  ·cases hg
end
section
variable {R:Type} {w0 w:World} {F Xc X X'':Nat→Prop} {ρ0:Base} {ρ ρ'':fN} {st:St} {a:Act} {r:R}
theorem aW{α β γ:Type}(m:Option α)(f:α→Option β)(g:β→Option γ):(ob m f).bind g=ob m fun a=>(f a).bind g:=by cases m <;> rfl
theorem LD{R:Type}{σ:List (Nat×Nat)}{objs:List O}{s:Sh}{c:C}(f:s.ty→List (Option Nat)→List Nat→Option R):FE σ objs s c f=(FE σ objs s c fun x r z=>some (x,r,z)).bind fun p=>f p.1 p.2.1 p.2.2:=by
 cases s <;> simp only[FE] <;> repeat' (first | split | dsimp only)
 all_goals first
  | rfl
  | (simp_all [aW];done)
theorem FG{R:Type}{σ:List (Nat×Nat)}{objs:List O}:∀(l:List Sh) (cs:List C) (f:nR l→List (Option Nat)→List Nat→Option R),G7 σ objs l cs f=(G7 σ objs l cs fun x r z=>some (x,r,z)).bind fun p=>f p.1 p.2.1 p.2.2
 | [],[],f=>rfl
 | [],_::_,f=>rfl
 | _::_,[],f=>rfl
 | s::l,c::cs,f=>by
  simp only[G7]
  refine(LD _).trans (Eq.trans ?_ (congrArg (fun z:Option (nR (s::l)×List (Option Nat)×List Nat)=>z.bind fun p=>f p.1 p.2.1 p.2.2) (LD _)).symm)
  rw[Option.bind_assoc]
  refine congrArg _ (funext fun p=>?_)
  refine(FG l cs _).trans (Eq.trans ?_ (congrArg (fun z:Option (nR (s::l)×List (Option Nat)×List Nat)=>z.bind fun p=>f p.1 p.2.1 p.2.2) (FG l cs _)).symm)
  rw[Option.bind_assoc]
  rfl
theorem ZX{σ:List (Nat×Nat)}{c:C}{t:TypeId}(h:c.same σ (.self t)=true):c=.self t:=by
 unfold C.same at h
 split at h <;> first
  | (rename_i e;cases e;done)
  | (rename_i e1 e2;cases e2;done)
  | skip
 all_goals simp_all
theorem ZY{s:Sh}{x:s.ty}{t:TypeId}(h:Gy s x=.self t):s=.lit (.self t):=by
 cases s <;> simp[Gy] at h
 subst h;rfl
theorem O4{R:Type}{σ:List (Nat×Nat)}{objs:List O}{r:R}:∀(l:List Sh) (cs:List C) {f:nR l→List (Option Nat)→List Nat→Option R},G7 σ objs l cs f=some r→∀t:nR l,SelfLe cs (vG l t)
 | [],[],f,_,t,i,u,hi=>by simp[vG] at hi
 | [],_::_,f,h,_,_,_,_=>by simp[G7] at h
 | _::_,[],f,h,_,_,_,_=>by simp[G7] at h
 | s::l,c::cs,f,h,t,i,u,hi=>by
  simp only[G7] at h
  cases i with
  | zero=>
   simp only[vG,List.getElem?_cons_zero,Option.some.injEq] at hi ⊢
   have hs:=ZY hi
   subst hs
   simp only[FE] at h
   split at h
   ·rename_i hc;exact ZX hc
   ·cases h
  | succ i=>
   rw[LD] at h
   obtain⟨p,_,h2⟩:=Option.bind_eq_some_iff.1 h
   simpa using O4 l cs h2 t.2 i u (by simpa[vG] using hi)
def Refines(w:World)(X:Nat→Prop)(ρ:fN)(X'':Nat→Prop)(ρ'':fN)(cs cs':List C):Prop:=(∀ys,RdL w X ρ cs ys→RdL w X'' ρ'' cs' ys)∧SelfLe cs cs'
theorem Refines.right{l m m':List C}(h:Refines w X ρ X'' ρ'' (l++m) m'){ys:List Value}(hy:RdL w X ρ l ys):Refines w X ρ X'' ρ'' m (m'.drop l.length):=⟨fun zs hz=>by
 have:=(h.1 _ (hy.append hz)).drop l.length
 rwa[←hy.1,List.drop_left,hy.1] at this,h.2.right⟩
theorem Refines.left{l m m':List C}(h:Refines w X ρ X'' ρ'' (l++m) m'){zs:List Value}(hz:RdL w X ρ m zs):Refines w X ρ X'' ρ'' l (m'.take l.length):=⟨fun ys hy=>by
 have:=(h.1 _ (hy.append hz)).take l.length
 rwa[←hy.1,List.take_left,hy.1] at this,h.2.left⟩
def EnvOK(w:World)(X'':Nat→Prop)(ρ'':fN)(a:Act)(env:List D):Prop:=∀(i:Nat) d y,env[i]?=some d→a.tmps[i]?=some y→RdD w X'' ρ'' d y
theorem EnvOK.set{env:List D}(h:EnvOK w X'' ρ'' a env){j:Nat}{d:D}(hd:∀y,a.tmps[j]?=some y→RdD w X'' ρ'' d y):EnvOK w X'' ρ'' a (env.set j d):=fun i d' y h1 h2=>by
 rw[List.getElem?_set] at h1
 split at h1
 ·rename_i e
  subst e
  split at h1
  ·cases h1;exact hd y h2
  ·cases h1
 ·exact h i d' y h1 h2
theorem LE{i:Nat}{y:Value}(h:a.tmps[i]?=some y):a.eval (.tmp i)=y:=by
 obtain⟨hlt,rfl⟩:=Array.getElem?_eq_some_iff.1 h
 simp[Act.eval,Array.getD_eq_getD_getElem?,Array.getElem?_eq_getElem hlt]
theorem qU(h:Rel w0 F Xc ρ0 ρ st a w):∀(items:List It) (cs cs':List C) (st0:St),(∀p∈bW st items,ρ'' p.2=ρ p.1)→dP st items=some cs→Refines w (XB st.objs ρ Xc) ρ X'' ρ'' cs cs'→EnvOK w X'' ρ'' a st0.env→EnvOK w X'' ρ'' a (b8 items cs' st0).env
 | [],_,_,_,_,_,_,he=>he
 | .slot i::l,cs,cs',st0,hbp,hg,hr,he=>by
  simp only[dP] at hg
  split at hg
  ·rename_i c cs1 hc hg'
   cases hg
   obtain⟨ys1,hy1⟩:=jC h l cs1 hg'
   have hev:RdD w (XB st.objs ρ Xc) ρ (.s (.c c)) (a.eval (.tmp i)):=by have:=h.ev (.tmp i);rwa[show ev st (.tmp i)=.s (.c c) from hc] at this
   have h1:RdL w (XB st.objs ρ Xc) ρ [c] [a.eval (.tmp i)]:=RdL.one hev
   simp only[b8]
   refine qU h l cs1 cs'.tail _ hbp hg' ?_ (he.set fun y hy=>?_)
   ·have:=Refines.right (l:=[c]) (m:=cs1) hr h1
    rwa[List.length_singleton,List.drop_one] at this
   ·have:=(Refines.left (l:=[c]) (m:=cs1) hr hy1).1 _ h1
    cases cs' with
    | nil=>simp[RdL] at this
    | cons c' cs'=>
     have hh:=this.2 0 c' _ rfl rfl
     rw[LE hy] at hh
     exact hh
  ·cases hg
 | .aggs i n::l,cs,cs',st0,hbp,hg,hr,he=>by
  simp only[dP] at hg
  split at hg
  ·rename_i c cs1 hc hg'
   split at hg
   ·rename_i hn
    cases hg
    obtain⟨ys1,hy1⟩:=jC h l cs1 hg'
    have hev:RdD w (XB st.objs ρ Xc) ρ (.s (.agg c)) (a.eval (.tmp i)):=by have:=h.ev (.tmp i);rwa[show ev st (.tmp i)=.s (.agg c) from hc] at this
    obtain⟨vs,hvs,hl⟩:=hev
    simp only[b8]
    subst hn
    refine qU h l cs1 _ _ hbp hg' (Refines.right hr hl) (he.set fun y hy=>?_)
    rw[LE hy] at hvs
    exact⟨vs,hvs,(Refines.left hr hy1).1 _ hl⟩
   ·cases hg
  ·cases hg
 | .box k n::l,cs,cs',st0,hbp,hg,hr,he=>by
  simp only[dP] at hg
  split at hg
  ·rename_i c cs1 hc hg'
   split at hg
   ·rename_i hn
    cases hg
    obtain⟨v,_,g,zs,ty,_,_,_,hz⟩:=h.objs k _ hc
    simp only[b8]
    subst hn
    exact qU h l cs1 _ _ (fun p hp=>hbp p (by simp only[bW,List.mem_cons];exact .inr hp)) hg' (Refines.right hr hz) he
   ·cases hg
  ·cases hg
 | .boxr i k n::l,cs,cs',st0,hbp,hg,hr,he=>by
  simp only[dP] at hg
  split at hg
  ·rename_i key cs1 hc hg'
   split at hg
   ·rename_i c ho
    split at hg
    ·rename_i hn
     cases hg
     have hbp0:bW st (.boxr i k n::l)=(key,k)::bW st l:=by simp only[bW,hc]
     rw[hbp0] at hbp
     obtain⟨v,_,g,zs,ty,_,_,_,hz⟩:=h.objs key _ ho
     have hev:RdD w (XB st.objs ρ Xc) ρ (.s (.c (.box key 0))) (a.eval (.tmp i)):=by have:=h.ev (.tmp i);rwa[show ev st (.tmp i)=.s (.c (.box key 0)) from hc] at this
     simp only[b8]
     subst hn
     refine qU h l cs1 _ _ (fun p hp=>hbp p (by simp[hp])) hg' (Refines.right hr hz) (he.set fun y hy=>?_)
     rw[LE hy] at hev
     rcases hev with hev | ⟨⟨v',e1,e2⟩,h1⟩
     ·cases hev
     ·exact .inr ⟨⟨v',(hbp (key,k) (by simp)).trans e1,e2⟩,h1⟩
    ·cases hg
   ·cases hg
  ·cases hg
theorem jP:∀(items:List It) (cs':List C) (st0:St),(b8 items cs' st0).np=st0.np∧(b8 items cs' st0).env.length=st0.env.length∧(b8 items cs' st0).objs.length=st0.objs.length
 | [],_,_=>⟨rfl,rfl,rfl⟩
 | .slot i::l,cs',st0=>by obtain⟨h1,h2,h3⟩:=jP l cs'.tail { st0 with env:=st0.env.set i (.s (.c (cs'.headD .top))) };exact⟨h1,h2.trans (List.length_set ..),h3⟩
 | .aggs i n::l,cs',st0=>by obtain⟨h1,h2,h3⟩:=jP l (cs'.drop n) { st0 with env:=st0.env.set i (.s (.agg (cs'.take n))) };exact⟨h1,h2.trans (List.length_set ..),h3⟩
 | .box k n::l,cs',st0=>by obtain⟨h1,h2,h3⟩:=jP l (cs'.drop n) { st0 with objs:=st0.objs.set k (.box (cs'.take n)) };exact⟨h1,h2,h3.trans (List.length_set ..)⟩
 | .boxr i k n::l,cs',st0=>by obtain⟨h1,h2,h3⟩:=jP l (cs'.drop n) { st0 with env:=st0.env.set i (.s (.c (.box k 0))),objs:=st0.objs.set k (.box (cs'.take n)) };exact⟨h1,h2.trans (List.length_set ..),h3.trans (List.length_set ..)⟩
theorem n6(h:Rel w0 F Xc ρ0 ρ st a w):∀(items:List It) (cs cs':List C) (st0:St),dP st items=some cs→Refines w (XB st.objs ρ Xc) ρ X'' ρ'' cs cs'→(b9 items).Nodup→(∀k∈b9 items,k<st0.objs.length) →
 ∀k,(k∉b9 items→(b8 items cs' st0).objs[k]?=st0.objs[k]?) ∧
  (k∈b9 items→∃q l l',(q,k)∈bW st items∧st.objs[q]?=some (.box l)∧(b8 items cs' st0).objs[k]?=some (.box l')∧Refines w (XB st.objs ρ Xc) ρ X'' ρ'' l l')
 | [],_,_,_,_,_,_,_,k=>⟨fun _=>rfl,fun hk=>by simp[b9] at hk⟩
 | .slot i::l,cs,cs',st0,hg,hr,hn,hb,k=>by
  simp only[dP] at hg
  split at hg
  ·rename_i c cs1 hc hg'
   cases hg
   have hev:RdD w (XB st.objs ρ Xc) ρ (.s (.c c)) (a.eval (.tmp i)):=by have:=h.ev (.tmp i);rwa[show ev st (.tmp i)=.s (.c c) from hc] at this
   have h1:RdL w (XB st.objs ρ Xc) ρ [c] [a.eval (.tmp i)]:=RdL.one hev
   have hr':=Refines.right (l:=[c]) (m:=cs1) hr h1
   rw[List.length_singleton,List.drop_one] at hr'
   exact n6 h l cs1 _ { st0 with env:=st0.env.set i (.s (.c (cs'.headD .top))) } hg' hr' hn hb k
  ·cases hg
 | .aggs i n::l,cs,cs',st0,hg,hr,hn,hb,k=>by
  simp only[dP] at hg
  split at hg
  ·rename_i c cs1 hc hg'
   split at hg
   ·rename_i hnn
    cases hg
    have hev:RdD w (XB st.objs ρ Xc) ρ (.s (.agg c)) (a.eval (.tmp i)):=by have:=h.ev (.tmp i);rwa[show ev st (.tmp i)=.s (.agg c) from hc] at this
    obtain⟨vs,hvs,hl⟩:=hev
    subst hnn
    exact n6 h l cs1 _ { st0 with env:=st0.env.set i (.s (.agg (cs'.take c.length))) } hg' (Refines.right hr hl) hn hb k
   ·cases hg
  ·cases hg
 | .box q n::l,cs,cs',st0,hg,hr,hn,hb,k=>by
  simp only[dP] at hg
  split at hg
  ·rename_i c cs1 hc hg'
   split at hg
   ·rename_i hnn
    cases hg
    obtain⟨v,_,g,zs,ty,_,_,_,hz⟩:=h.objs q _ hc
    subst hnn
    simp only[b9] at hn hb
    obtain⟨hq,hn'⟩:=List.nodup_cons.1 hn
    obtain⟨e1,e2⟩:=n6 h l cs1 _ { st0 with objs:=st0.objs.set q (.box (cs'.take c.length)) } hg' (Refines.right hr hz) hn' (fun k hk=>by simpa using hb k (by simp[hk])) k
    obtain⟨ys1,hy1⟩:=jC h l cs1 hg'
    simp only[b8,b9,List.mem_cons,not_or]
    refine⟨fun hk=>?_,fun hk=>?_⟩
    ·rw[e1 hk.2,List.getElem?_set_ne (fun e=>hk.1 e.symm)]
    ·by_cases hkl:k∈b9 l
     ·obtain⟨q',l1,l2,r1,r2,r3,r4⟩:=e2 hkl
      exact⟨q',l1,l2,by simp only[bW,List.mem_cons];exact .inr r1,r2,r3,r4⟩
     ·have hkq:k=q:=hk.resolve_right hkl
      subst hkq
      refine⟨k,c,cs'.take c.length,by simp[bW],hc,?_,Refines.left hr hy1⟩
      rw[e1 hkl,List.getElem?_set_self (hb k (by simp))]
   ·cases hg
  ·cases hg
 | .boxr i q n::l,cs,cs',st0,hg,hr,hn,hb,k=>by
  simp only[dP] at hg
  split at hg
  ·rename_i key cs1 hc hg'
   split at hg
   ·rename_i c ho
    split at hg
    ·rename_i hnn
     cases hg
     have hbp0:bW st (.boxr i q n::l)=(key,q)::bW st l:=by simp only[bW,hc]
     obtain⟨v,_,g,zs,ty,_,_,_,hz⟩:=h.objs key _ ho
     subst hnn
     simp only[b9] at hn hb
     obtain⟨hq,hn'⟩:=List.nodup_cons.1 hn
     obtain⟨e1,e2⟩:=n6 h l cs1 _ { st0 with env:=st0.env.set i (.s (.c (.box q 0))),objs:=st0.objs.set q (.box (cs'.take c.length)) } hg' (Refines.right hr hz) hn' (fun k hk=>by simpa using hb k (by simp[hk])) k
     obtain⟨ys1,hy1⟩:=jC h l cs1 hg'
     simp only[b8,b9,List.mem_cons,not_or]
     refine⟨fun hk=>?_,fun hk=>?_⟩
     ·rw[e1 hk.2,List.getElem?_set_ne (fun e=>hk.1 e.symm)]
     ·by_cases hkl:k∈b9 l
      ·obtain⟨q',l1,l2,r1,r2,r3,r4⟩:=e2 hkl
       exact⟨q',l1,l2,by rw[hbp0];simp[r1],r2,r3,r4⟩
      ·have hkq:k=q:=hk.resolve_right hkl
       subst hkq
       refine⟨key,c,cs'.take c.length,by rw[hbp0];simp,ho,?_,Refines.left hr hy1⟩
       rw[e1 hkl,List.getElem?_set_self (hb k (by simp))]
    ·cases hg
   ·cases hg
  ·cases hg
theorem mF:∀(l:List (Nat×O)) (objs:List O) (k:Nat),k∉l.map (·.1)→(jN objs l)[k]?=objs[k]?
 | [],_,_,_=>rfl
 | p::l,objs,k,h=>by
  simp only[jN]
  rw[mF l _ k (fun hm=>h (by simp at hm ⊢;exact .inr hm)),List.getElem?_set_ne (fun e=>h (by simp[e]))]
theorem LF:∀(l:List (Nat×O)) (objs:List O) (i k:Nat) (o:O),(l.map (·.1)).Nodup→l[i]?=some (k,o)→k<objs.length→(jN objs l)[k]?=some o
 | [],_,i,k,o,_,h,_=>by simp at h
 | p::l,objs,i,k,o,hn,h,hk=>by
  simp only[jN]
  simp only[List.map_cons] at hn
  obtain⟨hp,hn'⟩:=List.nodup_cons.1 hn
  cases i with
  | zero=>
   simp at h
   subst h
   rw[mF l _ k hp,List.getElem?_set_self hk]
  | succ i=>exact LF l _ i k o hn' (by simpa using h) (by simpa using hk)
theorem IF:∀(l:List (Nat×O)) (objs:List O),(jN objs l).length=objs.length
 | [],_=>rfl
 | p::l,objs=>by simp only[jN];rw[IF l];simp
theorem ZZ(np n m:Nat)(a:Act):EnvOK w X'' ρ'' a (fW np n m).env:=fun i d y h1 _=>by
 simp only[fW,List.getElem?_replicate] at h1
 split at h1
 ·cases h1;exact .top_ y
 ·cases h1
theorem sW{np n m k:Nat}(hm:np≤m):(fW np n m).objs[k]?=if k<np then some .dead else if k<m then some .fresh else none:=by
 simp only[fW,List.getElem?_append,List.getElem?_replicate,List.length_replicate]
 by_cases h1:k<np
 ·simp[h1]
 ·by_cases h2:k<m
  ·simp[h1,h2];omega
  ·simp[h1,h2];omega
theorem dX:∀(l:List Sh) (t:nR l),(d7 l t).map (·.1)=bF l
 | [],_=>rfl
 | .int _::l,t=>dX l t.2
 | .bool::l,t=>dX l t.2
 | .str::l,t=>dX l t.2
 | .sl _::l,t=>dX l t.2
 | .row _ _ _::l,t=>by simp[d7,bF,dX l t.2]
 | .rr _ _ _ _::l,t=>by simp[d7,bF,dX l t.2]
 | .tree::l,t=>dX l t.2
 | .lit _::l,t=>dX l t.2
theorem kZ:∀(items:List It) (cs:List C),dP st items=some cs→∀p∈bW st items,∃l,st.objs[p.1]?=some (.box l)
 | [],_,_,p,hk=>by simp[bW] at hk
 | .slot i::l,cs,hg,p,hk=>by
  simp only[dP] at hg
  split at hg
  ·rename_i hg';exact kZ l _ hg' p hk
  ·cases hg
 | .aggs i n::l,cs,hg,p,hk=>by
  simp only[dP] at hg
  split at hg
  ·rename_i hg';exact kZ l _ hg' p hk
  ·cases hg
 | .box q n::l,cs,hg,p,hk=>by
  simp only[dP] at hg
  split at hg
  ·rename_i c cs1 hc hg'
   simp only[bW,List.mem_cons] at hk
   rcases hk with rfl | hk
   ·exact⟨c,hc⟩
   ·exact kZ l _ hg' p hk
  ·cases hg
 | .boxr i q n::l,cs,hg,p,hk=>by
  simp only[dP] at hg
  split at hg
  ·rename_i key cs1 hc hg'
   split at hg
   ·rename_i c ho
    simp only[bW,hc,List.mem_cons] at hk
    rcases hk with rfl | hk
    ·exact⟨c,ho⟩
    ·exact kZ l _ hg' p hk
   ·cases hg
  ·cases hg
theorem mG:∀(items:List It) (cs:List C),dP st items=some cs→(bW st items).map (·.2)=b9 items
 | [],_,_=>rfl
 | .slot i::l,cs,hg=>by
  simp only[dP] at hg
  split at hg
  ·rename_i hg';exact mG l _ hg'
  ·cases hg
 | .aggs i n::l,cs,hg=>by
  simp only[dP] at hg
  split at hg
  ·rename_i hg';exact mG l _ hg'
  ·cases hg
 | .box q n::l,cs,hg=>by
  simp only[dP] at hg
  split at hg
  ·rename_i c cs1 hc hg'
   simp only[bW,b9,List.map_cons,mG l _ hg']
  ·cases hg
 | .boxr i q n::l,cs,hg=>by
  simp only[dP] at hg
  split at hg
  ·rename_i key cs1 hc hg'
   simp only[bW,hc,b9,List.map_cons,mG l _ hg']
  ·cases hg
theorem lN:∀(items:List It) (cs':List C) (st0:St) (k:Nat),k∉b9 items→(b8 items cs' st0).objs[k]?=st0.objs[k]?
 | [],_,_,_,_=>rfl
 | .slot i::l,cs',st0,k,hk=>lN l _ { st0 with env:=st0.env.set i (.s (.c (cs'.headD .top))) } k hk
 | .aggs i n::l,cs',st0,k,hk=>lN l _ { st0 with env:=st0.env.set i (.s (.agg (cs'.take n))) } k hk
 | .box q n::l,cs',st0,k,hk=>by
  simp only[b9,List.mem_cons,not_or] at hk
  simp only[b8]
  rw[lN l _ _ k hk.2,List.getElem?_set_ne (fun e=>hk.1 e.symm)]
 | .boxr i q n::l,cs',st0,k,hk=>by
  simp only[b9,List.mem_cons,not_or] at hk
  simp only[b8]
  rw[lN l _ _ k hk.2,List.getElem?_set_ne (fun e=>hk.1 e.symm)]
theorem NN{rs:List (Option Nat)}(h:(rs.filterMap id).Nodup){i j k:Nat}(h1:rs[i]?=some (some k))(h2:rs[j]?=some (some k)):i=j:=by
 induction rs generalizing i j with
 | nil=>simp at h1
 | cons s rs ih=>
  have key:∀q,rs[q]?=some (some k)→s=some k→False:=fun q hq e=>by
   subst e
   simp only[List.filterMap_cons,id_eq] at h
   have:=(List.nodup_cons.1 h).1
   exact this (List.mem_filterMap.2 ⟨some k,List.mem_of_getElem? hq,rfl⟩)
  have hnd:(rs.filterMap id).Nodup:=by
   cases s with
   | none=>simpa using h
   | some v=>simp only[List.filterMap_cons,id_eq] at h;exact(List.nodup_cons.1 h).2
  cases i with
  | zero=>
   cases j with
   | zero=>rfl
   | succ j=>simp at h1 h2;exact(key j h2 h1).elim
  | succ i=>
   cases j with
   | zero=>simp at h1 h2;exact(key i h1 h2).elim
   | succ j=>simp at h1 h2;rw[ih hnd h1 h2]
def D6:List (Nat×Nat)→Nat→Option Nat
 | [],_=>none
 | p::l,k=>if p.2=k then some p.1 else D6 l k
theorem LG:∀{l:List (Nat×Nat)} {p:Nat×Nat},(l.map (·.2)).Nodup→p∈l→D6 l p.2=some p.1
 | [],p,_,h=>by cases h
 | q::l,p,hn,h=>by
  simp only[List.map_cons] at hn
  obtain⟨h1,h2⟩:=List.nodup_cons.1 hn
  unfold D6
  rcases List.mem_cons.1 h with rfl | h
  ·rw[if_pos rfl]
  ·have hne:¬q.2=p.2:=fun e=>h1 (e▸List.mem_map.2 ⟨p,h,rfl⟩)
   rw[if_neg hne,LG h2 h]
theorem IG:∀{l:List (Nat×Nat)} {k:Nat},k∉l.map (·.2)→D6 l k=none
 | [],_,_=>rfl
 | q::l,k,h=>by
  simp only[List.map_cons,List.mem_cons,not_or] at h
  unfold D6
  rw[if_neg (fun e=>h.1 e.symm),IG h.2]
theorem TA:∀{l:List (Nat×Nat)} {q k k':Nat},(l.map (·.1)).Nodup→(q,k)∈l→(q,k')∈l→k=k'
 | [],_,_,_,_,h,_=>by cases h
 | p::l,q,k,k',hn,h,h'=>by
  simp only[List.map_cons] at hn
  obtain⟨h1,h2⟩:=List.nodup_cons.1 hn
  rcases List.mem_cons.1 h with e | h <;> rcases List.mem_cons.1 h' with e' | h'
  ·rw[←e] at e';cases e';rfl
  ·rw[←e] at h1;exact(h1 (List.mem_map.2 ⟨_,h',rfl⟩)).elim
  ·rw[←e'] at h1;exact(h1 (List.mem_map.2 ⟨_,h,rfl⟩)).elim
  ·exact TA h2 h h'
theorem LH{np:Nat}:∀{ks:List Nat} {ss:List (Option Nat)} {i k:Nat} {s:Option Nat},QR np ks ss=true→ks[i]?=some k→ss[i]?=some s→np≤k∨s=some k
 | [],_,i,k,s,_,h,_=>by simp at h
 | k'::ks,[],i,k,s,_,_,h=>by simp at h
 | k'::ks,s'::ss,i,k,s,hk,h1,h2=>by
  simp only[QR,Bool.and_eq_true,Bool.or_eq_true,decide_eq_true_eq,beq_iff_eq] at hk
  cases i with
  | zero=>simp at h1 h2;subst h1;subst h2;exact hk.1
  | succ i=>exact LH hk.2 (by simpa using h1) (by simpa using h2)
theorem B5{h:Hint}{f:nR h.shapes→Option R}(hex:ρ0.ex=[])(hR:Rel w0 F Xc ρ0 ρ st a w)(hf:yE h st f=some r):
 ∃t,f t=some r∧(∀k∈b9 h.items++bF h.shapes,k<st.objs.length)∧∃ρ'',(∀k,st.objs.length≤k→ρ'' k=none)∧Rel w0 F Xc ρ0 ρ'' (bN h st.np st.env.length st.objs.length t) a w:=by
 unfold yE at hf
 split at hf
 case h_2=>cases hf
 rename_i cs hg
 dsimp only at hf
 obtain⟨t,rs,zs,hf1,hlen,hrows,hzs,hpairs,hturn⟩:=XU hR h.shapes cs _ hf
 split at hf1
 case isFalse=>cases hf1
 rename_i hc
 simp only[Bool.and_eq_true,decide_eq_true_eq] at hc
 obtain⟨⟨⟨⟨⟨⟨hok,hkeep⟩,hbk⟩,hbn⟩,hnd⟩,hz⟩,hnpm⟩:=hc
 unfold Hint.ok at hok
 simp only[Bool.and_eq_true,decide_eq_true_eq,List.all_eq_true] at hok
 obtain⟨hk1,hk3⟩:=hok
 have hbpk:=mG h.items cs hg
 have hbd:((bW st h.items).map (·.2)).Nodup:=by rw[hbpk];exact(List.nodup_append.1 hk3).1
 obtain⟨hb3,hr3,hdis⟩:=List.nodup_append.1 hk3
 refine⟨t,hf1,hk1,?_⟩
 let ρ'':fN:=fun k=>match D6 (bW st h.items) k with
  | some q=>ρ q
  | none=>match AC (bF h.shapes) rs k with
   | some s=>Ol ρ s
   | none=>if k<st.np then ρ k else none
 let objs'':List O:=(bN h st.np st.env.length st.objs.length t).objs
 have hρbox:∀p∈bW st h.items,ρ'' p.2=ρ p.1:=fun p hp=>by simp only[ρ'',LG hbd hp]
 have hpn:∀k,k∉b9 h.items→D6 (bW st h.items) k=none:=fun k hk=>IG (by rw[hbpk];exact hk)
 have hsrc:∀k∈b9 h.items,∃q,(q,k)∈bW st h.items:=fun k hk=>by
  rw[←hbpk] at hk
  obtain⟨p,hp,rfl⟩:=List.mem_map.1 hk
  exact⟨p.1,hp⟩
 have hnotbox:∀k,k∈bF h.shapes→k∉b9 h.items:=fun k hk hb=>hdis k hb k hk rfl
 have hρrow:∀(i:Nat) k s,(bF h.shapes)[i]?=some k→rs[i]?=some s→ρ'' k=Ol ρ s:=fun i k s h1 h2=>by
  simp only[ρ'',hpn k (hnotbox k (List.mem_of_getElem? h1)),O3 _ _ i k s hr3 h1 h2]
 have hsrcnone:∀k,k∉bF h.shapes→AC (bF h.shapes) rs k=none:=fun k hk=>by
  cases hs:AC (bF h.shapes) rs k with
  | none=>rfl
  | some s=>obtain⟨i,h1,_⟩:=LA _ _ _ _ hs;exact(hk (List.mem_of_getElem? h1)).elim
 have hlenO:(b8 h.items (vG h.shapes t) (fW st.np st.env.length st.objs.length)).objs.length=st.objs.length:=by
  rw[(jP _ _ _).2.2];simp[fW];omega
 have hnprow:∀(i:Nat) k o,(d7 h.shapes t)[i]?=some (k,o)→objs''[k]?=some o:=fun i k o hi=>by
  refine LF _ _ i k o (by rw[dX];exact hr3) hi ?_
  rw[hlenO]
  exact hk1 k (List.mem_append.2 (.inr (List.mem_of_getElem? (hrows i k o hi).1)))
 have hother:∀k,k∉b9 h.items→k∉bF h.shapes→objs''[k]?=(fW st.np st.env.length st.objs.length).objs[k]?:=fun k hb hr=>by
  show (jN _ _)[k]?=_
  rw[mF _ _ k (by rw[dX];exact hr),lN h.items _ _ k hb]
 have hrowi:∀k,k∈bF h.shapes→∃(i:Nat) (o:O) (sr:Option Nat),(bF h.shapes)[i]?=some k∧objs''[k]?=some o∧rs[i]?=some sr∧o.rowf=true∧(∀k',sr=some k'→st.objs[k']?=some o)∧(sr=none→∃e n,o=.row false e n []∧(0<n∧n<1000000000)):=fun k hk=>by
  rw[←dX h.shapes t] at hk
  obtain⟨p,hp,rfl⟩:=List.mem_map.1 hk
  obtain⟨i,hi,he⟩:=List.getElem_of_mem hp
  have hget:(d7 h.shapes t)[i]?=some (p.1,p.2):=by rw[List.getElem?_eq_getElem hi,he]
  obtain⟨h1,sr,h2,h3⟩:=hrows i p.1 p.2 hget
  exact⟨i,p.2,sr,h1,hnprow i p.1 p.2 hget,h2,h3⟩
 have hHas:∀k b,Has objs'' ρ'' k b→(∃q,(q,k)∈bW st h.items∧Has st.objs ρ q b)∨∃i k',(bF h.shapes)[i]?=some k∧rs[i]?=some (some k')∧Has st.objs ρ k' b∧∃o,st.objs[k']?=some o∧o.rowf=true:=fun k b hh=>by
  obtain⟨o,v,h1,h2,h3,h4⟩:=hh
  by_cases hb:k∈b9 h.items
  ·obtain⟨q,hq⟩:=hsrc k hb
   obtain⟨l,hl⟩:=kZ h.items cs hg _ hq
   exact .inl ⟨q,hq,_,v,hl,rfl,(hρbox _ hq)▸h3,h4⟩
  ·by_cases hr:k∈bF h.shapes
   ·obtain⟨i,o',sr,q1,q2,q3,q4,q5,q6⟩:=hrowi k hr
    rw[hρrow i k sr q1 q3] at h3
    cases sr with
    | none=>simp only[Ol,Option.some.injEq] at h3;subst h3;have h5:=h4.one rfl;simp[Ky,blk] at h5
    | some k'=>
     refine .inr ⟨i,k',q1,q3,⟨o',v,q5 k' rfl,O.rowf_live q4,h3,h4⟩,o',q5 k' rfl,q4⟩
   ·rw[hother k hb hr,sW hnpm] at h1
    split at h1
    ·cases h1;cases h2
    ·split at h1
     ·cases h1;cases h2
     ·cases h1
 have hXX:∀b,XB objs'' ρ'' Xc b→XB st.objs ρ Xc b:=fun b hb=>by
  rcases hb with⟨k,hk⟩ | hb
  ·rcases hHas k b hk with⟨q,_,hh⟩ | ⟨i,k',_,_,hh,_⟩
   ·exact .inl ⟨q,hh⟩
   ·exact .inl ⟨k',hh⟩
  ·exact .inr hb
 have hT:Turn ρ ρ'' (XB st.objs ρ Xc) (XB objs'' ρ'' Xc) st.objs (bF h.shapes) rs zs (bW st h.items++cH h.shapes cs):=by
  refine⟨hXX,hlen.symm,hρrow,fun z hzm v b hv hb hx=>?_,fun p hp v hv=>?_⟩
  ·obtain⟨oz,hzo,hzy⟩:=hzs z hzm
   have hzr:some z∉rs:=fun hm=>by
    have:=List.all_eq_true.1 hz z hzm
    simp[hm] at this
   cases hzf:oz.frozen with
   | true=>
    have hko:=hR.objs z _ hzo
    cases oz with
    | row fz e n l=>
     obtain⟨v',e1,e2⟩:=hko
     rw[hv] at e1
     cases e1
     exact e2.frozen hzf b (hb.one (Gl e2)) (hXX b hx)
    | mp fz e n l=>
     obtain⟨v',e1,e2⟩:=hko
     rw[hv] at e1
     cases e1
     exact e2.frozen hzf b (hb.one (Kl e2)) (hXX b hx)
    | box l=>cases hzy
    | fbox l=>cases hzy
    | rr hole e e2 n l=>cases hzf
    | fwd l=>cases hzy
    | itr cur e n l=>cases hzy
    | dead=>cases hzy
    | fresh=>cases hzy
   | false=>
    have hHz:Has st.objs ρ z b:=⟨_,v,hzo,O.giv_live hzy hzf,hv,hb⟩
    rcases hx with⟨k,hk⟩ | hx
    ·rcases hHas k b hk with⟨q,hkb,hh⟩ | ⟨i,k',_,q,hh,_⟩
     ·have:=hR.sep q z b hh hHz
      subst this
      obtain⟨l',hl'⟩:=kZ h.items cs hg _ hkb
      rw[hzo] at hl';cases hl';cases hzy
     ·have:=hR.sep k' z b hh hHz
      subst this
      exact hzr (List.mem_of_getElem? q)
    ·exact hR.xc b hHz.mut hx
  ·rcases List.mem_append.1 hp with hp | hp
   ·rw[hρbox p hp];exact hv
   ·obtain⟨i,e1,e2⟩:=hpairs p hp
    rw[hρrow i _ _ e1 e2];exact hv
 have hRef:Refines w (XB st.objs ρ Xc) ρ (XB objs'' ρ'' Xc) ρ'' cs (vG h.shapes t):=⟨hturn ρ'' _ hT,O4 h.shapes cs hf t⟩
 have hnpE:=jP h.items (vG h.shapes t) (fW st.np st.env.length st.objs.length)
 have hbm:∀k∈b9 h.items,k<(fW st.np st.env.length st.objs.length).objs.length:=fun k hk=>by
  have:=hk1 k (List.mem_append.2 (.inl hk))
  simp[fW];omega
 refine⟨ρ'',fun k hk=>?_,by rw[show (bN h st.np st.env.length st.objs.length t).env.length=st.env.length by rw[show (bN h st.np st.env.length st.objs.length t).env.length=_ from hnpE.2.1];simp[fW]];exact hR.len,
  qU hR h.items cs _ _ hρbox hg hRef (ZZ _ _ _ _),fun k o ho=>?_,fun k k' b hk hk'=>?_,fun b hb=>?_,fun k hk=>?_,hR.defers,hR.frame,hR.xcl,fun b hb=>?_,fun p hp=>by rw[hex] at hp;simp at hp⟩
 ·have hb:k∉b9 h.items:=fun hb=>by have:=hk1 k (List.mem_append.2 (.inl hb));omega
  have hr:k∉bF h.shapes:=fun hr=>by have:=hk1 k (List.mem_append.2 (.inr hr));omega
  show ρ'' k=none
  simp only[ρ'',hpn k hb,hsrcnone k hr]
  rw[if_neg (by omega)]
 ·-- the objects
  have ho':objs''[k]?=some o:=ho
  by_cases hb:k∈b9 h.items
  ·obtain⟨q,l,l',q0,q1,q2,q3⟩:=(n6 hR h.items cs _ _ hg hRef hb3 hbm k).2 hb
   have:objs''[k]?=some (.box l'):=by
    show (jN _ _)[k]?=_
    rw[mF _ _ k (by rw[dX];exact fun hr=>hnotbox k hr hb)]
    exact q2
   rw[this] at ho'
   cases ho'
   obtain⟨v,e1,g,ys,ty,e2,e3,e0,e4⟩:=hR.objs q _ q1
   exact⟨v,(hρbox _ q0).trans e1,g,ys,ty,e2,e3,q3.2.head e0,q3.1 _ e4⟩
  ·by_cases hr:k∈bF h.shapes
   ·obtain⟨i,o',sr,q1,q2,q3,q4,q5,q6⟩:=hrowi k hr
    rw[q2] at ho'
    cases ho'
    have hρk:=hρrow i k sr q1 q3
    cases sr with
    | none=>
     obtain⟨e,n,rfl,hn⟩:=q6 rfl
     exact⟨Ky,hρk,hn,.nil n,⟨[],rowAt.nil w e n,⟨rfl,fun i t y h1 _=>by simp[flat] at h1⟩⟩,fun hc=>by cases hc⟩
    | some k'=>
     have hk':=q5 k' rfl
     have hko:=hR.objs k' _ hk'
     cases o with
     | row fz e n l=>
      obtain⟨v,e1,e2⟩:=hko
      have e3:=e2.step (X':=XB objs'' ρ'' Xc) (.refl (fun _=>False) w) (fun _ hb=>False.elim hb) (fun b hb=>.inl (hXX b hb)) (.refl ρ) (fun _ _ h=>h)
      exact⟨v,hρk.trans e1,e3⟩
     | mp fz e n l=>
      obtain⟨v,e1,e2⟩:=hko
      have e3:=e2.step (X':=XB objs'' ρ'' Xc) (.refl (fun _=>False) w) (fun _ hb=>False.elim hb) (fun b hb=>.inl (hXX b hb)) (.refl ρ) (fun _ _ h=>h)
      exact⟨v,hρk.trans e1,e3⟩
     | rr hole e e2' n l=>
      obtain⟨v,e1,e2⟩:=hko
      have e3:=okR.step (X':=XB objs'' ρ'' Xc) e2 (.refl (fun _=>False) w) (fun _ hb=>False.elim hb) (fun b hb=>.inl (hXX b hb)) (fun _ _ h=>h)
      exact⟨v,hρk.trans e1,e3⟩
     | itr cur e n l=>
      obtain⟨v,e1,e2⟩:=hko
      have e3:=okO.step (X':=XB objs'' ρ'' Xc) (o:=.itr cur e n l) (ρ:=ρ) e2 (.refl (fun _=>False) w) (fun _ hb=>False.elim hb) (fun b hb=>.inl (hXX b hb)) (.refl ρ) (fun _ _ h=>h)
      exact⟨v,hρk.trans e1,e3⟩
     | fwd l=>cases q4
     | box l=>cases q4
     | fbox l=>cases q4
     | dead=>cases q4
     | fresh=>cases q4
   ·rw[hother k hb hr,sW hnpm] at ho'
    split at ho'
    ·cases ho';trivial
    ·split at ho'
     ·cases ho'
      show ρ'' k=none
      simp only[ρ'',hpn k hb,hsrcnone k hr]
      rw[if_neg (by assumption)]
     ·cases ho'
 ·-- apart
  rcases hHas k b hk with⟨p,hkb,hh⟩ | ⟨i,q,q1,q2,hh,oq,hq,hqf⟩ <;> rcases hHas k' b hk' with⟨p',hkb',hh'⟩ | ⟨i',q',q1',q2',hh',oq',hq',hqf'⟩
  ·have:=hR.sep p p' b hh hh'
   subst this
   exact TA hbn hkb hkb'
  ·have:=hR.sep p q' b hh hh'
   subst this
   obtain⟨l'',hl''⟩:=kZ h.items cs hg _ hkb
   rw[hq'] at hl'';cases hl'';cases hqf'
  ·have:=hR.sep q p' b hh hh'
   subst this
   obtain⟨l'',hl''⟩:=kZ h.items cs hg _ hkb'
   rw[hq] at hl'';cases hl'';cases hqf
  ·have:=hR.sep q q' b hh hh'
   subst this
   have:=NN hnd q2 q2'
   subst this
   rw[q1] at q1'
   cases q1'
   rfl
 ·obtain⟨k,hk⟩:=hb
  rcases hHas k b hk with⟨_,_,hh⟩ | ⟨_,k',_,_,hh,_⟩
  ·exact hR.own b hh.mut
  ·exact hR.own b hh.mut
 ·have hk':k<st.np:=by rw[←show (bN h st.np st.env.length st.objs.length t).np=st.np from hnpE.1];exact hk
  rw[←hR.par k hk']
  by_cases hb:k∈b9 h.items
  ·obtain⟨q,hq⟩:=hsrc k hb
   have:=List.all_eq_true.1 hbk _ hq
   simp only[Bool.or_eq_true,beq_iff_eq,decide_eq_true_eq] at this
   rcases this with this | this
   ·have e:=hρbox _ hq
    rw[←this]
    rw[←this] at e
    exact e
   ·omega
  ·by_cases hr:k∈bF h.shapes
   ·obtain⟨i,_,sr,q1,_,q3,_⟩:=hrowi k hr
    have:=LH hkeep q1 q3
    rcases this with this | this
    ·omega
    ·subst this
     exact hρrow i k _ q1 q3
   ·show ρ'' k=ρ k
    simp only[ρ'',hpn k hb,hsrcnone k hr,if_pos hk']
 ·obtain⟨k,hk⟩:=hb
  rcases hHas k b hk with⟨_,_,hh⟩ | ⟨_,k',_,_,hh,_⟩
  ·exact hR.xc b hh.mut
  ·exact hR.xc b hh.mut
theorem Cw{h:Hint}{f:nR h.shapes→Option R}(hex:ρ0.ex=[])(hR:Rel w0 F Xc ρ0 ρ st a w)(hf:yE h st f=some r):
 ∃t,f t=some r∧∃ρ'',Rel w0 F Xc ρ0 ρ'' (bN h st.np st.env.length st.objs.length t) a w:=by
 obtain⟨t,h1,_,ρ'',_,h2⟩:=B5 hex hR hf
 exact⟨t,h1,ρ'',h2⟩
def n7:List It→List Nat
 | []=>[]
 | .slot i::l=>i::n7 l
 | .aggs i _::l=>i::n7 l
 | .box _ _::l=>n7 l
 | .boxr i _ _::l=>i::n7 l
theorem wC{α:Type}{l l':List α}{n j:Nat}{d:α}(hl:n≤l.length)(hl':n≤l'.length)(h:∀i,i<n→l[i]?=l'[i]?):∀i,i<n→(l.set j d)[i]?=(l'.set j d)[i]?:=fun i hi=>by
 rw[List.getElem?_set,List.getElem?_set]
 by_cases hj:j=i
 ·rw[if_pos hj,if_pos hj,if_pos (by omega),if_pos (by omega)]
 ·rw[if_neg hj,if_neg hj,h i hi]
theorem n8{n m:Nat}:∀(items:List It) (cs:List C) (s s':St),n≤s.env.length→n≤s'.env.length→m≤s.objs.length→m≤s'.objs.length→(∀i,i<n→s.env[i]?=s'.env[i]?)→(∀i,i<m→s.objs[i]?=s'.objs[i]?) →
 (∀i,i<n→(b8 items cs s).env[i]?=(b8 items cs s').env[i]?)∧∀i,i<m→(b8 items cs s).objs[i]?=(b8 items cs s').objs[i]?
 | [],_,s,s',_,_,_,_,h1,h2=>⟨h1,h2⟩
 | .slot i::l,cs,s,s',e1,e2,e3,e4,h1,h2=>n8 l _ { s with env:=s.env.set i _ } { s' with env:=s'.env.set i _ } (by simpa using e1) (by simpa using e2) e3 e4 (wC e1 e2 h1) h2
 | .aggs i n::l,cs,s,s',e1,e2,e3,e4,h1,h2=>n8 l _ { s with env:=s.env.set i _ } { s' with env:=s'.env.set i _ } (by simpa using e1) (by simpa using e2) e3 e4 (wC e1 e2 h1) h2
 | .box k n::l,cs,s,s',e1,e2,e3,e4,h1,h2=>n8 l _ { s with objs:=s.objs.set k _ } { s' with objs:=s'.objs.set k _ } e1 e2 (by simpa using e3) (by simpa using e4) h1 (wC e3 e4 h2)
 | .boxr i k n::l,cs,s,s',e1,e2,e3,e4,h1,h2=>n8 l _ { s with env:=s.env.set i _,objs:=s.objs.set k _ } { s' with env:=s'.env.set i _,objs:=s'.objs.set k _ } (by simpa using e1) (by simpa using e2) (by simpa using e3) (by simpa using e4) (wC e1 e2 h1) (wC e3 e4 h2)
theorem FH{m:Nat}:∀(l:List (Nat×O)) (o o':List O),m≤o.length→m≤o'.length→(∀i,i<m→o[i]?=o'[i]?)→∀i,i<m→(jN o l)[i]?=(jN o' l)[i]?
 | [],_,_,_,_,h=>h
 | p::l,o,o',e1,e2,h=>FH l _ _ (by simpa using e1) (by simpa using e2) (wC e1 e2 h)
theorem IH{h:Hint}{np n n' m m':Nat}{t:nR h.shapes}(hn:n≤n')(hm:m≤m')(hnp:np≤m):
 (∀i,i<n→(bN h np n m t).env[i]?=(bN h np n' m' t).env[i]?)∧∀i,i<m→(bN h np n m t).objs[i]?=(bN h np n' m' t).objs[i]?:=by
 have h1:(fW np n m).env.length=n:=by simp[fW]
 have h2:(fW np n' m').env.length=n':=by simp[fW]
 have h3:(fW np n m).objs.length=m:=by simp[fW];omega
 have h4:(fW np n' m').objs.length=m':=by simp[fW];omega
 obtain⟨a1,a2⟩:=n8 (n:=n) (m:=m) h.items (vG h.shapes t) (fW np n m) (fW np n' m') (by omega) (by omega) (by omega) (by omega)
  (fun i hi=>by simp only[fW,List.getElem?_replicate];rw[if_pos hi,if_pos (by omega)])
  (fun i hi=>by rw[sW hnp,sW (by omega)];by_cases hk:i<np <;> simp[hk,hi];omega)
 refine⟨a1,FH _ _ _ ?_ ?_ a2⟩
 ·rw[(jP _ _ _).2.2,h3];exact Nat.le_refl _
 ·rw[(jP _ _ _).2.2,h4];exact hm
theorem qV:∀(items:List It) (cs:List C) (s:St) (i:Nat),i∉n7 items→(b8 items cs s).env[i]?=s.env[i]?
 | [],_,_,_,_=>rfl
 | .slot j::l,cs,s,i,h=>by
  simp only[n7,List.mem_cons,not_or] at h
  simp only[b8]
  rw[qV l _ _ i h.2,List.getElem?_set_ne (fun e=>h.1 e.symm)]
 | .aggs j n::l,cs,s,i,h=>by
  simp only[n7,List.mem_cons,not_or] at h
  simp only[b8]
  rw[qV l _ _ i h.2,List.getElem?_set_ne (fun e=>h.1 e.symm)]
 | .box k n::l,cs,s,i,h=>by
  simp only[n7] at h
  simp only[b8]
  rw[qV l _ _ i h]
 | .boxr j k n::l,cs,s,i,h=>by
  simp only[n7,List.mem_cons,not_or] at h
  simp only[b8]
  rw[qV l _ _ i h.2,List.getElem?_set_ne (fun e=>h.1 e.symm)]
theorem pT{h:Hint}{np n m:Nat}{t:nR h.shapes}(hm:np≤m):(bN h np n m t).np=np∧(bN h np n m t).env.length=n∧(bN h np n m t).objs.length=m:=by
 obtain⟨h1,h2,h3⟩:=jP h.items (vG h.shapes t) (fW np n m)
 refine⟨h1,h2.trans (by simp[fW]),?_⟩
 show (jN _ _).length=_
 rw[IF,h3]
 simp[fW];omega
theorem sQ{R:Type}{h:Hint}{st:St}(f:nR h.shapes→Option R):yE h st f=(yE h st some).bind f:=by
 unfold yE
 split
 ·dsimp only
  refine(FG _ _ _).trans (Eq.trans ?_ (congrArg (fun z:Option (nR h.shapes)=>z.bind f) (FG _ _ _)).symm)
  rw[Option.bind_assoc]
  refine congrArg _ (funext fun p=>?_)
  split <;> rfl
 ·rfl
end
inductive Pos where
 | slot (i:Nat)
 | agg (i j:Nat)
 | box (k j:Nat)
 | boxr (i j:Nat)
def Na:It→List Pos
 | .slot i=>[.slot i]
 | .aggs i n=>(List.range n).map fun j=>.agg i j
 | .box k n=>(List.range n).map fun j=>.box k j
 | .boxr i _ n=>(List.range n).map fun j=>.boxr i j
def St.at(st:St):Pos→Option C
 | .slot i=>match st.env[i]? with
  | some (.s (.c c))=>some c
  | _=>none
 | .agg i j=>match st.env[i]? with
  | some (.s (.agg l))=>l[j]?
  | _=>none
 | .box k j=>match st.objs[k]? with
  | some (.box l)=>l[j]?
  | _=>none
 | .boxr i j=>match st.env[i]? with
  | some (.s (.c (.box k 0)))=>match st.objs[k]? with
   | some (.box l)=>l[j]?
   | _=>none
  | _=>none
def St.wr(st:St)(c:C):Pos→St
 | .slot i=>{ st with env:=st.env.set i (.s (.c c)) }
 | .agg i j=>match st.env[i]? with
  | some (.s (.agg l))=>{ st with env:=st.env.set i (.s (.agg (l.set j c))) }
  | _=>st
 | .box k j=>match st.objs[k]? with
  | some (.box l)=>{ st with objs:=st.objs.set k (.box (l.set j c)) }
  | _=>st
 | .boxr i j=>match st.env[i]? with
  | some (.s (.c (.box k 0)))=>match st.objs[k]? with
   | some (.box l)=>{ st with objs:=st.objs.set k (.box (l.set j c)) }
   | _=>st
  | _=>st
def TB(st:St)(p:Pos)(s:Sh):St:=match s with
 | .row e n _=>match st.at p with
  | some (.cut key m lo len _)=>match st.objs[key]? with
   | some (.row false e' n' es)=>if e'=e∧n'=n∧m=n then match gR st with
    | some K=>St.wr { st with objs:=(st.objs.set key .dead).set K (.row false e n (iR es lo len)) } (.row K) p
    | none=>st
    else st
   | _=>st
  | _=>st
 | _=>st
def I5(st:St):List Pos→List Sh→St
 | p::ps,s::ss=>I5 (TB st p s) ps ss
 | _,_=>st
def Z0(h:Hint)(st:St):St:=I5 st (h.items.flatMap Na) h.shapes
theorem La(st:St)(c:C)(p:Pos):(st.wr c p).np=st.np∧(st.wr c p).env.length=st.env.length∧(st.wr c p).objs.length=st.objs.length:=by
 unfold St.wr
 cases p <;> dsimp only <;> repeat' (first | split | exact⟨rfl,rfl,rfl⟩ | exact⟨rfl,List.length_set ..,rfl⟩ | exact⟨rfl,rfl,List.length_set ..⟩)
theorem Cx(st:St)(p:Pos)(s:Sh):(TB st p s).np=st.np∧(TB st p s).env.length=st.env.length∧(TB st p s).objs.length=st.objs.length:=by
 unfold TB
 repeat' (first | split | exact⟨rfl,rfl,rfl⟩)
 obtain⟨h1,h2,h3⟩:=La { st with objs:=_ } _ p
 exact⟨h1,h2,by rw[h3];simp⟩
theorem TC:∀(ps:List Pos) (ss:List Sh) (st:St),(I5 st ps ss).np=st.np∧(I5 st ps ss).env.length=st.env.length∧(I5 st ps ss).objs.length=st.objs.length
 | [],_,st=>by unfold I5;exact⟨rfl,rfl,rfl⟩
 | p::ps,[],st=>by unfold I5;exact⟨rfl,rfl,rfl⟩
 | p::ps,s::ss,st=>by
  unfold I5
  obtain⟨h1,h2,h3⟩:=TC ps ss (TB st p s)
  obtain⟨g1,g2,g3⟩:=Cx st p s
  exact⟨h1.trans g1,h2.trans g2,h3.trans g3⟩
theorem TD(h:Hint)(st:St):(Z0 h st).np=st.np∧(Z0 h st).env.length=st.env.length∧(Z0 h st).objs.length=st.objs.length:=TC _ _ st
section
variable {w0 w:World} {F Xc:Nat→Prop} {ρ0:Base} {ρ:fN} {st:St} {a:Act}
theorem RdL.set{X:Nat→Prop}{l:List C}{ys:List Value}(h:RdL w X ρ l ys){j:Nat}{c:C}(hc:∀y,ys[j]?=some y→RdC1 w X ρ c y):RdL w X ρ (l.set j c) ys:=by
 refine⟨by simp[h.1],fun i c' y h1 h2=>?_⟩
 rw[List.getElem?_set] at h1
 split at h1
 ·rename_i e
  subst e
  split at h1
  ·cases h1;exact hc y h2
  ·cases h1
 ·exact h.2 i c' y h1 h2
theorem Rel.boxw(h:Rel w0 F Xc ρ0 ρ st a w){k:Nat}{l l':List C}(ho:st.objs[k]?=some (.box l))(hs:SelfLe l l')(hl:∀v g ys ty,ρ k=some v→v=.pointer (some ⟨g,0,none⟩)→w.heap[g]?=some (.cells ys ty (0,0))→RdL w (XB st.objs ρ Xc) ρ l ys.toList→RdL w (XB st.objs ρ Xc) ρ l' ys.toList):
 Rel w0 F Xc ρ0 ρ { st with objs:=st.objs.set k (.box l') } a w:=by
 have hlt:k<st.objs.length:=(List.getElem?_eq_some_iff.1 ho).1
 obtain⟨v,e1,g,ys,ty,e2,e3,e4,e5⟩:=h.objs k _ ho
 have hH:∀b,Has (st.objs.set k (.box l')) ρ k b→Has st.objs ρ k b:=fun b ⟨o',v',q1,q2,q3,q4⟩=>⟨_,v',ho,rfl,q3,q4⟩
 have hs0:Stp (fun _=>False) w w:=.refl _ w
 refine h.change (st.objs.set k (.box l')) ρ (·=k) hs0 (fun j hj=>⟨by rw[List.getElem?_set_ne (fun e=>hj e.symm)],rfl⟩) (.refl _) (fun _ hb=>hb.elim)
  (fun j b hj hh=>?_) (fun j j' b hj hj' _ _=>hj.trans hj'.symm) (fun hX j o' hj hoj=>?_) (fun _ _=>rfl)
 ·subst hj;exact .inl ⟨j,rfl,hH b hh⟩
 ·subst hj
  rw[List.getElem?_set_self hlt] at hoj
  cases hoj
  exact⟨v,e1,g,ys,ty,e2,e3,hs.head e4,(hl v g ys ty e1 e2 e3 e5).step hs0 (fun _ h=>h.elim) hX (.refl _)⟩
theorem SelfLe.setRow{l:List C}{j K:Nat}:SelfLe l (l.set j (.row K)):=fun i t hi=>by
 rw[List.getElem?_set] at hi
 split at hi
 ·split at hi <;> cases hi
 ·exact hi
theorem Hd(h:Rel w0 F Xc ρ0 ρ st a w)(p:Pos)(s:Sh):∃ρ',Rel w0 F Xc ρ0 ρ' (TB st p s) a w:=by
 unfold TB
 split
 case h_2=>exact⟨ρ,h⟩
 rename_i e n _
 split
 case h_2=>exact⟨ρ,h⟩
 rename_i key m lo len tg hat
 split
 case h_2=>exact⟨ρ,h⟩
 rename_i e' n' es hob
 split
 case isFalse=>exact⟨ρ,h⟩
 rename_i hcond
 obtain⟨rfl,rfl,rfl⟩:=hcond
 split
 case h_2=>exact⟨ρ,h⟩
 rename_i K hK
 obtain⟨k1,k2⟩:=uK hK
 have hklt:key<st.objs.length:=(List.getElem?_eq_some_iff.1 hob).1
 have hKk:K≠key:=fun e=>by rw[e,hob] at k2;cases k2
 have step:∀y,RdC1 w (XB st.objs ρ Xc) ρ (.cut key m lo len tg) y→∃ρ',Rel w0 F Xc ρ0 ρ' { st with objs:=(st.objs.set key .dead).set K (.row false e' m (iR es lo len)) } a w∧ρ' K=some y∧Rle ρ ρ'∧y.oneCell'=true:=by
  intro y hy
  rcases hy with hy | ⟨⟨v,q1,q2⟩,h1⟩
  ·cases hy
  obtain⟨hv,e1,e2⟩:=h.objs key _ hob
  rw[q1] at e1
  cases e1
  obtain⟨hlen,huc,_,_⟩:=BY e2 q2
  obtain⟨h0,hu0,⟨xs,hown0,hr0⟩,_⟩:=e2
  obtain⟨d,rfl⟩:∃d,K=st.np+d:=⟨K-st.np,by omega⟩
  obtain⟨ρ',r1,r2,r3⟩:=zO h h0 hob q1 (fun b hb=>q2.blk hb) w d (iR es lo len) y _ (by rw[List.getElem?_set_ne (fun e=>hKk e.symm)];exact k2) (by rw[hlen];exact q2.row hown0) huc (World.grownBy.refl w _) (.inl rfl) (by
   have hfl:flat (iR es lo len)=((flat es).drop (lo*m)).take (len*m):=by unfold iR;rw[(hu0.drop lo).flat_take,hu0.flat_drop]
   rw[hfl]
   have hxl:=hr0.1
   refine⟨by simp[hxl],fun i t z h1 h2=>?_⟩
   rw[List.getElem?_take] at h1 h2
   split at h1
   ·rename_i hlt
    rw[if_pos hlt] at h2
    rw[List.getElem?_drop] at h1 h2
    exact hr0.2 _ t z h1 h2
   ·cases h1)
  exact⟨ρ',r1,r2,r3,h1⟩
 have other:∀(k:Nat) (l:List C),st.objs[k]?=some (.box l)→((st.objs.set key .dead).set K (.row false e' m (iR es lo len)))[k]?=some (.box l):=fun k l hk=>by
  have h1:K≠k:=fun e=>by rw[e,hk] at k2;cases k2
  have h2:key≠k:=fun e=>by rw[e,hk] at hob;cases hob
  rw[List.getElem?_set_ne h1,List.getElem?_set_ne h2];exact hk
 have boxcase:∀(k:Nat) (l:List C) (j:Nat),st.objs[k]?=some (.box l)→l[j]?=some (.cut key m lo len tg) →
  ∃ρ',Rel w0 F Xc ρ0 ρ' { st with objs:=((st.objs.set key .dead).set K (.row false e' m (iR es lo len))).set k (.box (l.set j (.row K))) } a w:=by
  intro k l j hk hj
  obtain⟨v,e1,g,ys,ty,e2,e3,e4,e5⟩:=h.objs k _ hk
  have hjl:j<ys.toList.length:=by rw[e5.1];exact(List.getElem?_eq_some_iff.1 hj).1
  obtain⟨ρ',r1,r2,r3,r4⟩:=step _ (e5.2 j _ _ hj (List.getElem?_eq_getElem hjl))
  refine⟨ρ',r1.boxw (other k l hk) SelfLe.setRow fun v' g' ys' ty' f1 f2 f3 f4=>f4.set fun y hy=>?_⟩
  rw[r3 _ _ e1] at f1
  cases f1
  rw[e2] at f2
  cases f2
  rw[e3] at f3
  cases f3
  rw[List.getElem?_eq_getElem hjl] at hy
  cases hy
  exact .inr ⟨r2,r4⟩
 cases p with
 | slot i=>
  simp only[St.at] at hat
  split at hat
  ·rename_i c hi
   cases hat
   have hil:i<a.tmps.size:=by rw[h.len];exact(List.getElem?_eq_some_iff.1 hi).1
   obtain⟨ρ',r1,r2,r3,r4⟩:=step _ (h.env i _ _ hi (Array.getElem?_eq_getElem hil))
   refine⟨ρ',r1.slot (d:=.s (.c (.row K))) fun y hy=>?_⟩
   rw[Array.getElem?_eq_getElem hil] at hy
   cases hy
   exact .inr ⟨r2,r4⟩
  ·cases hat
 | agg i j=>
  simp only[St.at] at hat
  split at hat
  ·rename_i l hi
   have hil:i<a.tmps.size:=by rw[h.len];exact(List.getElem?_eq_some_iff.1 hi).1
   have hd:=h.env i _ _ hi (Array.getElem?_eq_getElem hil)
   obtain⟨cs,hcs,hl⟩:=hd
   have hjl:j<cs.toList.length:=by rw[hl.1];exact(List.getElem?_eq_some_iff.1 hat).1
   obtain⟨ρ',r1,r2,r3,r4⟩:=step _ (hl.2 j _ _ hat (List.getElem?_eq_getElem hjl))
   have hd':=r1.env i _ _ hi (Array.getElem?_eq_getElem hil)
   obtain⟨cs',hcs',hl'⟩:=hd'
   rw[hcs] at hcs'
   cases hcs'
   simp only[St.wr,hi]
   refine⟨ρ',r1.slot (d:=.s (.agg (l.set j (.row K)))) fun y hy=>?_⟩
   rw[Array.getElem?_eq_getElem hil] at hy
   cases hy
   refine⟨cs,hcs,hl'.set fun y hy=>?_⟩
   rw[List.getElem?_eq_getElem hjl] at hy
   cases hy
   exact .inr ⟨r2,r4⟩
  ·cases hat
 | box k j=>
  simp only[St.at] at hat
  split at hat
  ·rename_i l hk
   have ho:=other k l hk
   simp only[St.wr,ho]
   exact boxcase k l j hk hat
  ·cases hat
 | boxr i j=>
  simp only[St.at] at hat
  split at hat
  ·rename_i k hi
   split at hat
   ·rename_i l hk
    have ho:=other k l hk
    simp only[St.wr,hi,ho]
    exact boxcase k l j hk hat
   ·cases hat
  ·cases hat
theorem XV:∀(ps:List Pos) (ss:List Sh) {st:St} {ρ:fN},Rel w0 F Xc ρ0 ρ st a w→∃ρ',Rel w0 F Xc ρ0 ρ' (I5 st ps ss) a w
 | [],_,st,ρ,h=>by unfold I5;exact⟨ρ,h⟩
 | p::ps,[],st,ρ,h=>by unfold I5;exact⟨ρ,h⟩
 | p::ps,s::ss,st,ρ,h=>by
  unfold I5
  obtain⟨ρ1,h1⟩:=Hd h p s
  exact XV ps ss h1
theorem XW(hh:Hint)(h:Rel w0 F Xc ρ0 ρ st a w):∃ρ',Rel w0 F Xc ρ0 ρ' (Z0 hh st) a w:=XV _ _ h
end
open Classical in
noncomputable def CS{R:Type}(a b:Option R):Option R:=if a=b then a else none
theorem LI{R:Type}{a b:Option R}{r:R}(h:CS a b=some r):a=some r∧b=some r:=by
 unfold CS at h
 split at h
 ·rename_i e;exact⟨h,e▸h⟩
 ·cases h
theorem Cy{R:Type}{a b:Option R}{r:R}(h1:a=some r)(h2:b=some r):CS a b=some r:=by
 unfold CS
 rw[h1,h2,if_pos rfl]
noncomputable def D7{R:Type}:List (Option R)→Option R
 | []=>none
 | [x]=>x
 | x::l=>CS x (D7 l)
noncomputable def LJ{S E R:Type}(F:S→List (Option (S⊕E)))(K:E→Option R):Nat→S→Option R
 | 0,_=>none
 | n+1,s=>D7 ((F s).map fun o=>match o with
  | some (.inl s')=>LJ F K n s'
  | some (.inr q)=>K q
  | none=>none)
open Classical in
noncomputable def Lb{S E R:Type}(F:S→List (Option (S⊕E)))(K:E→Option R)(s:S):Option R:=if h:∃n r,LJ F K n s=some r then LJ F K (Classical.choose h) s else none
def He{α β:Type}[Inhabited α](l:List α)(F0:β)(F:α→List α→β):List β:=match l with
 | []=>[F0]
 | l=>(List.range l.length).map fun i=>F (l.getD i default) (l.eraseIdx i)
theorem II{R:Type}:∀{l:List (Option R)} {r:R},D7 l=some r→∀o∈l,o=some r
 | [],r,h=>by simp[D7] at h
 | [x],r,h=>fun o ho=>by simp only[List.mem_singleton] at ho;subst ho;simpa[D7] using h
 | x::y::l,r,h=>fun o ho=>by
  rw[D7] at h
  obtain⟨h1,h2⟩:=LI h
  rcases List.mem_cons.1 ho with rfl | ho
  ·exact h1
  ·exact II h2 o ho
  all_goals simp
theorem Z1{S E R:Type}{F:S→List (Option (S⊕E))}{K:E→Option R}{s:S}{r:R}(h:Lb F K s=some r):∃n,LJ F K n s=some r:=by
 unfold Lb at h
 split at h
 ·exact⟨_,h⟩
 ·cases h
section
variable {R:Type} (P:Program)
def VU(st:St)(dst:Option Nat)(t:TypeId)(x:D)(k:St→D→Option R):Option R:=match P.underlying t with
 | some (.map kt _)=>match sV P kt with
  | some c=>mE x fun cx=>match GY st.objs [cx] with
   | some (objs',[.t (.sl n l)])=>if n=c+1000000000 then f6 { st with objs:=objs' } dst (.itr none t (n+1000000000) l) fun st key=>k st (.s (.c (.row key))) else none
   | _=>none
  | none=>none
 | _=>none
def VV(st:St)(x:D)(k:St→D→Option R):Option R:=match x with
 | .s (.c (.row key))=>match st.objs[key]? with
  | some (.itr (some t) e n l)=>match P.underlying e with
   | some (.map kt et)=>I3 P kt (vD t) fun sk=>I3 P et (KY t) fun sv=>k { st with objs:=st.objs.set key (.itr none e n l) } (.tup [sk,sv])
   | _=>none
  | _=>none
 | _=>none
def O5{α:Type}(st:St)(dst:Option Nat)(x:D)(k:St→α):List α:=match x with
 | .s (.c (.row key))=>match st.objs[key]? with
  | some (.itr none e n l)=>He l (k (st.put dst (.tup [.c (.t (.v (.bool false)))]))) fun t l'=>k (({ st with objs:=st.objs.set key (.itr (some t) e n l') }:St).put dst (.tup [.c (.t (.v (.bool true))),.c .top,.c .top]))
  | _=>[]
 | _=>[]
end
section
variable {R:Type} {P:Program} {w0 w:World} {F Xc:Nat→Prop} {ρ0:Base} {ρ:fN} {st:St} {a:Act} {r:R} {Q:Exit→Act→World→Prop}
theorem Nb{es:Array MapEntry}(h:∀(i:Nat) e,es[i]?=some e→e.born=i):(es.toList.map (·.born)).Nodup:=by
 have e1:es.toList.map (·.born)=List.range es.size:=by
  refine List.ext_getElem? fun i=>?_
  rw[List.getElem?_map,Array.getElem?_toList]
  by_cases hi:i<es.size
  ·rw[List.getElem?_range hi,Array.getElem?_eq_getElem hi]
   exact congrArg some (h i _ (Array.getElem?_eq_getElem hi))
  ·rw[Array.getElem?_eq_none (by omega),List.getElem?_eq_none (by simp;omega)]
   rfl
 rw[e1]
 exact List.nodup_range
theorem LK:∀{L:List MapEntry} {i:Nat} {e:MapEntry},(L.map (·.born)).Nodup→L[i]?=some e→L.filter (fun x=>!(x.born==e.born))=L.eraseIdx i
 | [],i,e,_,h=>by simp at h
 | x::L,0,e,hn,h=>by
  simp at h
  subst h
  obtain⟨h1,h2⟩:=List.nodup_cons.1 (show (x.born::L.map (·.born)).Nodup from hn)
  rw[List.filter_cons_of_neg (by simp),List.eraseIdx_cons_zero]
  refine List.filter_eq_self.2 fun y hy=>?_
  have:y.born≠x.born:=fun he=>h1 (he▸List.mem_map.2 ⟨y,hy,rfl⟩)
  simpa using this
 | x::L,i+1,e,hn,h=>by
  obtain⟨h1,h2⟩:=List.nodup_cons.1 (show (x.born::L.map (·.born)).Nodup from hn)
  have hi:L[i]?=some e:=by simpa using h
  have:x.born≠e.born:=fun he=>h1 (he▸List.mem_map.2 ⟨e,List.mem_of_getElem? hi,rfl⟩)
  rw[List.filter_cons_of_pos (by simpa using this),List.eraseIdx_cons_succ,LK h2 hi]
theorem VW(es:Array MapEntry)(seen:Array Nat)(b:Nat):CL es (seen.push b)=(CL es seen).filter fun x=>!(x.born==b):=by
 unfold CL
 rw[List.filter_filter]
 refine List.filter_congr fun x _=>?_
 rw[contains_push]
 cases seen.contains x.born <;> cases(x.born==b) <;> rfl
theorem Lc{X:Nat→Prop}{c:Nat}{k:T}{v:Value}(h:kT c k=some v):Rd w X k v∧CG k v:=by
 rcases dO h with⟨_,x,rfl,rfl⟩ | ⟨_,s,rfl,rfl⟩ | ⟨m,xs,_,hl,rfl,rfl⟩
 ·exact⟨.v _,.inr rfl⟩
 ·exact⟨.v _,.inr rfl⟩
 ·refine⟨.agg _ _ (by simp) (fun i y hi=>?_) (fun i t y h1 h2=>?_),.inl ⟨_,rfl⟩⟩
  ·simp only[List.getElem?_toArray,List.getElem?_map] at hi
   cases hx:xs[i]? with
   | none=>simp[hx] at hi
   | some x=>simp only[hx,Option.map_some,Option.some.injEq] at hi;subst hi;rfl
  ·simp only[List.getElem?_toArray,List.getElem?_map] at h1 h2
   cases hx:xs[i]? with
   | none=>simp[hx] at h1
   | some x=>simp only[hx,Option.map_some,Option.some.injEq] at h1 h2;subst h1;subst h2;exact .v _
theorem Z2{dst:Option Nat}{t:TypeId}{x:D}{vx:Value}{k:St→D→Option R}(h:Rel w0 F Xc ρ0 ρ st a w)(hx:RdD w (XB st.objs ρ Xc) ρ x vx)(hk:VU P st dst t x k=some r):
 ∃y w' ρ' st' d,(Instr.range t vx).run P w=.ok y w'∧Rel w0 F Xc ρ0 ρ' st' a w'∧RdD w' (XB st'.objs ρ' Xc) ρ' d y∧k st' d=some r:=by
 unfold VU at hk
 split at hk
 case h_2=>cases hk
 rename_i kt e hu
 split at hk
 case h_2=>cases hk
 rename_i c hc
 obtain⟨cx,rfl,hcx,hk1⟩:=jJ hx hk
 split at hk1
 case h_2=>cases hk1
 rename_i objs' n l hfz
 split at hk1
 case isFalse=>cases hk1
 rename_i hn
 obtain⟨hR,hl⟩:=EZ h (ys:=[vx]) ⟨rfl,fun i c y h1 h2=>by
  match i with
  | 0=>simp at h1 h2;subst h1;subst h2;exact hcx
  | i+1=>simp at h1⟩ hfz
 have hrd:=hl.2 0 _ vx rfl rfl
 rcases hrd with hrd | ⟨hrd,_⟩
 ·cases hrd
 have hrd':Rd w (XB objs' ρ Xc) (.sl n l) vx:=hrd
 obtain⟨d,_,hf,hk2⟩:=r8 hk1
 cases hrd' with
 | nil=>omega
 | sl=>omega
 | mp _ _ g es clock h0 hg hx0 hlen hs hb hv=>
 have hlt:g<w.heap.size:=(Array.getElem?_eq_some_iff.1 hg).1
 refine⟨_,_,_,_,_,run_range_map w t kt e g es clock hu hg,hR.new (hv:=.pointer (some ⟨w.heap.size,0,none⟩)) (o:=.itr none t (n+1000000000) l) hf (Stp.alloc (fun _=>False) w (.mapIter (some g) clock #[] clock)) (fun b hb=>by simp only[blk,Option.some.injEq] at hb;omega)
  (fun X' hX=>⟨by omega,w.heap.size,g,clock,#[],clock,es,rfl,heap_alloc_new w _,(Below.heap_alloc w _ g hlt).trans hg,fun hxg=>?_,fun x hxe=>?_,Nat.le_refl _,Nb hb.2,⟨es.toList,?_,by simpa using hlen,fun i t e h1 h2=>?_⟩,fun t ht=>by cases ht⟩) (Nat.le_add_right _ _) (by simp),
  .one (c:=.row (st.np+d)) (by simp[RdC,upd]) rfl,hk2⟩
 ·rcases hX g hxg with hh | hh
  ·exact hx0 hh
  ·omega
 ·obtain⟨i,hi,rfl⟩:=List.getElem_of_mem hxe
  have hi':i<es.size:=by simpa using hi
  have:=hb.2 i _ (by rw[Array.getElem?_eq_getElem hi'])
  simp only[Array.getElem_toList]
  omega
 ·unfold CL
  rw[List.filter_eq_self.2 fun x _=>by simp]
 ·rw[Array.getElem?_toList] at h2
  obtain⟨kk,v,e1,e2,e3⟩:=hs i t e h1 h2
  refine⟨kk,v,e1,?_,e3,(hv i kk v e (e1▸h1) h2).step (Stp.alloc (fun _=>False) w _) (fun _ h=>h.elim) hX⟩
  have:n+1000000000-2000000000=n-1000000000:=by omega
  rw[this]
  exact e2
theorem Z3{x:D}{vx:Value}{k:St→D→Option R}(h:Rel w0 F Xc ρ0 ρ st a w)(hx:RdD w (XB st.objs ρ Xc) ρ x vx)(hk:VV P st x k=some r):
 ∃y st' d,(Instr.entry vx).run P w=.ok y w∧Rel w0 F Xc ρ0 ρ st' a w∧RdD w (XB st'.objs ρ Xc) ρ d y∧k st' d=some r:=by
 unfold VV at hk
 split at hk
 case h_2=>cases hk
 rename_i key
 split at hk
 case h_2=>cases hk
 rename_i t e n l hob
 split at hk
 case h_2=>cases hk
 rename_i kt et hu
 obtain⟨v,e1,e2⟩:=h.objs key _ hob
 rcases hx with hx | ⟨hx,_⟩
 ·cases hx
 have hcc:ρ key=some vx:=hx
 rw[hcc] at e1
 cases e1
 obtain⟨h0,g,bm,since,seen,clock,es,rfl,h1,h2,h3,h4,h5,h6,h7,h8⟩:=e2
 obtain⟨en,f1,⟨sn,rfl⟩,kk,vv,rfl,f3,f4,f5⟩:=h8 t rfl
 obtain⟨k1,k2⟩:=Lc (w:=w) (X:=XB st.objs ρ Xc) f3
 obtain⟨sk,q1,hk1⟩:=FA (ρ:=ρ) k1 k2 hk
 obtain⟨sv,q2,hk2⟩:=FA (ρ:=ρ) f5 f4 hk1
 have hlt:key<st.objs.length:=(List.getElem?_eq_some_iff.1 hob).1
 have hHas:∀b,Has (st.objs.set key (.itr none e n l)) ρ key b→Has st.objs ρ key b:=fun b ⟨o',v',q1,q2,q3,q4⟩=>⟨_,v',hob,rfl,q3,q4⟩
 have hs0:Stp (fun _=>False) w w:=.refl _ w
 have hX0:∀b,XB (st.objs.set key (.itr none e n l)) ρ Xc b→XB st.objs ρ Xc b:=fun b hb=>by
  rcases hb with⟨j,hj⟩ | hb
  ·by_cases hjk:j=key
   ·subst hjk;exact .inl ⟨j,hHas b hj⟩
   ·obtain⟨o',v',g1,g2,g3,g4⟩:=hj
    rw[List.getElem?_set_ne (fun e=>hjk e.symm)] at g1
    exact .inl ⟨j,o',v',g1,g2,g3,g4⟩
  ·exact .inr hb
 refine⟨_,{ st with objs:=st.objs.set key (.itr none e n l) },.tup [sk,sv],run_entry_at w g bm since sn es clock en h1 h2 f1 h6,h.change (st.objs.set key (.itr none e n l)) ρ (·=key) hs0 (fun j hj=>⟨by rw[List.getElem?_set_ne (fun e=>hj e.symm)],rfl⟩) (.refl _) (fun _ hb=>hb.elim)
  (fun j b hj hh=>?_) (fun j j' b hj hj' _ _=>hj.trans hj'.symm) (fun hX j o' hj hoj=>?_) (fun _ _=>rfl),⟨#[en.key,en.val],rfl,rfl,fun i s y z1 z2=>?_⟩,hk2⟩
 ·subst hj;exact .inl ⟨j,rfl,hHas b hh⟩
 ·subst hj
  rw[List.getElem?_set_self hlt] at hoj
  cases hoj
  refine⟨_,hcc,?_⟩
  have hold:okI w (XB st.objs ρ Xc) none n l (.pointer (some ⟨g,0,none⟩)):=⟨h0,g,bm,since,_,clock,es,rfl,h1,h2,h3,h4,h5,h6,h7,fun t ht=>by cases ht⟩
  exact hold.step hs0 (fun _ h=>h.elim) hX (fun _ _ h=>h)
 ·match i,z1,z2 with
  | 0,z1,z2=>simp at z1 z2;subst z1;subst z2;exact q1.step hs0 (fun _ h=>h.elim) (fun b hb=>.inl (hX0 b hb)) (.refl _)
  | 1,z1,z2=>simp at z1 z2;subst z1;subst z2;exact q2.step hs0 (fun _ h=>h.elim) (fun b hb=>.inl (hX0 b hb)) (.refl _)
  | i+2,z1,z2=>simp at z1
theorem QS(w:World)(g:Nat)(o:Obj):Stp (fun b=>b=g) w (ChangeMaps.setBlock w g o):=by
 refine⟨rfl,rfl,rfl,by simp[ChangeMaps.setBlock],fun b hb hy=>?_⟩
 simp only[ChangeMaps.setBlock]
 rw[Array.getElem?_setIfInBounds_ne (fun e=>hy e.symm)]
theorem Cz{α:Type}{o:Oper}{x:Operand}{next:Act→World→Prop}{k:St→α}(ho:o.op=.next x false)(h:Rel w0 F Xc ρ0 ρ st a w)(hne:O5 st o.dst (ev st x) k≠[])
 (hn:∀ρ' st' a' w',Rel w0 F Xc ρ0 ρ' st' a' w'→k st'∈O5 st o.dst (ev st x) k→next a' w'):o.wp P a w next Q:=by
 have hx:=h.ev x
 generalize hd:ev st x=d at hx hne hn
 unfold O5 at hne
 split at hne
 case h_2=>exact(hne rfl).elim
 rename_i key
 split at hne
 case h_2=>exact(hne rfl).elim
 rename_i e n l hob
 have hnk:O5 st o.dst (.s (.c (.row key))) k=He l (k (st.put o.dst (.tup [.c (.t (.v (.bool false)))]))) fun t l'=>k (({ st with objs:=st.objs.set key (.itr (some t) e n l') }:St).put o.dst (.tup [.c (.t (.v (.bool true))),.c .top,.c .top])):=by
  unfold O5
  simp only[hob]
 rw[hnk] at hn
 obtain⟨v,e1,e2⟩:=h.objs key _ hob
 rcases hx with hx | ⟨hx,_⟩
 ·cases hx
 have hcc:ρ key=some (a.eval x):=hx
 rw[hcc] at e1
 cases e1
 obtain⟨h0,g,bm,since,seen,clock,es,hv,h1,h2,h3,h4,h5,h6,⟨L',p1,p2,p3⟩,h8⟩:=e2
 have hexec:∀{res:Result Value},(Instr.next (a.eval x) false o.type).run P w=res→(execOp a.eval o).run P w=res.andThen fun y w'=>.ok (.value y) w':=fun {res} hr=>by
  unfold execOp
  rw[ho]
  simp only[Sem.run_bind,hr]
  cases res <;> rfl
 rcases run_next_at (P:=P) w o.type g bm since clock seen es clock h1 h2 h4 h5 with⟨z1,z2⟩ | ⟨en,z1,w1,z2,z3⟩
 ·have hl:l=[]:=by
   have:L'=[]:=by
    have e3:CL es seen=[]:=by
     have:(leftOf es seen).toList.length=0:=by simpa using z1
     unfold leftOf at this
     unfold CL
     rw[Array.toList_filter] at this
     exact List.eq_nil_of_length_eq_zero this
    rw[e3] at p1
    exact List.perm_nil.1 p1
   rw[this] at p2
   exact List.eq_nil_of_length_eq_zero p2.symm
  subst hl
  rw[←hv] at z2
  have hd0:RdD w (XB st.objs ρ Xc) ρ (.tup [.c (.t (.v (.bool false)))]) (.tuple #[.bool false]):=⟨#[.bool false],rfl,rfl,fun i s y g1 g2=>by
   match i,g1,g2 with
   | 0,g1,g2=>simp at g1 g2;subst g1;subst g2;exact .inr ⟨.v _,rfl⟩
   | i+1,g1,g2=>simp at g1⟩
  exact G5 (by rw[hexec z2];rfl) (hn ρ _ _ _ (h.put o.dst hd0) (by simp[He]))
 ·have hen:en∈CL es seen:=by
   unfold leftOf at z1
   unfold CL
   rw[Array.toList_filter] at z1
   exact z1
  have hees:en∈es.toList:=(List.mem_filter.1 hen).1
  obtain⟨i,hi,hie⟩:=List.getElem_of_mem (p1.mem_iff.2 hen)
  have hLi:L'[i]?=some en:=by rw[List.getElem?_eq_getElem hi,hie]
  have hil:i<l.length:=by omega
  have hli:l[i]?=some l[i]:=List.getElem?_eq_getElem hil
  have hrel:=p3 i _ _ hli hLi
  have hlt:key<st.objs.length:=(List.getElem?_eq_some_iff.1 hob).1
  have hHas:Has st.objs ρ key g:=⟨_,_,hob,rfl,hcc,.inl (by rw[hv];rfl)⟩
  have hgl:g<w.heap.size:=(Array.getElem?_eq_some_iff.1 h1).1
  have hbg:bm≠g:=fun e=>by rw[e,h1] at h2;cases h2
  have hw1:Stp (fun b=>b=g) w w1:=by
   rcases z2 with rfl | rfl
   ·exact .refl _ _
   ·exact .drew _ _
  have hheap:w1.heap=w.heap:=by rcases z2 with rfl | rfl <;> rfl
  have hst:Stp (fun b=>b=g) w (ChangeMaps.setBlock w1 g (.mapIter (some bm) since (seen.push en.born) clock)):=hw1.trans (QS _ _ _)
  rw[←hv] at z3
  have hnd:(L'.map (·.born)).Nodup:=by
   refine(p1.map _).nodup_iff.2 ?_
   unfold CL
   exact h6.sublist ((List.filter_sublist).map _)
  refine G5 (by rw[hexec z3];rfl) (hn ρ _ _ _ (Rel.put (d:=.tup [.c (.t (.v (.bool true))),.c .top,.c .top]) (v:=.tuple #[.bool true,en.key,en.val]) (h.change (st.objs.set key (.itr (some l[i]) e n (l.eraseIdx i))) ρ (·=key) hst (fun j hj=>⟨by rw[List.getElem?_set_ne (fun e=>hj e.symm)],rfl⟩) (.refl _) (fun b hb=>⟨key,rfl,hb▸hHas⟩)
   (fun j b hj hb=>?_) (fun j j' b hj hj' _ _=>hj.trans hj'.symm) (fun hX j o' hj hoj=>?_) (fun _ _=>rfl)) o.dst ⟨#[.bool true,en.key,en.val],rfl,rfl,fun i s y g1 g2=>?_⟩) ?_)
  ·subst hj
   obtain⟨o',v',q1,q2,q3,q4⟩:=hb
   rw[hcc] at q3
   cases q3
   exact .inl ⟨_,rfl,_,_,hob,rfl,hcc,q4⟩
  ·subst hj
   rw[List.getElem?_set_self hlt] at hoj
   cases hoj
   have hYX:∀b,b=g→XB st.objs ρ Xc b:=fun b hb=>.inl ⟨_,hb▸hHas⟩
   refine⟨_,hcc,h0,g,bm,since,seen.push en.born,clock,es,hv,?_,?_,fun hx=>?_,h4,h5,h6,⟨L'.eraseIdx i,?_,?_,fun j t e' q1 q2=>?_⟩,fun t ht=>?_⟩
   ·simp[ChangeMaps.setBlock,hheap,hgl]
   ·simp only[ChangeMaps.setBlock]
    rw[Array.getElem?_setIfInBounds_ne (fun e=>hbg e.symm),hheap]
    exact h2
   ·rcases hX bm hx with hh | hh
    ·exact h3 hh
    ·have:=(Array.getElem?_eq_some_iff.1 h2).1
     omega
   ·rw[VW,←LK hnd hLi]
    exact p1.filter _
   ·rw[List.length_eraseIdx_of_lt hi,List.length_eraseIdx_of_lt hil,p2]
   ·rw[List.getElem?_eraseIdx] at q1 q2
    split at q1
    ·rename_i hji
     rw[if_pos hji] at q2
     exact(p3 j t e' q1 q2).step hst hYX hX
    ·rename_i hji
     rw[if_neg hji] at q2
     exact(p3 (j+1) t e' q1 q2).step hst hYX hX
   ·cases ht
    exact⟨en,hees,⟨seen,rfl⟩,hrel.step hst hYX hX⟩
  ·match i,g1,g2 with
   | 0,g1,g2=>simp at g1 g2;subst g1;subst g2;exact .inr ⟨.v _,rfl⟩
   | 1,g1,g2=>simp at g1;subst g1;exact .inl rfl
   | 2,g1,g2=>simp at g1;subst g1;exact .inl rfl
   | i+3,g1,g2=>simp at g1
  ·unfold He
   split
   ·simp at hil
   ·refine List.mem_map.2 ⟨i,List.mem_range.2 hil,?_⟩
    simp[List.getD_eq_getElem?_getD,hli]
end
inductive AEx where
 | normal
 | exit (id:Nat)
 | ret
 deriving DecidableEq
def AEx.ex:AEx→Exit
 | .normal=>.normal
 | .exit id=>.exit id
 | .ret=>.ret
inductive ACode where
 | skip
 | ret
 | exit (id:Nat)
 | region (id:Nat) (ops:Array Oper) (draw:Bool)
 | seq (x y:ACode)
 | cond (c:Operand) (x y:ACode)
 | block (id:Nat) (x:ACode)
 | scope (x:ACode)
 | label (l:Nat)
 | loop (h:Hint) (xs:List (AEx×Hint)) (x:ACode)
 | join (xs:List (AEx×Hint)) (x:ACode)
 | unr (n:Nat) (x:ACode)
 | regR (id:Nat) (ops:Array Oper)
 | rng (id:Nat) (ops:Array Oper) (h:Hint) (xs:List (AEx×Hint)) (x:ACode)
def ACode.code:ACode→Code
 | .skip=>.skip
 | .ret=>.ret
 | .exit id=>.exit id
 | .region id ops draw=>.region id ops draw
 | .seq x y=>.seq x.code y.code
 | .cond c x y=>.cond c x.code y.code
 | .block id x=>.block id x.code
 | .scope x=>.scope x.code
 | .label l=>.label l
 | .loop _ _ x=>.loop x.code
 | .join _ x=>x.code
 | .unr _ x=>.loop x.code
 | .regR id ops=>.region id ops false
 | .rng id ops _ _ x=>.loop (.seq (.region id ops false) x.code)
def ACode.flat:ACode→Bool
 | .seq x y=>x.flat&&y.flat
 | .cond _ x y=>x.flat&&y.flat
 | .block _ x=>x.flat
 | .scope x=>x.flat
 | .loop _ _ _=>false
 | .join _ _=>false
 | .unr _ x=>x.flat
 | .regR _ _=>false
 | .rng _ _ _ _ _=>false
 | _=>true
def dC{S E:Type}(F:S→Option (S⊕E)):Nat→S→Option E
 | 0,_=>none
 | n+1,s=>match F s with
  | some (.inl s')=>dC F n s'
  | some (.inr e)=>some e
  | none=>none
open Classical in
noncomputable def aF{S E:Type}(F:S→Option (S⊕E))(s:S):Option E:=if h:∃n e,dC F n s=some e then dC F (Classical.choose h) s else none
theorem O6{S E:Type}{F:S→Option (S⊕E)}:∀{n:Nat} {s:S} {e:E},dC F n s=some e→dC F (n+1) s=some e
 | 0,s,e,h=>by simp[dC] at h
 | n+1,s,e,h=>by
  rw[dC] at h ⊢
  split at h
  ·exact O6 h
  ·exact h
  ·cases h
theorem XX{S E:Type}{F:S→Option (S⊕E)}{n m:Nat}{s:S}{e:E}(h:dC F n s=some e)(hm:n≤m):dC F m s=some e:=by
 obtain⟨d,rfl⟩:=Nat.le.dest hm
 induction d with
 | zero=>exact h
 | succ d ih=>exact O6 (ih (Nat.le_add_right _ _))
theorem nF{S E:Type}{F:S→Option (S⊕E)}{s:S}{e:E}:aF F s=some e↔∃n,dC F n s=some e:=by
 unfold aF
 constructor
 ·intro h
  split at h
  ·exact⟨_,h⟩
  ·cases h
 ·rintro ⟨n,h⟩
  have hex:∃n e,dC F n s=some e:=⟨n,e,h⟩
  rw[dif_pos hex]
  obtain⟨e',he'⟩:=Classical.choose_spec hex
  have h1:=XX he' (Nat.le_max_left (Classical.choose hex) n)
  have h2:=XX h (Nat.le_max_right (Classical.choose hex) n)
  rw[he']
  rw[h1] at h2
  exact h2
theorem TE{S E:Type}(F:S→Option (S⊕E))(s:S):aF F s=match F s with
 | some (.inl s')=>aF F s'
 | some (.inr e)=>some e
 | none=>none:=by
 cases hF:F s with
 | none=>
  cases hl:aF F s with
  | none=>rfl
  | some e=>
   obtain⟨n,hn⟩:=nF.1 hl
   cases n with
   | zero=>simp[dC] at hn
   | succ n=>simp[dC,hF] at hn
 | some x=>
  cases x with
  | inr e=>exact nF.2 ⟨1,by simp[dC,hF]⟩
  | inl s'=>
   simp only
   cases hl:aF F s' with
   | some e=>
    obtain⟨n,hn⟩:=nF.1 hl
    exact nF.2 ⟨n+1,by simp[dC,hF,hn]⟩
   | none=>
    cases hl2:aF F s with
    | none=>rfl
    | some e=>
     obtain⟨n,hn⟩:=nF.1 hl2
     cases n with
     | zero=>simp[dC] at hn
     | succ n=>
      simp only[dC,hF] at hn
      rw[nF.2 ⟨n,hn⟩] at hl;cases hl
def EP:List (AEx×Hint)→Type
 | []=>Empty
 | p::l=>nR p.2.shapes⊕EP l
section
variable {R:Type}
def CT(np n m:Nat)(h:Hint)(st:St)(f:nR h.shapes→Option R):Option R:=if st.np=np∧st.env.length=n∧st.objs.length=m then yE h (Z0 h st) f else none
def CU(np n m:Nat):(xs:List (AEx×Hint))→AEx→St→(EP xs→Option R)→Option R
 | [],_,_,_=>none
 | p::l,x,st,f=>if p.1=x then CT np n m p.2 st fun t=>f (.inl t) else CU np n m l x st fun q=>f (.inr q)
def bB{α β:Type}(q:α⊕β)(f:α→Option R)(g:β→Option R):Option R:=match q with
 | .inl t=>f t
 | .inr q=>g q
def b0(_:Empty):Option R:=none
def xO(np n m:Nat):(xs:List (AEx×Hint))→EP xs→(AEx→St→Option R)→Option R
 | [],q,_=>b0 q
 | p::l,q,k=>bB (α:=nR p.2.shapes) (β:=EP l) q (fun t=>k p.1 (bN p.2 np n m t)) fun q=>xO np n m l q k
end
def Hf{R:Type}(F:St→(AEx→St→Option R)→Option R):Nat→St→(AEx→St→Option R)→Option R
 | 0,_,_=>none
 | n+1,st,k=>F st fun e st'=>match e with
  | .normal=>Hf F n st' k
  | e=>k e st'
noncomputable def Jp{R:Type}(amb:Bool)(d:D)(a b:Option R):Option R:=match amb,d with
 | true,.s (.c .amb)=>CS a b
 | _,d=>NF d fun q=>bif q then a else b
section
variable {R:Type} (P:Program) (Γ:FuncId→Option Callee)
def LL(ops:Array Oper):List Nat→St→(St→Option R)→Option R
 | [],st,k=>k st
 | i::jB,st,k=>match ops[i]? with
  | none=>LL ops jB st k
  | some o=>match o.guard,o.op with
   | none,.range t x=>VU P st o.dst t (ev st x) fun st d=>LL ops jB (st.put o.dst d) k
   | none,.entry x=>VV P st (ev st x) fun st d=>LL ops jB (st.put o.dst d) k
   | _,_=>AA P Γ ops [i] st fun st=>LL ops jB st k
def Z4{E:Type}(ops:Array Oper)(st:St)(k:St→Option E):List (Option E):=match ops[0]? with
 | some o=>match o.guard,o.op with
  | none,.next x false=>O5 st o.dst (ev st x) fun st=>AA P Γ ops (List.range ops.size).tail st k
  | _,_=>[]
 | none=>[]
end
section
variable (P:Program) (Γ:FuncId→Option Callee) (dok:Array Oper→Bool) (np n m:Nat) (amb:Bool)
noncomputable def jT:ACode→(R:Type)→St→(AEx→St→Option R)→Option R
 | .skip,_,st,k=>k .normal st
 | .ret,_,st,k=>k .ret st
 | .exit id,_,st,k=>k (.exit id) st
 | .region _ ops draw,_,st,k=>if draw=false∨dok ops=true then AA P Γ ops (List.range ops.size) st fun st=>k .normal st else none
 | .seq x y,R,st,k=>jT x R st fun e st=>match e with
  | .normal=>jT y R st k
  | e=>k e st
 | .cond c x y,R,st,k=>Jp amb (ev st c) (jT x R st k) (jT y R st k)
 | .block id x,R,st,k=>jT x R st fun e st=>match e with
  | .exit j=>if j=id then k .normal st else k (.exit j) st
  | e=>k e st
 | .scope x,R,st,k=>jT x R st k
 | .label _,_,st,k=>k .normal st
 | .loop h xs x,R,st,k=>CT np n m h st fun s0=>ob (aF (fun s=>jT x (nR h.shapes⊕EP xs) (bN h np n m s) fun e st'=>match e with
  | .normal=>CT np n m h st' fun s'=>some (.inl s')
  | e=>CU np n m xs e st' fun q=>some (.inr q)) s0) fun q=>xO np n m xs q k
 | .join xs x,R,st,k=>ob (jT x (EP xs) st fun e st'=>CU np n m xs e st' some) fun q=>xO np n m xs q k
 | .unr i x,R,st,k=>Hf (fun st k=>jT x R st k) i st k
 | .regR _ ops,_,st,k=>LL P Γ ops (List.range ops.size) st fun st=>k .normal st
 | .rng _ ops h xs x,R,st,k=>CT np n m h st fun s0=>Lb (fun s=>Z4 P Γ ops (bN h np n m s) fun st=>jT x (nR h.shapes⊕EP xs) st fun e st'=>match e with
  | .normal=>CT np n m h st' fun s'=>some (.inl s')
  | e=>CU np n m xs e st' fun q=>some (.inr q)) (fun q=>xO np n m xs q k) s0
end
section
variable {R:Type} {P:Program} {Γ:FuncId→Option Callee} {dok:Array Oper→Bool} {w0:World} {F Xc:Nat→Prop} {ρ0:Base} {r:R}
def VX(P:Program)(Γ:FuncId→Option Callee)(dok:Array Oper→Bool):Prop:=
 ∀(ops:Array Oper),dok ops=true→∀{R:Type} (w0:World) (F Xc:Nat→Prop) (ρ0:Base) (ρ:fN) (st:St) (a:Act) (w:World) (k:St→Option R) (r:R) (Q:Exit→Act→World→Prop) (t:Nat),
  Good P w0 F→Rel w0 F Xc ρ0 ρ st a w→AA P Γ ops (List.range ops.size) st k=some r→(∀ρ' st' a' w',Rel w0 F Xc ρ0 ρ' st' a' w'→k st'=some r→Q .normal a' w') →
  wpOps P ops Q (Region.schedule (P.follows .mixedOrders) ops t) a w
theorem AD{np n m:Nat}{h:Hint}{f:nR h.shapes→Option R}{st:St}{ρ:fN}{a:Act}{w:World}(hex:ρ0.ex=[])(hR:Rel w0 F Xc ρ0 ρ st a w)(hf:CT np n m h st f=some r):
 ∃t,f t=some r∧∃ρ'',Rel w0 F Xc ρ0 ρ'' (bN h np n m t) a w:=by
 unfold CT at hf
 split at hf
 ·rename_i hd
  obtain⟨h1,h2,h3⟩:=hd
  subst h1;subst h2;subst h3
  obtain⟨ρ1,hR1⟩:=XW h hR
  obtain⟨e1,e2,e3⟩:=TD h st
  have:=Cw hex hR1 hf
  rw[e1,e2,e3] at this
  exact this
 ·cases hf
theorem wD{np n m:Nat}(hex:ρ0.ex=[]):∀(xs:List (AEx×Hint)) (e:AEx) (st:St) (f:EP xs→Option R) {ρ:fN} {a:Act} {w:World},Rel w0 F Xc ρ0 ρ st a w →
 CU np n m xs e st f=some r→∃q,f q=some r∧∃ρ'' st'',Rel w0 F Xc ρ0 ρ'' st'' a w∧∀{R':Type} (k:AEx→St→Option R'),xO np n m xs q k=k e st''
 | [],e,st,f,ρ,a,w,h,hf=>by simp[CU] at hf
 | p::l,e,st,f,ρ,a,w,h,hf=>by
  simp only[CU] at hf
  split at hf
  ·rename_i he
   obtain⟨t,ht,ρ'',hR⟩:=AD hex h hf
   exact⟨.inl t,ht,ρ'',_,hR,fun k=>by subst he;rfl⟩
  ·obtain⟨q,hq,ρ'',st'',hR,hk⟩:=wD hex l e st _ h hf
   exact⟨.inr q,hq,ρ'',st'',hR,fun k=>hk k⟩
theorem AE{ops:Array Oper}{Q:Exit→Act→World→Prop}(hΓ:GOK P Γ)(hG:Good P w0 F):∀(l:List Nat) {ρ:fN} {st:St} {a:Act} {w:World} {k:St→Option R},Rel w0 F Xc ρ0 ρ st a w→LL P Γ ops l st k=some r →
 (∀ρ' st' a' w',Rel w0 F Xc ρ0 ρ' st' a' w'→k st'=some r→Q .normal a' w')→wpOps P ops Q l a w
 | [],ρ,st,a,w,k,h,hk,hn=>hn ρ st a w h hk
 | i::jB,ρ,st,a,w,k,h,hk,hn=>by
  simp only[LL] at hk
  split at hk
  ·rename_i ho
   simp only[wpOps,ho]
   exact AE hΓ hG jB h hk hn
  ·rename_i o ho
   split at hk
   ·rename_i t x hg hop
    have hw:Region.wanted o (yielded ops a.tmps)=true:=by simp[Region.wanted,hg]
    simp only[wpOps,ho]
    rw[if_pos hw]
    obtain⟨y,w',ρ',st',d,h1,h2,h3,h4⟩:=Z2 h (h.ev x) hk
    exact .inl (G5 (by unfold execOp;rw[hop];simp only[Sem.run_bind,h1,Result.andThen_ok];rfl) (AE hΓ hG jB (h2.put o.dst h3) h4 hn))
   ·rename_i x hg hop
    have hw:Region.wanted o (yielded ops a.tmps)=true:=by simp[Region.wanted,hg]
    simp only[wpOps,ho]
    rw[if_pos hw]
    obtain⟨y,st',d,h1,h2,h3,h4⟩:=Z3 h (h.ev x) hk
    exact .inl (G5 (by unfold execOp;rw[hop];simp only[Sem.run_bind,h1,Result.andThen_ok];rfl) (AE hΓ hG jB (h2.put o.dst h3) h4 hn))
   ·exact lM (tail:=jB) hΓ hG [i] h hk fun ρ' st' a' w' hR hk'=>AE hΓ hG jB hR hk' hn
theorem Hg{E:Type}{ops:Array Oper}{Q:Exit→Act→World→Prop}{G:E→Prop}(hΓ:GOK P Γ)(hG:Good P w0 F){ρ:fN}{st:St}{a:Act}{w:World}{k:St→Option E}(h:Rel w0 F Xc ρ0 ρ st a w)(hne:Z4 P Γ ops st k≠[])
 (hall:∀X∈Z4 P Γ ops st k,∃res,X=some res∧G res) (hn:∀ρ' st' a' w' res,Rel w0 F Xc ρ0 ρ' st' a' w'→k st'=some res→G res→Q .normal a' w'):wpOps P ops Q (List.range ops.size) a w:=by
 unfold Z4 at hne hall
 split at hne
 case h_2=>exact(hne rfl).elim
 rename_i o ho
 simp only[ho] at hall
 split at hne
 case h_2=>exact(hne rfl).elim
 rename_i x hg hop
 simp only[hg,hop] at hall
 have hpos:0<ops.size:=(Array.getElem?_eq_some_iff.1 ho).1
 have hr:List.range ops.size=0::(List.range ops.size).tail:=by
  obtain⟨q,hq⟩:∃q,ops.size=q+1:=⟨ops.size-1,by omega⟩
  rw[hq,List.range_succ_eq_map]
  rfl
 rw[hr]
 have hw:Region.wanted o (yielded ops a.tmps)=true:=by simp[Region.wanted,hg]
 simp only[wpOps,ho]
 rw[if_pos hw]
 refine .inl (Cz hop h hne fun ρ' st' a' w' hR hm=>?_)
 obtain⟨res,h1,h2⟩:=hall _ hm
 exact QQ hΓ hG _ hR h1 fun ρ2 st2 a2 w2 hR2 hk2=>hn ρ2 st2 a2 w2 res hR2 hk2 h2
theorem iT{np n m:Nat}{amb:Bool}(hΓ:GOK P Γ)(hD:VX P Γ dok)(hG:Good P w0 F):∀(c:ACode) (_:ρ0.ex=[]∨c.flat=true) (R:Type) (r:R) {ρ:fN} {st:St} {a:Act} {w:World} {k:AEx→St→Option R} {Q:Exit→Act→World→Prop},Rel w0 F Xc ρ0 ρ st a w →
 jT P Γ dok np n m amb c R st k=some r→(∀ρ' st' a' w' e,Rel w0 F Xc ρ0 ρ' st' a' w'→k e st'=some r→Q e.ex a' w')→c.code.wp P Q a w
 | .skip,hx,R,r,ρ,st,a,w,k,Q,h,hk,hn=>wp_skip (hn ρ st a w .normal h hk)
 | .ret,hx,R,r,ρ,st,a,w,k,Q,h,hk,hn=>wp_ret (hn ρ st a w .ret h hk)
 | .exit id,hx,R,r,ρ,st,a,w,k,Q,h,hk,hn=>wp_exit (hn ρ st a w (.exit id) h hk)
 | .region id ops draw,hx,R,r,ρ,st,a,w,k,Q,h,hk,hn=>by
  simp only[jT] at hk
  split at hk
  ·rename_i hd
   cases draw with
   | false=>exact wp_region (QQ hΓ hG _ h hk fun ρ' st' a' w' hR hk'=>hn ρ' st' a' w' .normal hR hk')
   | true=>
    have hd':dok ops=true:=by rcases hd with hd | hd;cases hd;exact hd
    refine wp_region_draw fun t=>?_
    exact hD ops hd' w0 F Xc ρ0 ρ st a _ (fun st=>k .normal st) r Q t hG (h.world (Stp.drew _ w)) hk fun ρ' st' a' w' hR hk'=>hn ρ' st' a' w' .normal hR hk'
  ·cases hk
 | .seq x y,hx,R,r,ρ,st,a,w,k,Q,h,hk,hn=>by
  simp only[jT] at hk
  refine wp_seq (iT hΓ hD hG x (hx.imp (fun h=>h) fun hf=>(Bool.and_eq_true_iff.1 (show (x.flat&&y.flat)=true from hf)).1) R r h hk fun ρ' st' a' w' e hR hk'=>?_)
  cases e with
  | normal=>exact iT hΓ hD hG y (hx.imp (fun h=>h) fun hf=>(Bool.and_eq_true_iff.1 (show (x.flat&&y.flat)=true from hf)).2) R r hR hk' hn
  | exit id=>exact hn ρ' st' a' w' (.exit id) hR hk'
  | ret=>exact hn ρ' st' a' w' .ret hR hk'
 | .cond c x y,hx,R,r,ρ,st,a,w,k,Q,h,hk,hn=>by
  simp only[jT] at hk
  unfold Jp at hk
  split at hk
  ·rename_i hd
   obtain⟨k1,k2⟩:=LI hk
   have hc:=h.ev c
   rw[hd] at hc
   rcases hc with hc | ⟨⟨b,hb⟩,_⟩
   ·cases hc
   ·cases b with
    | true=>exact wp_cond_true hb (iT hΓ hD hG x (hx.imp (fun h=>h) fun hf=>(Bool.and_eq_true_iff.1 (show (x.flat&&y.flat)=true from hf)).1) R r h k1 hn)
    | false=>exact wp_cond_false hb (iT hΓ hD hG y (hx.imp (fun h=>h) fun hf=>(Bool.and_eq_true_iff.1 (show (x.flat&&y.flat)=true from hf)).2) R r h k2 hn)
  obtain⟨b,hb,hk1⟩:=vC (h.ev c) hk
  cases b with
  | true=>exact wp_cond_true hb (iT hΓ hD hG x (hx.imp (fun h=>h) fun hf=>(Bool.and_eq_true_iff.1 (show (x.flat&&y.flat)=true from hf)).1) R r h hk1 hn)
  | false=>exact wp_cond_false hb (iT hΓ hD hG y (hx.imp (fun h=>h) fun hf=>(Bool.and_eq_true_iff.1 (show (x.flat&&y.flat)=true from hf)).2) R r h hk1 hn)
 | .block id x,hx,R,r,ρ,st,a,w,k,Q,h,hk,hn=>by
  simp only[jT] at hk
  refine wp_block (iT hΓ hD hG x (hx.imp (fun h=>h) fun hf=>(show x.flat=true from hf)) R r h hk fun ρ' st' a' w' e hR hk'=>?_)
  cases e with
  | normal=>exact hn ρ' st' a' w' .normal hR hk'
  | exit j=>
   simp only at hk'
   show if j=id then Q .normal a' w' else Q (.exit j) a' w'
   split
   ·rename_i hj;rw[if_pos hj] at hk';exact hn ρ' st' a' w' .normal hR hk'
   ·rename_i hj;rw[if_neg hj] at hk';exact hn ρ' st' a' w' (.exit j) hR hk'
  | ret=>exact hn ρ' st' a' w' .ret hR hk'
 | .scope x,hx,R,r,ρ,st,a,w,k,Q,h,hk,hn=>by
  simp only[jT] at hk
  exact wp_scope_straight (iT hΓ hD hG x (hx.imp (fun h=>h) fun hf=>(show x.flat=true from hf)) R r h hk fun ρ' st' a' w' e hR hk'=>by
   have:=hn ρ' st' a' w' e hR hk'
   cases e <;> exact this)
 | .label l,hx,R,r,ρ,st,a,w,k,Q,h,hk,hn=>wp_label (hn ρ st a w .normal h hk)
 | .loop hh xs x,hx,R,r,ρ,st,a,w,k,Q,h,hk,hn=>by
  have hex:ρ0.ex=[]:=hx.resolve_right (by simp[ACode.flat])
  simp only[jT] at hk
  obtain⟨s0,hk1,ρ1,h1⟩:=AD hex h hk
  obtain⟨q,hq,hk2⟩:=aC hk1
  obtain⟨i,hi⟩:=nF.1 hq
  refine wp_loop_rounds i ?_
  clear hk hk1 hq h
  induction i generalizing s0 ρ1 a w with
  | zero=>simp[dC] at hi
  | succ i ih=>
   rw[rounds_succ]
   rw[dC] at hi
   cases hF:(jT P Γ dok np n m amb x (nR hh.shapes⊕EP xs) (bN hh np n m s0) fun e st'=>match e with
    | .normal=>CT np n m hh st' fun s'=>some (.inl s')
    | e=>CU np n m xs e st' fun q=>some (.inr q)) with
   | none=>rw[hF] at hi;cases hi
   | some res=>
    rw[hF] at hi
    refine iT hΓ hD hG x (.inl hex) _ res h1 hF fun ρ' st' a' w' e hR hk'=>?_
    cases e with
    | normal=>
     obtain⟨s',hs',ρ2,h2⟩:=AD hex hR hk'
     cases hs'
     exact ih (a:=a') (w:=w') (s0:=s') (ρ1:=ρ2) h2 hi
    | exit id=>
     obtain⟨q',hq',ρ2,st2,h2,hu⟩:=wD hex xs (.exit id) st' _ hR hk'
     cases hq'
     simp only[Option.some.injEq] at hi
     subst hi
     rw[hu] at hk2
     exact hn ρ2 st2 a' w' (.exit id) h2 hk2
    | ret=>
     obtain⟨q',hq',ρ2,st2,h2,hu⟩:=wD hex xs .ret st' _ hR hk'
     cases hq'
     simp only[Option.some.injEq] at hi
     subst hi
     rw[hu] at hk2
     exact hn ρ2 st2 a' w' .ret h2 hk2
 | .join xs x,hx,R,r,ρ,st,a,w,k,Q,h,hk,hn=>by
  have hex:ρ0.ex=[]:=hx.resolve_right (by simp[ACode.flat])
  simp only[jT] at hk
  obtain⟨q,hq,hk2⟩:=aC hk
  refine iT hΓ hD hG x (.inl hex) _ q h hq fun ρ' st' a' w' e hR hk'=>?_
  obtain⟨q',hq',ρ2,st2,h2,hu⟩:=wD hex xs e st' _ hR hk'
  cases hq'
  rw[hu] at hk2
  exact hn ρ2 st2 a' w' e h2 hk2
 | .unr i x,hx,R,r,ρ,st,a,w,k,Q,h,hk,hn=>by
  simp only[jT] at hk
  refine wp_loop_rounds i ?_
  induction i generalizing st ρ a w with
  | zero=>simp[Hf] at hk
  | succ i ih=>
   rw[rounds_succ]
   simp only[Hf] at hk
   refine iT hΓ hD hG x (hx.imp (fun h=>h) fun hf=>(show x.flat=true from hf)) R r h hk fun ρ' st' a' w' e hR hk'=>?_
   cases e with
   | normal=>exact ih (hx.imp (fun h=>h) fun hf=>(show x.flat=true from hf)) ρ' st' a' w' hR hk'
   | exit id=>exact hn ρ' st' a' w' (.exit id) hR hk'
   | ret=>exact hn ρ' st' a' w' .ret hR hk'
 | .regR id ops,hx,R,r,ρ,st,a,w,k,Q,h,hk,hn=>by
  simp only[jT] at hk
  exact wp_region (AE hΓ hG _ h hk fun ρ' st' a' w' hR hk'=>hn ρ' st' a' w' .normal hR hk')
 | .rng id ops hh xs x,hx,R,r,ρ,st,a,w,k,Q,h,hk,hn=>by
  have hex:ρ0.ex=[]:=hx.resolve_right (by simp[ACode.flat])
  simp only[jT] at hk
  obtain⟨s0,hk1,ρ1,h1⟩:=AD hex h hk
  generalize hFF:(fun s:nR hh.shapes=>Z4 P Γ ops (bN hh np n m s) fun st=>jT P Γ dok np n m amb x (nR hh.shapes⊕EP xs) st fun e st'=>match e with
   | .normal=>CT np n m hh st' fun s'=>some (.inl s')
   | e=>CU np n m xs e st' fun q=>some (.inr q))=FF at hk1
  obtain⟨i,hi⟩:=Z1 hk1
  refine wp_loop_rounds i ?_
  clear hk hk1 h
  induction i generalizing s0 ρ1 a w with
  | zero=>simp[LJ] at hi
  | succ i ih=>
   rw[rounds_succ]
   rw[LJ] at hi
   have hs0:FF s0=Z4 P Γ ops (bN hh np n m s0) fun st=>jT P Γ dok np n m amb x (nR hh.shapes⊕EP xs) st fun e st'=>match e with
    | .normal=>CT np n m hh st' fun s'=>some (.inl s')
    | e=>CU np n m xs e st' fun q=>some (.inr q):=by rw[←hFF]
   have hne:FF s0≠[]:=fun e=>by
    rw[e] at hi
    simp[D7] at hi
   refine wp_seq (wp_region (Hg (G:=fun res:nR hh.shapes⊕EP xs=>(match res with
    | .inl s'=>LJ FF (fun q=>xO np n m xs q k) i s'
    | .inr q=>xO np n m xs q k)=some r) hΓ hG h1 (hs0▸hne) (fun X hX=>?_) fun ρ' st' a' w' res hR hk' hres=>?_))
   ·have:=II hi _ (List.mem_map.2 ⟨X,hs0▸hX,rfl⟩)
    match X,this with
    | some (.inl s'),this=>exact⟨_,rfl,this⟩
    | some (.inr q),this=>exact⟨_,rfl,this⟩
    | none,this=>cases this
   ·refine iT hΓ hD hG x (.inl hex) _ res hR hk' fun ρ2 st2 a2 w2 e hR2 hk2=>?_
    cases e with
    | normal=>
     obtain⟨s',hs',ρ3,h3⟩:=AD hex hR2 hk2
     cases hs'
     exact ih (a:=a2) (w:=w2) (s0:=s') (ρ1:=ρ3) h3 hres
    | exit id=>
     obtain⟨q',hq',ρ3,st3,h3,hu⟩:=wD hex xs (.exit id) st2 _ hR2 hk2
     cases hq'
     simp only at hres
     rw[hu] at hres
     exact hn ρ3 st3 a2 w2 (.exit id) h3 hres
    | ret=>
     obtain⟨q',hq',ρ3,st3,h3,hu⟩:=wD hex xs .ret st2 _ hR2 hk2
     cases hq'
     simp only at hres
     rw[hu] at hres
     exact hn ρ3 st3 a2 w2 .ret h3 hres
end
structure Sig where
 na:Nat
 np:Nat
 hin:Hint
 nres:Nat
 kept:List Nat
 nnew:Nat
 hout:Hint
 nob:Nat
def Sig.no(sg:Sig):Nat:=sg.nres+sg.kept.length
def LM:List Sh→List (Option (TypeId×Nat))
 | []=>[]
 | .row e n _::l=>some (e,n)::LM l
 | _::l=>none::LM l
section
variable {R:Type} (P:Program) (Γ:FuncId→Option Callee) (dok:Array Oper→Bool)
def Z5(st:St):List ResultVar→(List S1→Option R)→Option R
 | [],k=>k []
 | .tmp t::l,k=>match st.env.getD t D.top with
  | .s s=>Z5 st l fun rs=>k (s::rs)
  | _=>none
 | .cell x t::l,k=>nV P st t (ev st (.tmp x)) fun d=>match d with
  | .s s=>Z5 st l fun rs=>k (s::rs)
  | _=>none
def Da(nt:Nat)(sg:Sig)(t:nR sg.hin.shapes):St:=bN sg.hin sg.np nt (sg.np+sg.nob) t
def XY(objs:List O)(k:Nat):D:=match objs[k]? with
 | some (.row _ _ _ _)=>.s (.c (.row k))
 | _=>D.top
def LN(sg:Sig)(rs:List S1)(objs:List O):St:={ np:=sg.np,env:=rs.map .s++sg.kept.map (XY objs),objs:=objs }
def Hh(rv:List ResultVar)(sg:Sig)(st:St):Option (nR sg.hout.shapes):=if st.np=sg.np then Z5 P st rv fun rs=>if rs.length=sg.nres∧sg.np+sg.nnew≤st.objs.length then yE sg.hout (Z0 sg.hout (LN sg rs st.objs)) some else none else none
noncomputable def Jq(code:ACode)(rv:List ResultVar)(nt:Nat)(sg:Sig)(t:nR sg.hin.shapes):Option (nR sg.hout.shapes):=
 jT P Γ dok sg.np nt (sg.np+sg.nob) true code (nR sg.hout.shapes) (Da nt sg t) fun e st=>match e with
  | .exit _=>none
  | _=>Hh P rv sg st
end
def D8(sg:Sig)(args:List S1)(po:List O):St:={ np:=sg.np,env:=args.map .s,objs:=po }
def aA(sg:Sig)(U:nR sg.hin.shapes→Option (nR sg.hout.shapes)):Callee where
 rows:=LM sg.hin.shapes
 call args po k:=if args.length=sg.na∧po.length=sg.np then yE sg.hin (D8 sg args po) fun t=>ob (U t) fun q=>
  match UY ((bN sg.hout sg.np sg.no (sg.np+sg.nnew) q).env.take sg.nres) with
  | some rs=>k rs (bN sg.hout sg.np sg.no (sg.np+sg.nnew) q).objs
  | none=>none
  else none
def Sig.ok(sg:Sig)(nt:Nat):Bool:=
 decide (sg.na≤nt)&&(n7 sg.hin.items).all (fun i=>decide (i<sg.na))&&(b9 sg.hout.items++bF sg.hout.shapes).all (fun k=>decide (k<sg.np+sg.nnew))&&sg.kept.all (fun k=>decide (k<sg.np))
section
variable {R:Type} {P:Program} {w0 w:World} {F Xc X X'':Nat→Prop} {ρ0:Base} {ρ ρ'':fN} {st:St} {a:Act} {r:R}
theorem Hi(h:Rel w0 F Xc ρ0 ρ st a w)(t:Nat):RdD w (XB st.objs ρ Xc) ρ (st.env.getD t D.top) (a.tmps.getD t undef):=by
 rw[List.getD_eq_getElem?_getD]
 cases hd:st.env[t]? with
 | none=>exact .inl rfl
 | some d=>
  have hlt:t<a.tmps.size:=by rw[h.len];exact(List.getElem?_eq_some_iff.1 hd).1
  have e1:a.tmps[t]?=some a.tmps[t]:=Array.getElem?_eq_getElem hlt
  rw[Array.getD_eq_getD_getElem?,e1]
  exact h.env t d _ hd e1
theorem VY{t:TypeId}{v y:Value}{w':World}(h:(Instr.loadAt t v).run P w=.ok y w'):((asAddr v).run P w).andThen (fun a w₁=>(loadVar t a).run P w₁)=.ok y w':=by
 unfold Instr.loadAt at h
 rw[Sem.run_bind] at h
 cases v with
 | pointer p=>
  cases p with
  | none=>have h':Result.halt _ _=Result.ok y w':=h;cases h'
  | some ad=>simpa[Instr.sureAddr,asAddr] using h
 | _=>have h':Result.halt _ _=Result.ok y w':=h;cases h'
theorem QT(h:Rel w0 F Xc ρ0 ρ st a w):∀(l:List ResultVar) (k:List S1→Option R),Z5 P st l k=some r →
 ∃rs vs,k rs=some r∧RdSs w (XB st.objs ρ Xc) ρ rs vs∧rs.length=l.length ∧
  (l.mapM (m:=Sem) fun
   | .tmp t=>pure (a.tmps.getD t undef)
   | .cell x t=>do loadVar t (←asAddr (a.tmps.getD x undef))).run P w=.ok vs w
 | [],k,hk=>⟨[],[],hk,⟨rfl,fun i s y h1 _=>by simp at h1⟩,rfl,rfl⟩
 | .tmp t::l,k,hk=>by
  simp only[Z5] at hk
  split at hk
  ·rename_i s hs
   have hd:=Hi h t
   rw[hs] at hd
   obtain⟨rs,vs,q1,q2,q3,q4⟩:=QT h l _ hk
   refine⟨s::rs,a.tmps.getD t undef::vs,q1,.cons hd q2,by simp[q3],?_⟩
   rw[List.mapM_cons,Sem.run_bind]
   simp only[Sem.run_pure,Result.andThen_ok]
   rw[Sem.run_bind,q4]
   rfl
  ·cases hk
 | .cell x t::l,k,hk=>by
  simp only[Z5] at hk
  have hx:=h.ev (.tmp x)
  obtain⟨d,y,e1,e2,e3⟩:=SM h hx hk
  split at e3
  ·rename_i s
   obtain⟨rs,vs,q1,q2,q3,q4⟩:=QT h l _ e3
   refine⟨s::rs,y::vs,q1,.cons e2 q2,by simp[q3],?_⟩
   have e4:((asAddr (a.tmps.getD x undef)).run P w).andThen (fun a w₁=>(loadVar t a).run P w₁)=.ok y w:=VY e1
   rw[List.mapM_cons,Sem.run_bind]
   simp only[Sem.run_bind,e4,Result.andThen_ok,q4]
   rfl
  ·cases e3
theorem Nc{rs:List S1}{vs:List Value}(h:RdSs w X ρ rs vs):RdRes w X ρ rs (if h:vs.toArray.size=1 then vs.toArray[0] else .tuple vs.toArray):=by
 match rs,vs,h with
 | [],[],h=>exact⟨#[],rfl,h⟩
 | [s],[v],h=>exact h.2 0 s v rfl rfl
 | s::s'::l,v::v'::vl,h=>exact⟨(v::v'::vl).toArray,by simp,h⟩
 | [],_::_,h=>have:=h.1;simp at this
 | _::_,[],h=>have:=h.1;simp at this
 | [_],_::_::_,h=>have:=h.1;simp at this
 | _::_::_,[_],h=>have:=h.1;simp at this
end
section
variable {R:Type} {P:Program} {w0 w:World} {F Xc X X'':Nat→Prop} {ρ0:Base} {ρ ρ'':fN} {st:St} {a:Act} {r:R}
theorem Rel.bare{objs:List O}{env:List D}{vals:List Value}{np:Nat}(hlen:env.length=vals.length)(henv:∀(i:Nat) d y,env[i]?=some d→vals[i]?=some y→RdD w (XB objs ρ Xc) ρ d y)
 (hok:∀(k:Nat) o,objs[k]?=some o→Mp w (XB objs ρ Xc) ρ k o) (hsep:Oh objs ρ) (hown:∀b,r6 objs ρ b→w0.heap.size≤b∨F b) (hpar:∀k,k<np→ρ k=ρ0.rho k) (hfr:Stp F w0 w)
 (hxl:∀b,Xc b→b<w0.heap.size) (hxc:∀b,r6 objs ρ b→¬Xc b) (hext:∀p∈ρ0.ex,RdD w (XB objs ρ Xc) ρ p.1 p.2):Rel w0 F Xc ρ0 ρ { np:=np,env:=env,objs:=objs } { tmps:=vals.toArray,defers:=[] } w:=
 ⟨by simp[hlen],fun i d y h1 h2=>henv i d y h1 (by simpa using h2),hok,hsep,hown,hpar,rfl,hfr,hxl,hxc,hext⟩
theorem Rel.widen{h:Hint}{np n n' m m':Nat}{t:nR h.shapes}{vals:List Value}(hR:Rel w0 F Xc ρ0 ρ (bN h np n m t) { tmps:=vals.toArray,defers:=[] } w)(hn:n≤n')(hm:m≤m')(hnp:np≤m)(hv:vals.length=n)
 (hs:∀i∈n7 h.items,i<n) (hk:∀k∈b9 h.items++bF h.shapes,k<m) (hno:∀k,m≤k→ρ k=none):
 Rel w0 F Xc ρ0 ρ (bN h np n' m' t) { tmps:=vals.toArray++Array.replicate (n'-vals.toArray.size) undef,defers:=[] } w:=by
 obtain⟨e1,e2⟩:=IH (h:=h) (t:=t) hn hm hnp
 obtain⟨l1,l2,l3⟩:=pT (h:=h) (n:=n) (t:=t) hnp
 obtain⟨L1,L2,L3⟩:=pT (h:=h) (n:=n') (t:=t) (show np≤m' by omega)
 have hout:∀k,m≤k→(bN h np n' m' t).objs[k]?=some .fresh∨(bN h np n' m' t).objs[k]?=none:=fun k hk'=>by
  have h1:k∉b9 h.items:=fun hb=>by have:=hk k (List.mem_append.2 (.inl hb));omega
  have h2:k∉bF h.shapes:=fun hb=>by have:=hk k (List.mem_append.2 (.inr hb));omega
  have:(bN h np n' m' t).objs[k]?=(fW np n' m').objs[k]?:=by
   show (jN _ _)[k]?=_
   rw[mF _ _ k (by rw[dX];exact h2),lN h.items _ _ k h1]
  rw[this,sW (by omega),if_neg (by omega)]
  by_cases hkm:k<m'
  ·rw[if_pos hkm];exact .inl rfl
  ·rw[if_neg hkm];exact .inr rfl
 have hHas:∀k b,Has (bN h np n' m' t).objs ρ k b↔Has (bN h np n m t).objs ρ k b:=fun k b=>by
  by_cases hkm:k<m
  ·unfold Has;rw[e2 k hkm]
  ·constructor
   ·rintro ⟨o,v,h1,h2,h3,h4⟩
    rw[hno k (by omega)] at h3;cases h3
   ·rintro ⟨o,v,h1,h2,h3,h4⟩
    rw[hno k (by omega)] at h3;cases h3
 have hmut:∀b,r6 (bN h np n' m' t).objs ρ b↔r6 (bN h np n m t).objs ρ b:=fun b=>⟨fun⟨k,hh⟩=>⟨k,(hHas k b).1 hh⟩,fun⟨k,hh⟩=>⟨k,(hHas k b).2 hh⟩⟩
 have hXe:XB (bN h np n' m' t).objs ρ Xc=XB (bN h np n m t).objs ρ Xc:=by funext b;unfold XB;rw[propext (hmut b)]
 refine⟨by simp[L2];omega,fun i d y h1 h2=>?_,fun k o ho=>?_,fun k k' b h1 h2=>hR.sep k k' b ((hHas k b).1 h1) ((hHas k' b).1 h2),fun b hb=>hR.own b ((hmut b).1 hb),fun k hk=>?_,rfl,hR.frame,hR.xcl,fun b hb=>hR.xc b ((hmut b).1 hb),fun p hp=>by rw[hXe];exact hR.ext p hp⟩
 ·rw[hXe]
  by_cases hi:i<n
  ·rw[←e1 i hi] at h1
   refine hR.env i d y h1 ?_
   rw[Array.getElem?_append_left (by simp;omega)] at h2
   exact h2
  ·have h3:(bN h np n' m' t).env[i]?=(fW np n' m').env[i]?:=qV h.items _ _ i (fun hm=>by have:=hs i hm;omega)
   rw[h3] at h1
   simp only[fW,List.getElem?_replicate] at h1
   split at h1
   ·cases h1;exact .top_ y
   ·cases h1
 ·rw[hXe]
  by_cases hkm:k<m
  ·exact hR.objs k o (by rw[e2 k hkm];exact ho)
  ·rcases hout k (by omega) with hh | hh
   ·rw[hh] at ho;cases ho;exact hno k (by omega)
   ·rw[hh] at ho;cases ho
 ·rw[L1] at hk
  exact hR.par k (by rw[l1];exact hk)
theorem QU{f:FuncId}{fn:Func}{code:Code}{rv:List ResultVar}{nt:Nat}{sg:Sig}{U:nR sg.hin.shapes→Option (nR sg.hout.shapes)}
 (hf:P.funcs[f]?=some fn) (hb:fn.body=some code) (hnt:fn.ntmps=nt) (hrv:fn.results.toList=rv) (hs:sg.ok nt=true)
 (hU:∀t q,U t=some q→∀{w:World} {F Xc:Nat→Prop} {ρ0:Base} {ρ:fN} {a:Act} {Q:Exit→Act→World→Prop},ρ0.ex=[]→Good P w F→Rel w F Xc ρ0 ρ (Da nt sg t) a w→(∀c a d v w,Q (.panic c) (a.put d v) w→Q (.panic c) a w) →
  (∀ρ' st' a' w' e,Rel w F Xc ρ0 ρ' st' a' w'→(match e with | .exit _=>none | _=>Hh P rv sg st')=some q→Q (AEx.ex e) a' w')→code.wp P Q a w):(aA sg U).OK P f:=by
 refine⟨?_,fun I h=>(by cases h),fun I h=>(by cases h)⟩
 intro R args po k r hk
 simp only[aA] at hk
 split at hk
 case isFalse=>cases hk
 rename_i hlens
 obtain⟨hna,hnp⟩:=hlens
 unfold Sig.ok at hs
 simp only[Bool.and_eq_true,decide_eq_true_eq,List.all_eq_true] at hs
 obtain⟨⟨⟨hs1,hs2⟩,hs3⟩,hs4⟩:=hs
 rw[sQ] at hk
 cases hpk:yE sg.hin (D8 sg args po) some with
 | none=>rw[hpk] at hk;cases hk
 | some t=>
 rw[hpk] at hk
 simp only[Option.bind_some] at hk
 obtain⟨q,hq,hk1⟩:=aC hk
 split at hk1
 case h_2=>cases hk1
 rename_i rs hrs
 refine⟨rs,_,hk1,?_⟩
 have hs1s:=DU hrs
 intro w Xc ρ vals hok hsep hxl hxc hgood hargs
 have hvl:vals.length=sg.na:=by rw[←hargs.1] at hna;rw[←hna,hargs.1]
 have hR0:Rel w (r6 po ρ) Xc ⟨ρ,[]⟩ ρ (D8 sg args po) { tmps:=vals.toArray,defers:=[] } w:=
  Rel.bare (by rw[List.length_map];exact hargs.1.symm) (fun i d y h1 h2=>by
   rw[List.getElem?_map] at h1
   cases ha:args[i]? with
   | none=>simp[ha] at h1
   | some s=>
    simp only[ha,Option.map_some,Option.some.injEq] at h1
    subst h1
    exact hargs.2 i s y ha h2) hok hsep (fun b hb=>.inr hb) (fun _ _=>rfl) (.refl _ _) hxl hxc (fun p hp=>by simp at hp)
 obtain⟨t',ht',hkk,ρ1,hno,hR1⟩:=B5 rfl hR0 hpk
 cases ht'
 have hRel:=Rel.widen (n':=nt) (m':=sg.np+sg.nob) hR1 (by simp only[D8,List.length_map];omega) (by simp only[D8];omega) (by simp only[D8];omega) (by simp only[D8,List.length_map];omega)
  (fun i hi=>by have:=hs2 i hi;simp only[D8,List.length_map];omega) hkk hno
 subst hnt
 refine calls_of_wp hf hb (hU t q hq rfl hgood hRel (fun c a d v w h=>⟨by cases d <;> exact h.1,h.2⟩) fun ρ' st' a' w' e hR hk3=>?_)
 have key:Hh P rv sg st'=some q→a'.defers=[]∧∃v,(results fn a'.tmps).run P w'=.ok v w'∧Mx w Xc ρ po rs (bN sg.hout sg.np sg.no (sg.np+sg.nnew) q).objs (.returned v) w':=by
  intro hk4
  refine⟨hR.defers,?_⟩
  unfold Hh at hk4
  split at hk4
  case isFalse=>cases hk4
  rename_i hnp'
  obtain⟨rs1,vs,p1,p2,p3,p4⟩:=QT hR rv _ hk4
  split at p1
  case isFalse=>cases p1
  rename_i hrl0
  obtain⟨hrl,hmM⟩:=hrl0
  have hkv:∀k:Nat,∃v,RdD w' (XB st'.objs ρ' Xc) ρ' (XY st'.objs k) v:=fun k=>by
   unfold XY
   split
   ·rename_i fz e n l ho
    obtain⟨v,e1,e2⟩:=hR.objs k _ ho
    obtain⟨_,_,⟨xs,hown,_⟩,_⟩:=e2
    exact⟨v,.one (c:=.row k) e1 hown.one⟩
   ·exact⟨undef,.top_ _⟩
  have hkvs:∃kv:List Value,kv.length=sg.kept.length∧∀(i:Nat) d y,(sg.kept.map (XY st'.objs))[i]?=some d→kv[i]?=some y→RdD w' (XB st'.objs ρ' Xc) ρ' d y:=by
   refine⟨sg.kept.map fun k=>Classical.choose (hkv k),by simp,fun i d y h1 h2=>?_⟩
   rw[List.getElem?_map] at h1 h2
   cases hk:sg.kept[i]? with
   | none=>simp[hk] at h1
   | some k=>
    simp only[hk,Option.map_some,Option.some.injEq] at h1 h2
    subst h1;subst h2
    exact Classical.choose_spec (hkv k)
  obtain⟨kv,hkl,hkd⟩:=hkvs
  have hR2:Rel w (r6 po ρ) Xc ⟨ρ,[]⟩ ρ' (LN sg rs1 st'.objs) { tmps:=(vs++kv).toArray,defers:=[] } w':=
   Rel.bare (by simp[p2.1,hkl]) (fun i d y h1 h2=>by
    rw[List.getElem?_append] at h1 h2
    rw[List.length_map] at h1
    rw[p2.1] at h2
    split at h1
    ·rename_i hi
     rw[if_pos hi] at h2
     rw[List.getElem?_map] at h1
     cases ha:rs1[i]? with
     | none=>simp[ha] at h1
     | some s=>
      simp only[ha,Option.map_some,Option.some.injEq] at h1
      subst h1
      exact p2.2 i s y ha h2
    ·rename_i hi
     rw[if_neg hi] at h2
     exact hkd _ d y h1 h2) hR.objs hR.sep hR.own (fun k hk=>hR.par k (by rw[hnp'];exact hk)) hR.frame hR.xcl hR.xc (fun p hp=>by simp at hp)
  obtain⟨ρm,hR2m⟩:=XW sg.hout hR2
  obtain⟨m1,m2,m3⟩:=TD sg.hout (LN sg rs1 st'.objs)
  obtain⟨q',hq',_,ρ2,_,hR3⟩:=B5 rfl hR2m p1
  cases hq'
  rw[m1,m2,m3] at hR3
  have hel:(LN sg rs1 st'.objs).env.length=sg.no:=by simp[LN,Sig.no,hrl]
  rw[hel] at hR3
  have hm0:(LN sg rs1 st'.objs).objs.length=st'.objs.length:=rfl
  have hn0:(LN sg rs1 st'.objs).np=sg.np:=rfl
  rw[hm0,hn0] at hR3
  obtain⟨e1,e2⟩:=IH (h:=sg.hout) (t:=q) (np:=sg.np) (n:=sg.no) (n':=sg.no) (Nat.le_refl _) hmM (Nat.le_add_right _ _)
  obtain⟨l1,l2,l3⟩:=pT (h:=sg.hout) (t:=q) (n:=sg.no) (show sg.np≤sg.np+sg.nnew from Nat.le_add_right _ _)
  obtain⟨L1,L2,L3⟩:=pT (h:=sg.hout) (t:=q) (n:=sg.no) (show sg.np≤st'.objs.length by omega)
  have hHas:∀k b,Has (bN sg.hout sg.np sg.no (sg.np+sg.nnew) q).objs ρ2 k b→Has (bN sg.hout sg.np sg.no st'.objs.length q).objs ρ2 k b:=fun k b ⟨o,v,h1,h2,h3,h4⟩=>by
   have hk:k<sg.np+sg.nnew:=by rw[←l3];exact(List.getElem?_eq_some_iff.1 h1).1
   exact⟨o,v,by rw[←e2 k hk];exact h1,h2,h3,h4⟩
  have hX:∀b,XB (bN sg.hout sg.np sg.no (sg.np+sg.nnew) q).objs ρ2 Xc b→XB (bN sg.hout sg.np sg.no st'.objs.length q).objs ρ2 Xc b:=fun b hb=>by
   rcases hb with⟨k,hk⟩ | hb
   ·exact .inl ⟨k,hHas k b hk⟩
   ·exact .inr hb
  have hsame:Stp (fun _=>False) w' w':=.refl _ w'
  refine⟨(if h:vs.toArray.size=1 then vs.toArray[0] else .tuple vs.toArray),?_,_,ρ2,rfl,hR3.frame,fun k hk=>?_,?_,fun k o ho=>?_,fun k k' b h1 h2=>hR3.sep k k' b (hHas k b h1) (hHas k' b h2),fun k b hb=>?_,Nc ?_⟩
  ·unfold results
   rw[Sem.run_bind,Array.mapM_eq_mapM_toList,hrv,Sem.run_map]
   exact congrArg (fun z:Result (List Value)=>(z.andThen fun l w'=>(Result.ok l.toArray w':Result (Array Value))).andThen fun vs w'=>
    (pure (if h:vs.size=1 then vs[0] else .tuple vs):Sem Value).run P w') p4
  ·exact hR3.par k (by rw[L1];omega)
  ·rw[l3];omega
  ·have hk:k<sg.np+sg.nnew:=by rw[←l3];exact(List.getElem?_eq_some_iff.1 ho).1
   have:=hR3.objs k o (by rw[←e2 k hk];exact ho)
   cases o with
   | dead=>trivial
   | fresh=>exact this
   | box l=>obtain⟨v,f1,f2⟩:=this;exact⟨v,f1,f2.step hsame (fun _ h=>h.elim) (fun b hb=>.inl (hX b hb)) (.refl _) (fun _ _ h=>h)⟩
   | row fz e n l=>obtain⟨v,f1,f2⟩:=this;exact⟨v,f1,f2.step hsame (fun _ h=>h.elim) (fun b hb=>.inl (hX b hb)) (.refl _) (fun _ _ h=>h)⟩
   | mp fz e n l=>obtain⟨v,f1,f2⟩:=this;exact⟨v,f1,f2.step hsame (fun _ h=>h.elim) (fun b hb=>.inl (hX b hb)) (.refl _) (fun _ _ h=>h)⟩
   | fbox l=>obtain⟨v,f1,f2⟩:=this;exact⟨v,f1,f2.step hsame (fun _ h=>h.elim) (fun b hb=>.inl (hX b hb)) (.refl _) (fun _ _ h=>h)⟩
   | rr hole e e2 n l=>obtain⟨v,f1,f2⟩:=this;exact⟨v,f1,okO.step (o:=.rr hole e _ n l) (ρ:=ρ2) f2 hsame (fun _ h=>h.elim) (fun b hb=>.inl (hX b hb)) (.refl _) (fun _ _ h=>h)⟩
   | itr cur e n l=>obtain⟨v,f1,f2⟩:=this;exact⟨v,f1,okO.step (o:=.itr cur e n l) (ρ:=ρ2) f2 hsame (fun _ h=>h.elim) (fun b hb=>.inl (hX b hb)) (.refl _) (fun _ _ h=>h)⟩
   | fwd l=>exact this
  ·rcases hR3.own b ⟨k,hHas k b hb⟩ with h' | ⟨k',h'⟩
   ·exact .inr h'
   ·exact .inl ⟨k',h'⟩
  ·have hrsl:rs.length=sg.nres:=by
    have:=congrArg List.length hs1s
    rw[List.length_take,l2,List.length_map] at this
    simp only[Sig.no] at this
    omega
   refine⟨by rw[p2.1,hrl,hrsl],fun i s y h1 h2=>?_⟩
   have hi:i<sg.nres:=by rw[←hrsl];exact(List.getElem?_eq_some_iff.1 h1).1
   have h3:(bN sg.hout sg.np sg.no (sg.np+sg.nnew) q).env[i]?=some (.s s):=by
    have:=congrArg (fun z=>z[i]?) hs1s
    simp only[List.getElem?_take,hi,if_true,List.getElem?_map,h1,Option.map_some] at this
    exact this
   rw[e1 i (by simp only[Sig.no];omega)] at h3
   have h4:=hR3.env i (.s s) y h3 (by
    have hvi:i<vs.length:=(List.getElem?_eq_some_iff.1 h2).1
    simp only[List.getElem?_toArray,List.getElem?_append,hvi,if_true]
    exact h2)
   exact RdS.step h4 hsame (fun _ h=>h.elim) (fun b hb=>.inl (hX b hb)) (.refl _)
 cases e with
 | normal=>exact key hk3
 | ret=>exact key hk3
 | exit id=>cases hk3
theorem TF{Γ:FuncId→Option Callee}{dok:Array Oper→Bool}{f:FuncId}{fn:Func}{code:ACode}{rv:List ResultVar}{nt:Nat}{sg:Sig}{U:nR sg.hin.shapes→Option (nR sg.hout.shapes)}
 (hΓ:GOK P Γ) (hD:VX P Γ dok) (hf:P.funcs[f]?=some fn) (hb:fn.body=some code.code) (hnt:fn.ntmps=nt) (hrv:fn.results.toList=rv) (hs:sg.ok nt=true)
 (hU:∀t q,U t=some q→Jq P Γ dok code rv nt sg t=some q):(aA sg U).OK P f:=
 QU hf hb hnt hrv hs fun t q hq {_} {_} {_} {_} {_} {_} {_} hx hG hR _ hn=>iT hΓ hD hG code (.inl hx) _ q hR (hU t q hq) fun ρ' st' a' w' e hR' hk=>hn ρ' st' a' w' e hR' hk
end
inductive HT where
 | leaf
 | seq (x y:HT)
 | one (x:HT)
 | cond (x y:HT)
 | loop (h:Hint) (xs:List (AEx×Hint)) (x:HT)
 | join (xs:List (AEx×Hint)) (x:HT)
 | unr (n:Nat) (x:HT)
 | regR
 | rng (h:Hint) (xs:List (AEx×Hint)) (x:HT)
def pU:Code→Option ACode
 | .skip=>some .skip
 | .region id ops draw=>some (.region id ops draw)
 | .seq x y=>match pU x,pU y with
  | some a,some b=>some (.seq a b)
  | _,_=>none
 | .cond c x y=>match pU x,pU y with
  | some a,some b=>some (.cond c a b)
  | _,_=>none
 | .block id x=>match pU x with
  | some a=>some (.block id a)
  | none=>none
 | .scope x=>match pU x with
  | some a=>some (.scope a)
  | none=>none
 | .label l=>some (.label l)
 | .exit id=>some (.exit id)
 | .ret=>some .ret
 | _=>none
def AF:HT→Code→Option ACode
 | .leaf,c=>pU c
 | .seq hx hy,.seq x y=>match AF hx x,AF hy y with
  | some a,some b=>some (.seq a b)
  | _,_=>none
 | .cond hx hy,.cond c x y=>match AF hx x,AF hy y with
  | some a,some b=>some (.cond c a b)
  | _,_=>none
 | .one hx,.block id x=>match AF hx x with
  | some a=>some (.block id a)
  | none=>none
 | .one hx,.scope x=>match AF hx x with
  | some a=>some (.scope a)
  | none=>none
 | .loop h xs hx,.loop x=>match AF hx x with
  | some a=>some (.loop h xs a)
  | none=>none
 | .join xs hx,c=>match AF hx c with
  | some a=>some (.join xs a)
  | none=>none
 | .unr n hx,.loop x=>match AF hx x with
  | some a=>some (.unr n a)
  | none=>none
 | .regR,.region id ops false=>some (.regR id ops)
 | .rng h xs hx,.loop (.seq (.region id ops false) x)=>match AF hx x with
  | some a=>some (.rng id ops h xs a)
  | none=>none
 | _,_=>none
theorem TG:∀{c:Code} {a:ACode},pU c=some a→a.code=c:=by
 intro c
 induction c with
 | skip=>intro a h;cases h;rfl
 | region id ops draw=>intro a h;cases h;rfl
 | exit id=>intro a h;cases h;rfl
 | ret=>intro a h;cases h;rfl
 | seq x y ihx ihy=>
  intro a h
  simp only[pU] at h
  split at h
  ·rename_i h1 h2;cases h;simp only[ACode.code,ihx h1,ihy h2]
  ·cases h
 | cond c x y ihx ihy=>
  intro a h
  simp only[pU] at h
  split at h
  ·rename_i h1 h2;cases h;simp only[ACode.code,ihx h1,ihy h2]
  ·cases h
 | block id x ihx=>
  intro a h
  simp only[pU] at h
  split at h
  ·rename_i h1;cases h;simp only[ACode.code,ihx h1]
  ·cases h
 | scope x ihx=>
  intro a h
  simp only[pU] at h
  split at h
  ·rename_i h1;cases h;simp only[ACode.code,ihx h1]
  ·cases h
 | label l=>intro a h;cases h;rfl
 | _=>intro a h;simp[pU] at h
theorem Db:∀{t:HT} {c:Code} {a:ACode},AF t c=some a→a.code=c:=by
 intro t
 induction t with
 | leaf=>intro c a h;exact TG (by simpa[AF] using h)
 | seq hx hy ihx ihy=>
  intro c a h
  cases c with
  | seq x y=>
   simp only[AF] at h
   split at h
   ·rename_i h1 h2;cases h;simp only[ACode.code,ihx h1,ihy h2]
   ·cases h
  | _=>simp[AF] at h
 | cond hx hy ihx ihy=>
  intro c a h
  cases c with
  | cond c x y=>
   simp only[AF] at h
   split at h
   ·rename_i h1 h2;cases h;simp only[ACode.code,ihx h1,ihy h2]
   ·cases h
  | _=>simp[AF] at h
 | one hx ihx=>
  intro c a h
  cases c with
  | block id x=>
   simp only[AF] at h
   split at h
   ·rename_i h1;cases h;simp only[ACode.code,ihx h1]
   ·cases h
  | scope x=>
   simp only[AF] at h
   split at h
   ·rename_i h1;cases h;simp only[ACode.code,ihx h1]
   ·cases h
  | _=>simp[AF] at h
 | loop hd xs hx ihx=>
  intro c a h
  cases c with
  | loop x=>
   simp only[AF] at h
   split at h
   ·rename_i h1;cases h;simp only[ACode.code,ihx h1]
   ·cases h
  | _=>simp[AF] at h
 | join xs hx ihx=>
  intro c a h
  simp only[AF] at h
  split at h
  ·rename_i h1;cases h;simp only[ACode.code,ihx h1]
  ·cases h
 | unr n hx ihx=>
  intro c a h
  cases c with
  | loop x=>
   simp only[AF] at h
   split at h
   ·rename_i h1;cases h;simp only[ACode.code,ihx h1]
   ·cases h
  | _=>simp[AF] at h
 | regR=>
  intro c a h
  cases c with
  | region id ops draw=>
   cases draw with
   | false=>simp only[AF] at h;cases h;rfl
   | true=>simp[AF] at h
  | _=>simp[AF] at h
 | rng hd xs hx ihx=>
  intro c a h
  cases c with
  | loop x=>
   cases x with
   | seq x y=>
    cases x with
    | region id ops draw=>
     cases draw with
     | false=>
      simp only[AF] at h
      split at h
      ·rename_i h1;cases h;simp only[ACode.code,ihx h1]
      ·cases h
     | true=>simp[AF] at h
    | _=>simp[AF] at h
   | _=>simp[AF] at h
  | _=>simp[AF] at h
def VZ(t:HT)(fn:Func):ACode:=match fn.body with
 | some c=>(AF t c).getD .skip
 | none=>.skip
def J8(t:HT)(fn:Func):Bool:=match fn.body with
 | some c=>(AF t c).isSome
 | none=>false
theorem Z6{t:HT}{fn:Func}(h:J8 t fn=true):fn.body=some (VZ t fn).code:=by
 unfold J8 at h
 unfold VZ
 cases hb:fn.body with
 | none=>simp[hb] at h
 | some c=>
  simp only[hb] at h ⊢
  cases ha:AF t c with
  | none=>simp[ha] at h
  | some a=>simp only[ha,Option.getD_some,Db ha]
def XZ(i f:Nat)(args:List S1):Bool:=match args[i]? with
 | some (.c c)=>c.same [] (.t (.v (.func (.func f) #[] #[])))
 | _=>false
def Gg(t:List S1→Bool)(A B:Callee):Callee where
 rows:=A.rows
 call args po k:=if t args=true then A.call args po k else B.call args po k
theorem QV{P:Program}{f:FuncId}{t:List S1→Bool}{A B:Callee}(hA:A.OK P f)(hB:B.OK P f):(Gg t A B).OK P f:=⟨fun args po k r h=>by
 simp only[Gg] at h
 split at h
 ·exact hA.1 args po k r h
 ·exact hB.1 args po k r h,fun I h=>(by cases h),fun I h=>(by cases h)⟩
def lO:List (FuncId×Callee)→FuncId→Option Callee
 | [],_=>none
 | p::l,f=>if p.1=f then some p.2 else lO l f
theorem GOK.nil{P:Program}:GOK P (lO []):=fun f A h=>by cases h
theorem GOK.cons{P:Program}{f:FuncId}{A:Callee}{l:List (FuncId×Callee)}(hc:A.ext=none→fO P f)(hA:A.OK P f)(hl:GOK P (lO l)):GOK P (lO ((f,A)::l)):=fun g B h=>by
 simp only[lO] at h
 split at h
 ·rename_i e;cases h;subst e;exact⟨hc,hA⟩
 ·exact hl g B h
def St.bare(st:St):St:={ st with env:=List.replicate st.env.length D.top }
section
variable {R:Type} {P:Program} {Γ:FuncId→Option Callee}
theorem O7(st:St)(dst:Option Nat)(o:O)(k:St→Nat→Option R):f6 st dst o k=(f6 st.bare dst o fun s key=>some (s.objs,key)).bind fun p=>k { st with objs:=p.1 } p.2:=by
 have hfi:gR st.bare=gR st:=by unfold gR St.bare;simp only[List.length_replicate]
 have h1:st.bare.objs=st.objs:=rfl
 have h2:st.bare.np=st.np:=rfl
 have h3:st.bare.env.length=st.env.length:=by simp[St.bare]
 cases dst with
 | none=>rfl
 | some d=>
  simp only[f6,hfi,h1,h2,h3]
  split
  ·rfl
  ·split
   ·rfl
   ·split <;> rfl
theorem iH(st:St)(dst:Option Nat)(o:O)(f:Nat→D)(k:St→D→Option R):f6 st dst o (fun s key=>k s (f key))=(f6 st.bare dst o fun s key=>some (s.objs,f key)).bind fun p=>k { st with objs:=p.1 } p.2:=by
 have hfi:gR st.bare=gR st:=by unfold gR St.bare;simp only[List.length_replicate]
 have h1:st.bare.objs=st.objs:=rfl
 have h2:st.bare.np=st.np:=rfl
 have h3:st.bare.env.length=st.env.length:=by simp[St.bare]
 cases dst with
 | none=>rfl
 | some d=>
  simp only[f6,hfi,h1,h2,h3]
  split
  ·rfl
  ·split
   ·rfl
   ·split <;> rfl
theorem LO(st:St)(objs:List O)(dst:Option Nat)(o:O)(f:Nat→D)(k:St→D→Option R):f6 { st with objs:=objs } dst o (fun s key=>k s (f key))=(f6 { st.bare with objs:=objs } dst o fun s key=>some (s.objs,f key)).bind fun p=>k { st with objs:=p.1 } p.2:=by
 have h:=iH { st with objs:=objs } dst o f k
 exact h
theorem LP(st:St)(t:TypeId)(d:D)(k:D→Option R):nV P st t d k=(nV P st.bare t d some).bind k:=by
 unfold nV mE St.bare
 repeat' (first | split | dsimp only)
 all_goals first
  | rfl
  | simp_all [aW]
theorem V1{R S:Type}(t:TypeId)(c:C)(f:T→Option R)(g:R→Option S):H5 P t c (fun x=>(f x).bind g)=(H5 P t c f).bind g:=by
 unfold H5
 split
 ·rw[aW]
 ·rw[aW]
 ·rw[aW]
 ·split
  ·split
   ·rw[aW]
   ·rfl
  ·rfl
 ·split <;> rfl
theorem gZ{R S:Type}:∀(ts:List TypeId) (cs:List C) (f:List T→Option R) (g:R→Option S),fQ P ts cs (fun x=>(f x).bind g)=(fQ P ts cs f).bind g
 | [],[],_,_=>rfl
 | [],_::_,_,_=>rfl
 | _::_,[],_,_=>rfl
 | t::ts,c::cs,f,g=>by
  simp only[fQ]
  rw[←V1]
  congr 1
  funext x
  exact gZ ts cs _ g
theorem TH(st:St)(t:TypeId)(d v:D)(k:St→Option R):rM P st t d v k=(rM P st.bare t d v fun s=>some s.objs).bind fun p=>k { st with objs:=p }:=by
 have hb:st.bare.objs=st.objs:=rfl
 unfold rM mE
 simp only[hb]
 repeat' (first | split | dsimp only)
 all_goals first
  | rfl
  | (rw[←gZ];simp only[aW,Option.bind_some,Option.bind_none];done)
  | (rw[←gZ];rfl)
  | simp_all [aW]
theorem QW(op:BinOp)(kd:IntKind)(a b:Int)(k:D→Option R):BW op kd a b k=(BW op kd a b some).bind k:=by
 unfold BW
 repeat' (first | split | dsimp only)
 all_goals first
  | rfl
  | simp_all [aW]
theorem V2(op:BinOp)(kd:IntKind)(a b:Int)(k:D→Option R):nT op kd a b k=(nT op kd a b some).bind k:=by
 unfold nT
 repeat' (first | split | dsimp only)
 all_goals first
  | rfl
  | simp_all [aW]
theorem V3(op:BinOp)(a b:ByteArray)(k:D→Option R):OR op a b k=(OR op a b some).bind k:=by
 unfold OR
 repeat' (first | split | dsimp only)
 all_goals first
  | rfl
  | simp_all [aW]
theorem Dc(op:UnOp)(t:TypeId)(x:D)(k:D→Option R):Ki (P:=P) op t x k=(Ki (P:=P) op t x some).bind k:=by
 unfold Ki J5 NF EW
 repeat' (first | split | dsimp only)
 all_goals first
  | rfl
  | simp_all [aW]
theorem Z7(x:D)(k:D→Option R):ZV x k=(ZV x some).bind k:=by
 unfold ZV mE
 repeat' (first | split | dsimp only)
 all_goals first
  | rfl
  | simp_all [aW]
theorem TI(t:TypeId)(parts:List (Nat×D))(k:D→Option R):zP P t parts k=(zP P t parts some).bind k:=by
 unfold zP
 repeat' (first | split | dsimp only)
 all_goals first
  | rfl
  | simp_all [aW]
theorem NO(st:St)(s t:TypeId)(x:D)(k:D→Option R):vZ P st s t x k=(vZ P st.bare s t x some).bind k:=by
 unfold vZ gD EX mE EW gC St.bare
 repeat' (first | split | dsimp only)
 all_goals first
  | rfl
  | simp_all [aW]
theorem LQ(fn:Fn)(f c:List D)(k:D→Option R):pN fn f c k=(pN fn f c some).bind k:=by
 unfold pN
 repeat' (first | split | dsimp only)
 all_goals first
  | rfl
  | simp_all [aW]
theorem nG(st:St)(t:TypeId)(x:D)(lo hi mx:Option D)(k:D→Option R):jL P st t x lo hi mx k=(jL P st.bare t x lo hi mx some).bind k:=by
 have hc:∀n c,SP st.bare n c=SP st n c:=fun _ _=>rfl
 unfold jL xG gD EX mE EW
 simp only[hc]
 repeat' (first | split | dsimp only)
 all_goals first
  | rfl
  | simp_all [aW]
theorem I7(t:TypeId)(x:D)(f:Nat)(k:D→Option R):mV P t x f k=(mV P t x f some).bind k:=by
 unfold mV mE
 repeat' (first | split | dsimp only)
 all_goals first
  | rfl
  | simp_all [aW]
theorem TJ(t:TypeId)(x:D)(f:Nat)(k:D→Option R):DR P t x f k=(DR P t x f some).bind k:=by
 unfold DR
 repeat' (first | split | dsimp only)
 all_goals first
  | rfl
  | simp_all [aW]
theorem V4(st:St)(s t:TypeId)(x:D)(k:D→Option R):KT P st s t x k=(KT P st.bare s t x some).bind k:=by
 unfold KT
 split
 ·split
  ·unfold EX EW
   repeat' (first | split | dsimp only)
   all_goals first
    | rfl
    | simp_all [aW]
  ·rfl
 ·exact NO st s t x k
theorem yF(st:St)(t:TypeId)(x ix:D)(k:D→Option R):eO P st t x ix k=(eO P st.bare t x ix some).bind k:=by
 unfold eO mE gD EW St.bare
 repeat' (first | split | dsimp only)
 all_goals first
  | rfl
  | (simp_all [aW];done)
  | (simp only[aW];congr 1;funext i;refine Eq.trans ?_ (zS _ _);congr 1;funext j;split <;> rfl)
theorem TK(t:TypeId)(x ix:D)(k:D→Option R):DS P t x ix k=(DS P t x ix some).bind k:=by
 unfold DS EX gD EW
 repeat' (first | split | dsimp only)
 all_goals first
  | rfl
  | (simp_all [aW];done)
  | (simp only[aW];congr 1;funext i;refine Eq.trans ?_ (zS _ _);congr 1;funext j;split <;> rfl)
theorem NP(x:D)(i:Nat)(k:D→Option R):sT x i k=(sT x i some).bind k:=by
 unfold sT
 repeat' (first | split | dsimp only)
 all_goals first
  | rfl
  | simp_all [aW]
theorem Z8(st:St)(t:TypeId)(x:D)(k:D→Option R):uC P st t x k=(uC P st.bare t x some).bind k:=by
 unfold uC EX mE EW St.bare
 repeat' (first | split | dsimp only)
 all_goals first
  | rfl
  | simp_all [aW]
theorem Z9(op:BinOp)(t yt:TypeId)(x y:D)(k:D→Option R):DP P op t yt x y k=(DP P op t yt x y some).bind k:=by
 unfold DP J5 EX NF EW
 repeat' (first | split | dsimp only)
 all_goals first
  | rfl
  | (simp only[aW,←V2,←QW,←V3];done)
  | simp_all [aW]
theorem G8{rc:∀{R:Type},TypeId→S1→S1→(Bool→Option R)→Option R}(hrc:∀{R:Type} (t:TypeId) (x y:S1) (k:Bool→Option R),rc t x y k=(rc t x y some).bind k)(cs ds:List C):
 ∀(fs:List Field) {R:Type} (k:Bool→Option R),QC P rc cs ds fs k=(QC P rc cs ds fs some).bind k
 | [],R,k=>rfl
 | f::fs,R,k=>by
  simp only[QC]
  split
  ·rfl
  split
  case h_2=>rfl
  split
  case h_2=>rfl
  rw[hrc,hrc (k:=fun b=>QC P rc cs ds fs fun r=>some (NJ b r)),Option.bind_assoc]
  congr 1;funext b
  rw[G8 hrc cs ds fs,G8 hrc cs ds fs (k:=fun r=>some (NJ b r)),Option.bind_assoc]
  rfl
theorem G9{rc:∀{R:Type},TypeId→S1→S1→(Bool→Option R)→Option R}(hrc:∀{R:Type} (t:TypeId) (x y:S1) (k:Bool→Option R),rc t x y k=(rc t x y some).bind k)(e:TypeId)(n:Nat)(ag:Bool)(cs ds:List C):
 ∀(is:List Nat) {R:Type} (k:Bool→Option R),QD rc e n ag cs ds is k=(QD rc e n ag cs ds is some).bind k
 | [],R,k=>rfl
 | i::is,R,k=>by
  simp only[QD]
  split
  case h_2=>rfl
  rw[hrc,hrc (k:=fun b=>QD rc e n ag cs ds is fun r=>some (NJ b r)),Option.bind_assoc]
  congr 1;funext b
  rw[G9 hrc e n ag cs ds is,G9 hrc e n ag cs ds is (k:=fun r=>some (NJ b r)),Option.bind_assoc]
  rfl
theorem sR:∀(d:Nat) {R:Type} (t:TypeId) (x y:S1) (k:Bool→Option R),DZ P d t x y k=(DZ P d t x y some).bind k
 | 0,R,t,x,y,k=>rfl
 | d+1,R,t,x,y,k=>by
  simp only[DZ]
  split
  ·unfold J5 EW;repeat' (first | split | dsimp only)
   all_goals first
    | rfl
    | (simp only[aW];done)
    | simp_all [aW]
  ·unfold NF EW;repeat' (first | split | dsimp only)
   all_goals first
    | rfl
    | (simp only[aW];done)
    | simp_all [aW]
  ·unfold EX EW;repeat' (first | split | dsimp only)
   all_goals first
    | rfl
    | (simp only[aW];done)
    | simp_all [aW]
  ·split
   ·rfl
   split
   case h_2=>rfl
   exact G8 (sR d) _ _ _ k
  ·split
   case h_2=>rfl
   exact G9 (sR d) _ _ _ _ _ _ k
  ·rfl
theorem Aa(op:BinOp)(t yt:TypeId)(x y:D)(k:D→Option R):ZO P op t yt x y k=(ZO P op t yt x y some).bind k:=by
 unfold ZO
 split
 ·split
  ·rfl
  unfold Gs
  split
  ·split
   ·split
    ·dsimp only;rw[sR,sR (k:=fun b=>some (dB b)),Option.bind_assoc];rfl
    ·split
     ·dsimp only;rw[sR,sR (k:=fun b=>some (dB (!b))),Option.bind_assoc];rfl
     ·rfl
   ·rfl
  ·rfl
 ·exact Z9 op t yt x y k
theorem O8(st:St)(eq:Bool)(c:C)(k:D→Option R):VD st eq c k=(VD st.bare eq c some).bind k:=by
 have hb:st.bare.objs=st.objs:=rfl
 have hbif:∀(q:Bool) (d d':D),(bif q then k d else k d')=(bif q then some d else some d').bind k:=fun q d d'=>by cases q <;> rfl
 unfold VD
 rw[hb]
 split
 ·rfl
 ·split
  ·exact hbif _ _ _
  ·rfl
 ·split
  ·exact hbif _ _ _
  ·rfl
 ·rfl
theorem Ab(st:St)(op:BinOp)(t yt:TypeId)(x y:D)(k:D→Option R):NK P st op t yt x y k=(NK P st.bare op t yt x y some).bind k:=by
 unfold NK mE
 split
 ·split
  ·split
   ·split
    ·exact O8 _ _ _ _
    ·split
     ·exact O8 _ _ _ _
     ·rfl
   ·rfl
  ·rfl
 ·exact Aa op t yt x y k
theorem IJ(st:St)(dst:Option Nat)(e:TypeId)(k:St→D→Option R):mU P st dst e k=(mU P st.bare dst e fun s d=>some (s.objs,d)).bind fun p=>k { st with objs:=p.1 } p.2:=by
 unfold mU
 repeat' (first | split | dsimp only)
 all_goals first
  | rfl
  | exact iH st dst _ (fun key=>.s (.c (.box key 0))) k
  | simp_all
theorem Ac(st:St)(dst:Option Nat)(v:D)(k:St→D→Option R):SO st dst v k=(SO st.bare dst v fun s d=>some (s.objs,d)).bind fun p=>k { st with objs:=p.1 } p.2:=by
 unfold SO
 repeat' (first | split | dsimp only)
 all_goals first
  | rfl
  | exact iH st dst _ (fun key=>.s (.c (.box key 0))) k
  | simp_all
theorem I8(st:St)(dst:Option Nat)(t:TypeId)(l c:D)(k:St→D→Option R):kW P st dst t l c k=(kW P st.bare dst t l c fun s d=>some (s.objs,d)).bind fun p=>k { st with objs:=p.1 } p.2:=by
 unfold kW gD EW
 repeat' (first | split | dsimp only)
 all_goals first
  | rfl
  | (simp only[aW];congr 1;funext i;congr 1;funext j;congr 1;funext q;exact iH st dst _ (fun key=>.s (.c (.row key))) k)
  | simp_all [aW]
theorem QX(st:St)(dst:Option Nat)(t:TypeId)(l c:D)(k:St→D→Option R):uL P st dst t l c k=(uL P st.bare dst t l c fun s d=>some (s.objs,d)).bind fun p=>k { st with objs:=p.1 } p.2:=by
 unfold uL gD EW
 repeat' (first | split | dsimp only)
 all_goals first
  | rfl
  | (simp only[aW];congr 1;funext i;congr 1;funext j;congr 1;funext q;exact iH st dst _ (fun key=>.s (.c (.rk key))) k)
  | simp_all [aW]
theorem FI(st:St)(dst:Option Nat)(t:TypeId)(n:Nat)(parts:List (Nat×D))(k:St→D→Option R):gY P st dst t n parts k=(gY P st.bare dst t n parts fun s d=>some (s.objs,d)).bind fun p=>k { st with objs:=p.1 } p.2:=by
 have hb:st.bare.objs=st.objs:=rfl
 unfold gY
 simp only[hb]
 repeat' (first | split | dsimp only)
 all_goals first
  | rfl
  | exact LO st _ dst _ (fun key=>.s (.c (.row key))) k
  | (rw[←gZ];congr 1;funext ts;exact LO st _ dst _ (fun key=>.s (.c (.row key))) k)
  | simp_all [aW]
theorem HA(st:St)(dst:Option Nat)(t:TypeId)(n:Nat)(parts:List (Nat×D))(k:St→D→Option R):eV P st dst t n parts k=(eV P st.bare dst t n parts fun s d=>some (s.objs,d)).bind fun p=>k { st with objs:=p.1 } p.2:=by
 unfold eV
 split
 ·split
  ·split
   ·split
    ·exact iH st dst _ (fun key=>.s (.c (.row key))) k
    ·rfl
   ·rfl
  ·rfl
 ·exact FI st dst t n parts k
theorem nH(t:TypeId)(n:Nat)(parts:List (Nat×D))(k:D→Option R):ZI P t n parts k=(ZI P t n parts some).bind k:=by
 unfold ZI
 repeat' (first | split | dsimp only)
 all_goals first
  | rfl
  | (refine Eq.trans ?_ (gZ _ _ _ k);rfl)
  | simp_all [aW]
theorem nI(st:St)(n:Nat)(c:C)(k:List T→Option R):gC st n c k=(gC st.bare n c some).bind k:=by
 have hb:st.bare.objs=st.objs:=rfl
 cases c with
 | t x=>simp only[gC,aW];rfl
 | row key=>
  simp only[gC,hb]
  cases st.objs[key]? with
  | none=>rfl
  | some o=>cases o with
   | row fz e n' es=>by_cases h:n'=n <;> simp[h]
   | _=>rfl
 | cut key m lo len tg=>
  simp only[gC,hb]
  cases st.objs[key]? with
  | none=>rfl
  | some o=>cases o with
   | row fz e n' es=>by_cases h:n'=n∧m=n <;> simp[h]
   | _=>rfl
 | _=>rfl
theorem O9(st:St)(e:TypeId)(n:Nat)(c:C)(k:St→List T→Option R):xF st e n c k=(xF st.bare e n c fun s l=>some (s.objs,l)).bind fun p=>k { st with objs:=p.1 } p.2:=by
 unfold xF St.bare
 repeat' (first | split | dsimp only)
 all_goals first
  | rfl
  | simp_all [aW]
theorem PA(mx:Bool)(t:TypeId)(x y:D)(k:D→Option R):K7 P mx t x y k=(K7 P mx t x y some).bind k:=by
 unfold K7 J5 EX EW
 repeat' (first | split | dsimp only)
 all_goals first
  | rfl
  | simp_all [aW]
theorem V5(st:St)(t:TypeId)(s x:D)(k:St→D→Option R):KV P st t s x k=(KV P st.bare t s x fun s d=>some (s.objs,d)).bind fun p=>k { st with objs:=p.1 } p.2:=by
 have hb:st.bare.objs=st.objs:=rfl
 have hbb:st.bare.bare=st.bare:=by simp[St.bare]
 unfold KV
 split
 ·split
  ·unfold mE
   split
   ·dsimp only
    split
    ·refine(nI st _ _ _).trans (Eq.trans ?_ (congrArg (fun z:Option (List O×D)=>z.bind fun p=>k { st with objs:=p.1 } p.2) (nI st.bare _ _ _)).symm)
     rw[hbb,Option.bind_assoc]
     refine congrArg _ (funext fun m=>?_)
     simp only[hb]
     repeat' (first | rfl | split)
    ·rfl
   ·rfl
  ·rfl
 ·rfl
theorem QY(st:St)(dst:Option Nat)(t u:TypeId)(s x:D)(k:St→D→Option R):kH P st dst t u s x k=(kH P st.bare dst t u s x fun s d=>some (s.objs,d)).bind fun p=>k { st with objs:=p.1 } p.2:=by
 have fin:∀(e:TypeId) (n:Nat) (c:C) (m:List T) (b:Nat),(xF st e n c fun st' l=>ob (room l m b) fun q=>f6 st' dst (.row false e n q) fun st key=>k st (.s (.c (.row key)))) =
  (xF st.bare e n c fun st' l=>ob (room l m b) fun q=>f6 st' dst (.row false e n q) fun s key=>some (s.objs,.s (.c (.row key)))).bind fun p=>k { st with objs:=p.1 } p.2:=fun e n c m b=>by
  rw[O9,O9 st.bare e n c (fun st' l=>ob (room l m b) fun q=>f6 st' dst (.row false e n q) fun s key=>(some (s.objs,D.s (.c (.row key))):Option (List O×D)))]
  have hbb:st.bare.bare=st.bare:=by simp[St.bare]
  rw[hbb,Option.bind_assoc]
  congr 1
  funext p
  rw[aW]
  congr 1
  funext q
  rw[iH { st with objs:=p.1 } dst _ (fun key=>.s (.c (.row key))) k,iH { st.bare with objs:=p.1 } dst _ (fun key=>.s (.c (.row key))) (fun s d=>some (s.objs,d)),Option.bind_assoc]
  have h3:(St.bare { st.bare with objs:=p.1 })=St.bare { st with objs:=p.1 }:=by simp[St.bare]
  rw[h3]
  rfl
 unfold kH
 split
 ·split
  ·split
   ·split
    ·unfold mE
     split
     ·dsimp only
      split
      ·split
       ·have hbb:st.bare.bare=st.bare:=by simp[St.bare]
        refine(nI st _ _ _).trans (Eq.trans ?_ (congrArg (fun z:Option (List O×D)=>z.bind fun p=>k { st with objs:=p.1 } p.2) (nI st.bare _ _ _)).symm)
        rw[hbb,Option.bind_assoc]
        exact congrArg _ (funext fun m=>fin _ _ _ _ _)
       ·rfl
      ·split
       ·unfold EX EW
        split
        ·simp only[aW]
         exact congrArg _ (funext fun m=>fin _ _ _ _ _)
        ·rfl
       ·rfl
     ·rfl
    ·rfl
   ·rfl
  ·rfl
 ·rfl
theorem V6(st:St)(dst:Option Nat)(t u:TypeId)(key i:Nat)(x:D)(k:St→D→Option R):H8 P st dst t u key i x k=(H8 P st.bare dst t u key i x fun s d=>some (s.objs,d)).bind fun p=>k { st with objs:=p.1 } p.2:=by
 have hbo:st.bare.objs=st.objs:=rfl
 have hbb:st.bare.bare=st.bare:=by simp[St.bare]
 have fin:∀(o:O),(f6 st dst o fun st' K=>k { st' with objs:=st'.objs.set key (.fwd K) } (.s (.c (.inn K i)))) =
  (f6 st.bare dst o fun s K=>some (s.objs.set key (.fwd K),D.s (.c (.inn K i)))).bind fun p=>k { st with objs:=p.1 } p.2:=fun o=>by
  have e1:=O7 st dst o fun st' K=>k { st' with objs:=st'.objs.set key (.fwd K) } (.s (.c (.inn K i)))
  have e2:=O7 st.bare dst o fun s K=>(some (s.objs.set key (.fwd K),D.s (.c (.inn K i))):Option (List O×D))
  refine e1.trans (Eq.trans ?_ (congrArg (fun z:Option (List O×D)=>z.bind fun p=>k { st with objs:=p.1 } p.2) e2).symm)
  rw[hbb,Option.bind_assoc]
  rfl
 unfold H8
 split
 ·split
  ·split
   ·split
    ·unfold mE
     split
     ·dsimp only
      refine(nI st _ _ _).trans (Eq.trans ?_ (congrArg (fun z:Option (List O×D)=>z.bind fun p=>k { st with objs:=p.1 } p.2) (nI st.bare _ _ _)).symm)
      rw[hbb,Option.bind_assoc]
      refine congrArg _ (funext fun m=>?_)
      simp only[hbo]
      split
      ·split
       ·simp only[aW]
        refine congrArg _ (funext fun old=>congrArg _ (funext fun q=>?_))
        exact fin _
       ·rfl
      ·rfl
     ·rfl
    ·rfl
   ·rfl
  ·rfl
 ·rfl
theorem QZ(st:St)(dst:Option Nat)(t u:TypeId)(s x:D)(k:St→D→Option R):lK P st dst t u s x k=(lK P st.bare dst t u s x fun s d=>some (s.objs,d)).bind fun p=>k { st with objs:=p.1 } p.2:=by
 unfold lK
 split
 ·exact V6 _ _ _ _ _ _ _ _
 ·exact QY _ _ _ _ _ _ _
end
theorem TL{R:Type}{P:Program}(st:St)(t:TypeId)(x:D)(lo hi mx:Option D)(k:St→D→Option R):l9 P st t x lo hi mx k=(l9 P st.bare t x lo hi mx fun s d=>some (s.objs,d)).bind fun p=>k { st with objs:=p.1 } p.2:=by
 have hb:st.bare.objs=st.objs:=rfl
 unfold l9
 split
 ·split
  ·unfold vY
   simp only[hb]
   repeat' (first | split | dsimp only)
   all_goals first
    | rfl
    | (rw[←gZ];rfl)
  ·rfl
 ·have hbb:st.bare.bare=st.bare:=by simp[St.bare]
  have e2:=nG (P:=P) st.bare t x lo hi mx (fun d=>(some (st.bare.objs,d):Option (List O×D)))
  rw[hbb] at e2
  refine(nG st t x lo hi mx fun d=>k st d).trans (Eq.trans ?_ (congrArg (fun z:Option (List O×D)=>z.bind fun p=>k { st with objs:=p.1 } p.2) e2).symm)
  rw[Option.bind_assoc]
  rfl
section
variable {R S:Type} {P:Program}
theorem Mt{α:Type}(m:Option α)(f:α→Option R)(g:R→Option S):(ob m f).bind g=ob m fun a=>(f a).bind g:=by cases m <;> rfl
theorem Dd(d:D)(f:C→Option R)(g:R→Option S):(mE d f).bind g=mE d fun c=>(f c).bind g:=by unfold mE;split <;> rfl
theorem TM(kd:IntKind)(d:D)(f:Int→Option R)(g:R→Option S):(J5 kd d f).bind g=J5 kd d fun c=>(f c).bind g:=by
 unfold J5 EW
 split
 ·exact Mt _ _ _
 ·rfl
theorem De(d:D)(f:ByteArray→Option R)(g:R→Option S):(EX d f).bind g=EX d fun c=>(f c).bind g:=by
 unfold EX EW
 split
 ·exact Mt _ _ _
 ·rfl
theorem LR:∀(cs:List C) (f:List T→Option R) (g:R→Option S),(v7 cs f).bind g=v7 cs fun c=>(f c).bind g
 | [],_,_=>rfl
 | c::cs,f,g=>by
  cases c with
  | t x=>
   simp only[v7]
   rw[Mt]
   congr 1
   funext a
   exact LR cs _ _
  | _=>rfl
theorem wE(c:Nat)(d:D)(f:T→Option R)(g:R→Option S):(vE c d f).bind g=vE c d fun t=>(f t).bind g:=by
 match c with
 | 0=>exact TM _ _ _ _
 | 1=>exact De _ _ _
 | m+2=>
  simp only[vE]
  split
  ·split
   ·exact LR _ _ _
   ·rfl
  ·rfl
theorem TN(st:St)(n:Nat)(c:C)(f:List T→Option R)(g:R→Option S):(vF st n c f).bind g=vF st n c fun l=>(f l).bind g:=by
 unfold vF
 split
 ·split <;> rfl
 ·split
  ·split <;> rfl
  ·rfl
 ·rfl
theorem HC(e:TypeId)(v:T)(f:S1→Option R)(g:R→Option S):(I3 P e v f).bind g=I3 P e v fun s=>(f s).bind g:=by
 unfold I3
 split
 ·exact Mt _ _ _
 ·split
  ·exact Mt _ _ _
  ·rfl
 ·rfl
theorem V7(e:TypeId)(v:T)(g:S1→Option S):I3 P e v g=(I3 P e v some).bind g:=by rw[HC];rfl
theorem IK(ts:List TypeId)(cs:List C)(f:List T→Option R)(g:R→Option S):(fQ P ts cs f).bind g=fQ P ts cs fun ts=>(f ts).bind g:=(gZ ts cs f g).symm
theorem Q0(st:St)(t:TypeId)(x ix:D)(ok:Bool)(k:D→Option R):qJ P st t x ix ok k=(qJ P st.bare t x ix ok some).bind k:=by
 have hb:∀n c (f:List T→Option R),vF st.bare n c f=vF st n c f:=fun _ _ _=>rfl
 unfold qJ
 repeat' (first | split | dsimp only)
 all_goals first
  | rfl
  | (simp only[Dd,TN,wE,HC,hb];rfl)
theorem NQ(st:St)(dst:Option Nat)(t:TypeId)(k:St→D→Option R):v8 P st dst t k=(v8 P st.bare dst t fun s d=>some (s.objs,d)).bind fun p=>k { st with objs:=p.1 } p.2:=by
 unfold v8
 repeat' (first | split | dsimp only)
 all_goals first
  | rfl
  | exact iH st dst _ (fun key=>.s (.c (.row key))) k
theorem Q1(st:St)(t:TypeId)(m q v:D)(k:St→Option R):xM P st t m q v k=(xM P st.bare t m q v fun s=>some s.objs).bind fun p=>k { st with objs:=p }:=by
 have hb:st.bare.objs=st.objs:=rfl
 unfold xM
 split
 ·split
  ·rw[wE]
   congr 1
   funext kk
   simp only[hb]
   split
   ·split
    ·split
     ·split
      ·rw[IK]
       congr 1
       funext ts
       split <;> rfl
      ·rfl
     ·rfl
    ·rfl
   ·rfl
  ·rfl
 ·rfl
theorem Q2(st:St)(t:TypeId)(x ix:D)(ok:Bool)(k:D→Option R):n3 P st t x ix ok k=(n3 P st.bare t x ix ok some).bind k:=by
 unfold n3
 split
 ·have hb:st.bare.objs=st.objs:=rfl
  have hc:∀(b:Bool) (p q:Option D),(bif b then p else q).bind k=bif b then p.bind k else q.bind k:=fun b p q=>by cases b <;> rfl
  unfold XN
  rw[hb]
  repeat' (first | split | dsimp only)
  all_goals first
   | rfl
   | (rw[wE];congr 1;funext kk;rw[hc,aW];rfl)
 ·exact Q0 _ _ _ _ _ _
theorem FJ(st:St)(t:TypeId)(m q v:D)(k:St→Option R):n4 P st t m q v k=(n4 P st.bare t m q v fun s=>some s.objs).bind fun p=>k { st with objs:=p }:=by
 unfold n4
 split
 ·have hb:st.bare.objs=st.objs:=rfl
  have hf:gR st.bare=gR st:=by unfold gR St.bare;simp only[List.length_replicate]
  unfold FC
  rw[hb,hf]
  repeat' (first | split | dsimp only)
  all_goals first
   | rfl
   | (rw[wE];congr 1;funext kk;simp only[aW];rfl)
 ·exact Q1 _ _ _ _ _ _
theorem NR(st:St)(dst:Option Nat)(t:TypeId)(k:St→D→Option R):wA P st dst t k=(wA P st.bare dst t fun s d=>some (s.objs,d)).bind fun p=>k { st with objs:=p.1 } p.2:=by
 unfold wA
 repeat' (first | split | dsimp only)
 all_goals first
  | rfl
  | exact iH st dst _ (fun key=>.s (.c (.rk key))) k
theorem Q3(st:St)(t:TypeId)(m q:D)(k:St→D→Option R):mR P st t m q k=(mR P st.bare t m q fun s d=>some (s.objs,d)).bind fun p=>k { st with objs:=p.1 } p.2:=by
 have hb:st.bare.objs=st.objs:=rfl
 unfold mR
 split
 ·split
  ·split
   ·split
    ·rw[wE]
     congr 1
     funext kk
     simp only[hb]
     split
     ·split
      ·split
       ·rw[HC]
        rfl
       ·rfl
      ·rfl
     ·rfl
    ·rfl
   ·rfl
  ·rfl
 ·rfl
theorem LS(st:St)(t:TypeId)(m q v:D)(k:St→Option R):pR P st t m q v k=(pR P st.bare t m q v fun s=>some s.objs).bind fun p=>k { st with objs:=p }:=by
 have hb:st.bare.objs=st.objs:=rfl
 unfold pR
 split
 ·rw[TM]
  congr 1
  funext kk
  simp only[hb]
  split
  ·split
   ·split
    ·rw[IK]
     congr 1
     funext ts
     split
     ·rw[Mt];rfl
     ·rfl
    ·rfl
   ·rfl
  ·rfl
 ·rfl
end
end Go.Eng
