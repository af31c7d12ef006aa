/-
  Parts of slices and strings, conversions, built-in functions that compute, structs put together: they agree with the model's run. And what stood behind it in 6 texts.
  Conditions: said at the theorems.
-/
import Derived.Test.YtcoimfbmgjhcjaaGreatDoorOpB
import Derived.Deep.AppendSrc
import Derived.Deep.Upon
import Derived.Laws.BytesString
import Derived.Laws.BitsLemmas
import Derived.MapKept
set_option linter.unusedVariables false
set_option linter.unusedSimpArgs false
namespace Go.Ev
section
variable {P:Program} {nt:Nat} {o:Oper} {env:Env} {H:af} {X:Cx} {β:Type} {K:Value->af->Option β} {r:β}
theorem Qcl (w:World) (k:IntKind) (i y:Nat) (code:BoundsCode) (h:i<=y):(Instr.sliceBound (.int k (i:Int)) y code).run P w=.ok i w:=by
 simp [Instr.sliceBound,asIntOf,h]
theorem P7 (w:World) (isS:Bool) (len cap l h:Nat) (lo hi:Option Value) (hl:l<=h) (hh:h<=cap) (elo:(lo=none/\l=0)\/lo=some (.int .i64 (l:Int))) (ehi:(hi=none/\h=len)\/hi=some (.int .i64 (h:Int))) :
  (Instr.sliceBounds isS len cap lo hi none).run P w=.ok (l,h,cap) w:=by
 rcases elo with ⟨rfl,rfl⟩ | rfl<;>rcases ehi with ⟨rfl,rfl⟩ | rfl<;>simp [Instr.sliceBounds,Qcl,hl,hh]
theorem Ie {ι:Io} {D:Nat->Prop} {a:Act} (he:bt ι D nt env a) {x:Option Operand} {d n:Nat} (h:(x=none/\n=d)\/∃ y,x=some y/\ev env y=some (.int .i64 (n:Int))) :
  (x.map a.eval=none/\n=d)\/x.map a.eval=some (.int .i64 (n:Int)):=by
 rcases h with ⟨rfl,rfl⟩ | ⟨y,rfl,hy⟩
 .exact .inl ⟨rfl,rfl⟩
 .exact .inr (by simp [(Qe he hy).aL])
theorem XP {t e:TypeId} (hu:P.underlying t=some (.slice e)) (x:Value) (lo hi mx:Option Value) (w:World):(Instr.sliceAt t x lo hi mx).run P w=(Instr.slice t x lo hi mx).run P w:=by
 simp [Instr.sliceAt,run_underlying hu]
theorem Qcm {t:TypeId} (hu:P.underlying t=some .string) (x:Value) (lo hi mx:Option Value) (w:World):(Instr.sliceAt t x lo hi mx).run P w=(Instr.slice t x lo hi mx).run P w:=by
 simp [Instr.sliceAt,run_underlying hu]
theorem Qe5 {t e:TypeId} {x:Operand} {lo hi:Option Operand} {l h:Nat} {i:TypeInfo} (ho:o.op=.slice t x lo hi none) (hx:ev env x=some (.slice none 0 0)) (hu:P.underlying t=some (.slice e)) (eS:P.info? e=some i)
  (h1:(hi=none/\h=0)\/∃ y,hi=some y/\ev env y=some (.int .i64 (h:Int))) (h2:(lo=none/\l=0)\/∃ y,lo=some y/\ev env y=some (.int .i64 (l:Int))) (hl:l<=h) (hn:h<=0) :
  bG P nt o env (.slice none 0 0):=by
 refine ⟨fun ι D a w he=>?_,fun D h=>.dD⟩
 have ex:a.eval x=.slice none 0 0:=by
  have:=Qe he hx
  cases hq:a.eval x<;>rw [hq] at this<;>cases this;rfl
 refine ⟨.slice none 0 0,?_,.dD⟩
 have hb:=P7 (P:=P) w true 0 0 l h (lo.map a.eval) (hi.map a.eval) hl hn (Ie he h2) (Ie he h1)
 have hh:h=0:=by omega
 have v7:l=0:=by omega
 have aT:(Instr.slice t (.slice none 0 0) (lo.map a.eval) (hi.map a.eval) none).run P w=.ok (.slice none 0 0) w:=by
  simp only [Instr.slice,Sem.run_bind,run_underlying hu,Result.andThen_ok,hb]
  simp [sizeOf,typeInfo,eS,hh,v7]
 simp only [execOp,ho,ex,Sem.run_bind,XP hu,Option.map_none,aT,Result.andThen_ok,Sem.run_pure]
theorem Qmh {t e:TypeId} {x:Operand} {lo hi:Option Operand} {p:Addr} {n c l h:Nat} {i:TypeInfo} (ho:o.op=.slice t x lo hi none) (hx:ev env x=some (.slice (some p) n c)) (hu:P.underlying t=some (.slice e)) (eS:P.info? e=some i)
  (h1:(hi=none/\h=n)\/∃ y,hi=some y/\ev env y=some (.int .i64 (h:Int))) (h2:(lo=none/\l=0)\/∃ y,lo=some y/\ev env y=some (.int .i64 (l:Int))) (hl:l<=h) (hn:h<=n) (hc:c=i.size) :
  bG P nt o env (.slice (some ⟨p.block,p.off+l*i.size,none⟩) (h - l) c):=by
 subst hc
 refine ⟨fun ι D a w he=>?_,fun D h=>.sl _ _ _ (mW h hx).v8⟩
 have hv:=Qe he hx
 have key:∀ (q:Addr) (cap:Nat),a.eval x=.slice (some q) n cap->h<=cap->(execOp a.eval o).run P w=.ok (.value (.slice (some (if cap=l then q else q.add (l*i.size))) (h - l) (cap - l))) w:=by
  intro q cap ex kB
  have hb:=P7 (P:=P) w true n cap l h (lo.map a.eval) (hi.map a.eval) hl kB (Ie he h2) (Ie he h1)
  have aT:(Instr.slice t (.slice (some q) n cap) (lo.map a.eval) (hi.map a.eval) none).run P w=.ok (.slice (some (if cap=l then q else q.add (l*i.size))) (h - l) (cap - l)) w:=by
   simp only [Instr.slice,Sem.run_bind,run_underlying hu,Result.andThen_ok,hb]
   simp [sizeOf,typeInfo,eS]
   split<;>rfl
  simp only [execOp,ho,ex,Sem.run_bind,XP hu,Option.map_none,aT,Result.andThen_ok,Sem.run_pure]
 generalize hq:a.eval x=q at hv
 cases hv with
 | eZ _ _ _ cap hD Ay kB =>
  refine ⟨_,key _ cap hq (by omega),?_⟩
  by_cases e:cap=l
  .rw [if_pos e]
   have e1:h - l=0:=by omega
   have e2:cap - l=0:=by omega
   rw [e1,e2];exact .bD _ _ _ hD
  .rw [if_neg e]
   have ha:(ι.addr p).add (l*i.size)=ι.addr ⟨p.block,p.off+l*i.size,none⟩:=by
    rw [JP];simp only [Io.addr,Nat.add_assoc]
   rw [ha]
   refine .eZ ⟨p.block,p.off+l*i.size,none⟩ _ _ _ hD (by omega) ?_
   simp only
   have:(cap - l)*i.size+l*i.size=cap*i.size:=by rw [<- Nat.add_mul];congr 1;omega
   omega
 | bD _ b _ hD =>
  refine ⟨_,key _ 0 hq (by omega),?_⟩
  have e1:l=0:=by omega
  subst e1
  rw [if_pos rfl]
  have e2:h - 0=0:=by omega
  rw [e2];exact .bD _ _ _ hD
theorem Qe6 {t:TypeId} {x:Operand} {lo hi:Option Operand} {s:ByteArray} {l h:Nat} (ho:o.op=.slice t x lo hi none) (hx:ev env x=some (.string s)) (hu:P.underlying t=some .string)
  (h1:(hi=none/\h=s.size)\/∃ y,hi=some y/\ev env y=some (.int .i64 (h:Int))) (h2:(lo=none/\l=0)\/∃ y,lo=some y/\ev env y=some (.int .i64 (l:Int))) (hl:l<=h) (hn:h<=s.size) :
  bG P nt o env (.string (s.extract l h)):=by
 refine ⟨fun ι D a w he=>⟨_,?_,.str _⟩,fun D h=>.str _⟩
 have ex:=(Qe he hx).bO
 have hb:=P7 (P:=P) w false s.size s.size l h (lo.map a.eval) (hi.map a.eval) hl hn (Ie he h2) (Ie he h1)
 have aT:(Instr.slice t (.string s) (lo.map a.eval) (hi.map a.eval) none).run P w=.ok (.string (s.extract l h)) w:=by
  simp only [Instr.slice,Sem.run_bind,run_underlying hu,Result.andThen_ok,Option.isSome_none,Bool.false_eq_true,if_false,Sem.run_pure,hb]
 simp only [execOp,ho,ex,Sem.run_bind,Qcm hu,Option.map_none,aT,Result.andThen_ok,Sem.run_pure]
theorem Qg9 {src dst:TypeId} {x:Operand} {k0 k k':IntKind} {n:Int} (ho:o.op=.convert src dst x) (hx:ev env x=some (.int k' n)) (h1:P.underlying src=some (.int k0)) (h2:P.underlying dst=some (.int k)):bG P nt o env (.int k (k.wrap n)):=by
 refine ⟨fun ι D a w he=>⟨_,?_,.int _ _⟩,fun D h=>.int _ _⟩
 simp [execOp,ho,(Qe he hx).aL,convert,run_underlying h1,run_underlying h2,Conv.intToInt]
theorem Qga {src dst:TypeId} {x:Operand} {s:ByteArray} (ho:o.op=.convert src dst x) (hx:ev env x=some (.string s)) (h1:P.underlying src=some .string) (h2:P.underlying dst=some .string):bG P nt o env (.string s):=by
 refine ⟨fun ι D a w he=>⟨_,?_,.str _⟩,fun D h=>.str _⟩
 simp [execOp,ho,(Qe he hx).bO,convert,run_underlying h1,run_underlying h2]
theorem EW {c:Call} {b:Builtin} (ho:o.op=.call c) (hb:c.callee=.builtin b) (ρ:Operand->Value) (w:World) :
  ∃ consts,(execOp ρ o).run P w=(builtin b c.argTypes o.type consts (c.args.map ρ)).run P w:=by
 simp only [execOp,ho,resolve,hb,invoke,Sem.run_bind,Sem.run_pure,Result.andThen_ok]
 exact ⟨_,rfl⟩
theorem P8 {c:Call} {v:Value} (h:eT env c.args.toList=some [v]):∃ x,c.args = #[x]/\ev env x=some v:=by
 generalize c.args=A at h ⊢
 obtain ⟨args⟩:=A
 match args,h with
 | [],h=>simp [eT] at h
 | [x],h =>
  simp only [eT] at h
  obtain ⟨u,hu,h⟩:=Q2 h
  simp [Q1] at h
  exact ⟨x,rfl,h▸hu⟩
 | x::y::r,h =>
  simp only [eT] at h
  obtain ⟨u,hu,h⟩:=Q2 h
  obtain ⟨l,hl,h⟩:=Q2 h
  obtain ⟨u',dn,hl⟩:=Q2 hl
  obtain ⟨l',jv,hl⟩:=Q2 hl
  simp at h hl
  rw [<- hl] at h
  simp at h
theorem Ig {c:Call} {v v':Value} (h:eT env c.args.toList=some [v,v']):∃ x y,c.args = #[x,y]/\ev env x=some v/\ev env y=some v':=by
 generalize c.args=A at h ⊢
 obtain ⟨args⟩:=A
 match args,h with
 | [],h=>simp [eT] at h
 | x::r,h =>
  simp only [eT] at h
  obtain ⟨u,hu,h⟩:=Q2 h
  obtain ⟨l,hl,h⟩:=Q2 h
  simp at h
  obtain ⟨h1,h2⟩:=h
  subst h1
  match r,hl with
  | [],hl=>simp [eT] at hl;rw [<- hl] at h2;simp at h2
  | [y],hl =>
   simp only [eT] at hl
   obtain ⟨u',dn,hl⟩:=Q2 hl
   simp [Q1] at hl
   rw [<- hl] at h2
   simp at h2
   exact ⟨x,y,rfl,hu,h2▸dn⟩
  | y::z::q,hl =>
   simp only [eT] at hl
   obtain ⟨u',dn,hl⟩:=Q2 hl
   obtain ⟨l',jv,hl⟩:=Q2 hl
   obtain ⟨u2,iF,jv⟩:=Q2 jv
   obtain ⟨l2,fY,jv⟩:=Q2 jv
   simp at hl jv
   rw [<- hl,<- jv] at h2
   simp at h2
theorem P9 {c:Call} {t:TypeId} (h:c.argTypes.toList=[t]):c.argTypes = #[t]:=by
 generalize c.argTypes=A at h ⊢;obtain ⟨l⟩:=A;simp at h;rw [h]
theorem NJ {c:Call} {t u:TypeId} (h:c.argTypes.toList=[t,u]):c.argTypes = #[t,u]:=by
 generalize c.argTypes=A at h ⊢;obtain ⟨l⟩:=A;simp at h;rw [h]
theorem Qmi {c:Call} {t e:TypeId} {a:Option Addr} {n m:Nat} (ho:o.op=.call c) (hb:c.callee=.builtin .len) (ht:c.argTypes.toList=[t]) (hv:eT env c.args.toList=some [.slice a n m]) (hu:P.underlying t=some (.slice e)) :
  bG P nt o env (.int .i64 n):=by
 refine ⟨fun ι D act w he=>⟨_,?_,.int _ _⟩,fun D h=>.int _ _⟩
 obtain ⟨x,hx,v_⟩:=P8 hv
 obtain ⟨a',cap,e',_,_⟩:=(Qe he v_).oG
 obtain ⟨cs,cB⟩:=EW (P:=P) ho hb act.eval w
 rw [cB,P9 ht,hx]
 simp [builtin,Builtin.len_,e',run_underlying hu,goInt]
theorem Qj7 {c:Call} {t e:TypeId} (ho:o.op=.call c) (hb:c.callee=.builtin .cap) (ht:c.argTypes.toList=[t]) (hv:eT env c.args.toList=some [.slice none 0 0]) (hu:P.underlying t=some (.slice e)) :
  bG P nt o env (.int .i64 0):=by
 refine ⟨fun ι D act w he=>⟨_,?_,.int _ _⟩,fun D h=>.int _ _⟩
 obtain ⟨x,hx,v_⟩:=P8 hv
 have e':act.eval x=.slice none 0 0:=by
  have:=Qe he v_
  cases hq:act.eval x<;>rw [hq] at this<;>cases this;rfl
 obtain ⟨cs,cB⟩:=EW (P:=P) ho hb act.eval w
 rw [cB,P9 ht,hx]
 simp [builtin,Builtin.cap_,e',run_underlying hu,goInt]
theorem Qj8 {c:Call} {t:TypeId} {s:ByteArray} (ho:o.op=.call c) (hb:c.callee=.builtin .len) (ht:c.argTypes.toList=[t]) (hv:eT env c.args.toList=some [.string s]) (hu:P.underlying t=some .string) :
  bG P nt o env (.int .i64 s.size):=by
 refine ⟨fun ι D act w he=>⟨_,?_,.int _ _⟩,fun D h=>.int _ _⟩
 obtain ⟨x,hx,v_⟩:=P8 hv
 obtain ⟨cs,cB⟩:=EW (P:=P) ho hb act.eval w
 rw [cB,P9 ht,hx]
 simp [builtin,Builtin.len_,(Qe he v_).bO,run_underlying hu,goInt]
theorem Qrs {c:Call} {k k':IntKind} {x y:Int} (ho:o.op=.call c) (hb:c.callee=.builtin .min) (hv:eT env c.args.toList=some [.int k x,.int k' y]):bG P nt o env (.int k (if y < x then y else x)):=by
 refine ⟨fun ι D act w he=>⟨_,?_,.int _ _⟩,fun D h=>.int _ _⟩
 obtain ⟨p,q,hx,h1,h2⟩:=Ig hv
 obtain ⟨cs,cB⟩:=EW (P:=P) ho hb act.eval w
 rw [cB,hx]
 simp [builtin,(Qe he h1).aL,(Qe he h2).aL,run_min_int2]
theorem Qrt {c:Call} {k k':IntKind} {x y:Int} (ho:o.op=.call c) (hb:c.callee=.builtin .max) (hv:eT env c.args.toList=some [.int k x,.int k' y]):bG P nt o env (.int k (if y > x then y else x)):=by
 refine ⟨fun ι D act w he=>⟨_,?_,.int _ _⟩,fun D h=>.int _ _⟩
 obtain ⟨p,q,hx,h1,h2⟩:=Ig hv
 obtain ⟨cs,cB⟩:=EW (P:=P) ho hb act.eval w
 rw [cB,hx]
 simp [builtin,(Qe he h1).aL,(Qe he h2).aL,run_max_int2]
def EX (ι:Io) (D:Nat->Prop):List (Nat×Value)->List (Nat×Value)->Prop
 | [],[]=>True
 | x::r,y::q=>x.1=y.1/\ay ι D x.2 y.2/\EX ι D r q
 | _,_=>False
theorem P_ {ι:Io} {D:Nat->Prop} {a:Act} (he:bt ι D nt env a):∀ {xs:List (Nat×Operand)} {ps:List (Nat×Value)},og env xs=some ps->EX ι D ps (xs.map fun (i,x)=>(i,a.eval x))
 | [],ps,h=>by simp [og] at h;subst h;trivial
 | (i,x)::r,ps,h=>by
  simp only [og] at h
  obtain ⟨v,hv,h⟩:=Q2 h
  obtain ⟨l,hl,h⟩:=Q2 h
  simp at h;subst h
  exact ⟨rfl,Qe he hv,P_ he hl⟩
theorem QA {D:Nat->Prop} (he:dF D env):∀ {xs:List (Nat×Operand)} {ps:List (Nat×Value)},og env xs=some ps->∀ p∈ps,bK D p.2
 | [],ps,h=>by simp [og] at h;subst h;simp
 | (i,x)::r,ps,h=>by
  simp only [og] at h
  obtain ⟨v,hv,h⟩:=Q2 h
  obtain ⟨l,hl,h⟩:=Q2 h
  simp at h;subst h
  intro p hp
  rcases Z2 hp with rfl | hp
  .exact mW he hv
  .exact QA he hl p hp
theorem ay.cells {ι:Io} {D:Nat->Prop} {v c:Value} (h:ay ι D v c):aZ ι D v.cells.toList c.cells.toList:=by
 cases hv:Ev.az v with
 | true =>
  have hc:=h.az
  have e1:v.cells = #[v]:=by cases v<;>first | rfl | simp [Ev.az] at hv
  have e2:c.cells = #[c]:=by rw [hv] at hc;cases c<;>first | rfl | simp [Ev.az] at hc
  rw [e1,e2];exact aZ.cons h (aZ.nil ι D)
 | false =>
  cases h<;>first | (simp [Ev.az] at hv;done) | skip
  case agg xs ys hl h=>exact ⟨hl,h⟩
  case tuple xs ys hl h=>exact aZ.cons (.tuple xs ys hl h) (aZ.nil ι D)
theorem bK.cells {D:Nat->Prop} {v:Value} (h:bK D v):gI D v.cells.toList:=by
 cases v
 case agg xs=>exact h.kC
 all_goals
  intro u hu
  simp [Value.cells] at hu
  subst hu;exact h
theorem aZ.set {ι:Io} {D:Nat->Prop} {xs ys:Array Value} (h:aZ ι D xs.toList ys.toList) {v c:Value} (hv:ay ι D v c) (i:Nat):aZ ι D (xs.setIfInBounds i v).toList (ys.setIfInBounds i c).toList:=by
 simp only [Array.toList_setIfInBounds]
 refine ⟨by simp [h.1],fun j h1 h2=>?_⟩
 simp only [List.getElem_set]
 split
 .exact hv
 .exact h.2 j _ _
theorem XQ {ι:Io} {D:Nat->Prop} (off:Nat):∀ (l l':List Value) (n:Nat) (A A':Array Value),aZ ι D l l'->aZ ι D A.toList A'.toList ->
  aZ ι D ((l.zipIdx n).foldl (fun cs (c,j)=>cs.setIfInBounds (off+j) c) A).toList ((l'.zipIdx n).foldl (fun cs (c,j)=>cs.setIfInBounds (off+j) c) A').toList
 | [],[],n,A,A',_,hA=>by simpa using hA
 | [],_::_,_,_,_,h,_=>absurd h.1 (by simp)
 | _::_,[],_,_,_,h,_=>absurd h.1 (by simp)
 | v::l,c::l',n,A,A',h,hA=>by
  simp only [List.zipIdx_cons,List.foldl_cons]
  exact XQ off l l' (n+1) _ _ h.tail (hA.set h.head _)
theorem QB {ι:Io} {D:Nat->Prop} (place:Nat->Option (Nat×Nat)):∀ (ps qs:List (Nat×Value)) (A A' cs:Array Value),EX ι D ps qs->aZ ι D A.toList A'.toList->Instr.fill place A ps=some cs->∃ sO,Instr.fill place A' qs=some sO/\aZ ι D cs.toList sO.toList
 | [],[],A,A',cs,_,hA,h=>by simp [Instr.fill] at h;subst h;exact ⟨A',rfl,hA⟩
 | [],_::_,_,_,_,h,_,_=>h.elim
 | _::_,[],_,_,_,h,_,_=>h.elim
 | (i,v)::ps,(j,c)::qs,A,A',cs,⟨e,hv,hp⟩,hA,h=>by
  simp only at e hv
  subst e
  simp only [Instr.fill] at h ⊢
  cases iG:place i with
  | none=>rw [iG] at h;simp at h
  | some os =>
   obtain ⟨off,size⟩:=os
   rw [iG] at h
   simp only at h ⊢
   have cB:c.cells.size=v.cells.size:=by have:=hv.cells.1;simpa using this.symm
   have hAs:A'.size=A.size:=by have:=hA.1;simpa using this.symm
   rw [cB,hAs]
   split at h
   .simp at h
   .rename_i hn
    rw [if_neg hn]
    refine QB place ps qs _ _ cs hp ?_ h
    have:=XQ (ι:=ι) (D:=D) off v.cells.toList c.cells.toList 0 A A' hv.cells hA
    rw [<- Array.foldl_toList,<- Array.foldl_toList]
    simpa using this
theorem XR {D:Nat->Prop} (off:Nat):∀ (l:List Value) (n:Nat) (A:Array Value),gI D l->gI D A.toList->gI D ((l.zipIdx n).foldl (fun cs (c,j)=>cs.setIfInBounds (off+j) c) A).toList
 | [],n,A,_,hA=>by simpa using hA
 | v::l,n,A,h,hA=>by
  simp only [List.zipIdx_cons,List.foldl_cons]
  refine XR off l (n+1) _ (fun u hu=>h u (List.mem_cons_of_mem _ hu)) ?_
  intro u hu
  simp only [Array.toList_setIfInBounds] at hu
  rcases List.mem_or_eq_of_mem_set hu with hu | rfl
  .exact hA u hu
  .exact h _ (List.mem_cons_self ..)
theorem QC {D:Nat->Prop} (place:Nat->Option (Nat×Nat)):∀ (ps:List (Nat×Value)) (A cs:Array Value),(∀ p∈ps,bK D p.2)->gI D A.toList->Instr.fill place A ps=some cs->gI D cs.toList
 | [],A,cs,_,hA,h=>by simp [Instr.fill] at h;subst h;exact hA
 | (i,v)::ps,A,cs,hp,hA,h=>by
  simp only [Instr.fill] at h
  cases iG:place i with
  | none=>rw [iG] at h;simp at h
  | some os =>
   obtain ⟨off,size⟩:=os
   rw [iG] at h
   simp only at h
   split at h
   .simp at h
   .refine QC place ps _ cs (fun p h=>hp p (List.mem_cons_of_mem _ h)) ?_ h
    have:=XR (D:=D) off v.cells.toList 0 A (hp _ (List.mem_cons_self ..)).cells hA
    rw [<- Array.foldl_toList]
    simpa using this
theorem Qmj {t:TypeId} {ps:List (Nat×Value)} {cs:Array Value} (h:P.built t ps=some cs):∃ z place,Az P t=some z/\(∀ qs,P.built t qs=Instr.fill place z.cells qs):=by
 unfold Program.built at h
 cases Bk:P.info? t with
 | none=>simp [Bk] at h
 | some it =>
  cases hu:P.underlying t with
  | none=>simp [Bk,hu] at h
  | some d =>
   cases hz:it.zero with
   | none=>cases d<;>simp [Bk,hu,hz] at h
   | some z =>
    have XS:Az P t=some z:=by simp [Az,Bk,Q1,hz]
    cases d<;>try (simp [Bk,hu] at h;done)
    case array n e =>
     cases NK:P.info? e with
     | none=>simp [Bk,hu,hz,NK] at h
     | some ie=>exact ⟨z,fun i=>some (i*ie.size,ie.size),XS,fun qs=>by simp only [Program.built,Bk,hu,hz,NK]⟩
    case struct fields =>
     cases hp:fields.toList.mapM (fun f=>(P.info? f.type).map fun i=>(f.offset,i.size)) with
     | none=>simp [Bk,hu,hz,hp] at h
     | some places=>exact ⟨z,fun x=>places.toArray[x]?,XS,fun qs=>by simp only [Program.built,Bk,hu,hz,hp]⟩
theorem Qmk {t:TypeId} {parts:Array (Nat×Operand)} {ps:List (Nat×Value)} {cs:Array Value} (ho:o.op=.build t parts) (hp:og env parts.toList=some ps) (hf:EY P t ps=some cs):bG P nt o env (.agg cs):=by
 unfold EY at hf
 obtain ⟨z,hz,hf⟩:=Q2 hf
 split at hf
 .rename_i C2
  obtain ⟨z',place,aX,hb⟩:=Qmj hf
  rw [hz] at aX;simp at aX;subst aX
  refine ⟨fun ι D a w he=>?_,fun D he=>?_⟩
  .rw [hb] at hf
   obtain ⟨sO,h1,h2⟩:=QB place _ _ _ _ cs (P_ he hp) (aZ.cq C2 ι D) hf
   refine ⟨.agg sO,?_,h2.bZ⟩
   have aT:=run_build (P:=P) w t (parts.map fun (i,x)=>(i,a.eval x)) sO (by rw [hb,<- h1];congr 1;simp)
   simp only [execOp,ho,Sem.run_bind,aT,Result.andThen_ok,Sem.run_pure]
  .rw [hb] at hf
   exact bK.bZ (QC place _ _ cs (QA he hp) (fun v hv=>sP (Z3 C2 v hv) D) hf)
 .simp at hf
end
structure jY (P:Program) (nt:Nat) (o:Oper) (env:Env) (H:af) (raw v:Value):Prop where
 rd:cT P o.op env H=some raw
 run:∀ (ι:Io) (D:Nat->Prop) (a:Act) (w:World) (G:af),cT P o.op env G=some raw->Rel ι D G w->bt ι D nt env a->∃ c,(execOp a.eval o).run P w=.ok (.value c) w/\ay ι D v c
 lt:dF (aK H.length) env->Ql H.length H->bK (aK H.length) v
structure fO (P:Program) (nt:Nat) (o:Oper) (env:Env) (vs:List Value) (mk:Nat->Value):Prop where
 cells:∀ v∈vs,az v=true
 run:∀ (ι:Io) (D:Nat->Prop) (a:Act) (w:World),bt ι D nt env a->∃ (cs rest:List Value) (e_:TypeId) (fz:Nat×Nat) (w0:World) (c:Value),aZ ι D vs cs/\oH fz (cs++rest).length/\w0.heap=w.heap/\w0.os=w.os/\w0.tape=w.tape/\w0.output=w.output /\
  (execOp a.eval o).run P w=.ok (.value c) (w0.alloc (.cells (cs++rest).toArray e_ fz))/\∀ id,ay (ι.set id ⟨w.heap.size,0,(cs++rest).length⟩) (fun b=>D b\/b=id) (mk id) c
 lt:∀ D:Nat->Prop,dF D env->gI D vs
 ltv:∀ (D:Nat->Prop) id,D id->bK D (mk id)
 aI:∀ id,Ih (mk id)=some id
section
variable {P:Program} {nt:Nat} {o:Oper} {env:Env} {H:af} {X:Cx} {β:Type} {K:Value->af->Option β} {r:β}
theorem NL {a:Addr} {n:Nat} {l:List Value} (h:Qx H a n=some l) (hc:Ql H.length H):gI (aK H.length) l:=by
 obtain ⟨k,hk,h⟩:=Q2 h
 split at h
 .simp at h;subst h
  intro v hv
  exact hc _ (Qt hk) k hk v (List.mem_of_mem_drop (List.mem_of_mem_take hv))
 .simp at h
theorem XT {a:Addr} {n:Nat} {l:List Value} (h:fI H a n=some l) (hc:Ql H.length H):gI (aK H.length) l:=by
 cases n with
 | zero=>simp only [fI,Option.some.injEq] at h;subst h;intro v hv;simp at hv
 | succ m=>exact NL h hc
theorem XU {a:Addr} {v:Value} (h:gx H a=some v) (hc:Ql H.length H):bK (aK H.length) v:=by
 obtain ⟨k,hk,h⟩:=Q2 h
 exact hc _ (Qt hk) k hk v (Zc h)
theorem Qja {t:TypeId} {x:Operand} {v:Value} (ho:o.op=.load t x) (hg:AA P t x=some v):jY P nt o env H v v:=by
 obtain ⟨g,l,i,n,e,rfl,hl,hi,hu,h1,h2,rfl⟩:=XV hg
 refine ⟨by simp only [cT,ho,hg],fun ι D a w G _ hR _=>⟨.agg l.toArray,?_,aZ.bZ (aZ.cq h2 ι D)⟩,fun _ _=>bK.bZ fun v hv=>sP (Z3 h2 v hv) _⟩
 have aT:=run_loadCells_list (P:=P) w (⟨g,0,none⟩:Addr) l (fun j v hv=>hR.gw.cells hl j v hv)
 have mX:(isAgg t).run P w=.ok true w:=by simp [isAgg,run_underlying hu]
 have ex:a.eval (.global g)=.pointer (some ⟨g,0,none⟩):=rfl
 rw [h1] at aT
 simp only [execOp,ho,ex,Instr.loadAt,Instr.sureAddr,loadVar,Sem.run_bind,Sem.run_pure,Result.andThen_ok,mX,if_true,sizeOf,typeInfo,run_program,hi,aT]
theorem XW {t:TypeId} {x:Operand} {p:Addr} {i:TypeInfo} {l:List Value} {d:TypeDesc} (ho:o.op=.load t x) (hx:ev env x=some (.pointer (some p))) (hi:P.info? t=some i) (hu:P.underlying t=some d)
  (hd:(∃ fs,d=.struct fs)\/∃ n e,d=.array n e) (hl:Qx H p i.size=some l):jY P nt o env H (.agg l.toArray) (.agg l.toArray):=by
 have kD:∀ G:af,cT P o.op env G=Q1 (Qx G p i.size) fun l=>some (.agg l.toArray):=by
  intro G
  rcases hd with ⟨fs,rfl⟩ | ⟨n,e,rfl⟩<;>simp only [cT,ho,JQ hx,hx,Q1,eW,hi,hu]
 refine ⟨by rw [kD,hl];rfl,fun ι D a w G hG hR he=>?_,fun he hc=>bK.bZ (NL hl hc)⟩
 rw [kD] at hG
 obtain ⟨l',jv,e⟩:=Q2 hG
 simp at e;subst e
 obtain ⟨cs,h1,h2,h3,h4⟩:=hR.we jv
 have aT:=run_loadCells_list (P:=P) w (ι.addr p) cs h3
 refine ⟨.agg cs.toArray,?_,aZ.bZ h2⟩
 have ex:=(Qe he hx).dy.1
 have mX:(isAgg t).run P w=.ok true w:=by
  rcases hd with ⟨fs,rfl⟩ | ⟨n,e,rfl⟩<;>simp [isAgg,run_underlying hu]
 rw [h1] at aT
 simp only [execOp,ho,ex,Instr.loadAt,Instr.sureAddr,loadVar,Sem.run_bind,Sem.run_pure,Result.andThen_ok,mX,if_true,sizeOf,typeInfo,run_program,hi,aT]
theorem Qob {t:TypeId} {x:Operand} {p:Addr} {i:TypeInfo} {u:Value} {d:TypeDesc} (ho:o.op=.load t x) (hx:ev env x=some (.pointer (some p))) (hi:P.info? t=some i) (hu:P.underlying t=some d)
  (hd:(∀ fs,d≠.struct fs)/\∀ n e,d≠.array n e) (hl:gx H p=some u):jY P nt o env H u u:=by
 have kD:∀ G:af,cT P o.op env G=gx G p:=by
  intro G
  simp only [cT,ho,JQ hx,hx,Q1,eW,hi,hu]
  cases d<;>first | rfl | exact absurd rfl (hd.1 _) | exact absurd rfl (hd.2 _ _)
 refine ⟨by rw [kD,hl],fun ι D a w G hG hR he=>?_,fun he hc=>XU hl hc⟩
 rw [kD] at hG
 obtain ⟨c,h1,h2,h3⟩:=hR.load hG
 refine ⟨c,?_,h2⟩
 have ex:=(Qe he hx).dy.1
 have mX:(isAgg t).run P w=.ok false w:=by
  simp only [isAgg,Sem.run_bind,run_underlying hu,Result.andThen_ok]
  cases d<;>first | rfl | exact absurd rfl (hd.1 _) | exact absurd rfl (hd.2 _ _)
 simp only [execOp,ho,ex,Instr.loadAt,Instr.sureAddr,loadVar,Sem.run_bind,Sem.run_pure,Result.andThen_ok,mX,Bool.false_eq_true,if_false,run_load,h1]
theorem NM {ι:Io} {D:Nat->Prop} {w:World} (hR:Rel ι D H w) {size:Nat} {a:Option Addr} {n m:Nat} {l:List Value} (hl:Qf H size (.slice a n m)=some l) {c:Value} (hc:ay ι D (.slice a n m) c) :
  ∃ cs:List Value,cs.length=n*size/\aZ ι D l cs/\(∀ v∈l,az v=true)/\(Builtin.firstCells size n c).run P w=.ok cs.toArray w/\∃ a' cap,c=.slice a' n cap/\(a'=none->n=0):=by
 unfold Qf at hl
 split at hl
 .rename_i h;simp at h;obtain ⟨rfl,rfl,rfl⟩:=h
  simp at hl;subst hl
  cases hc
  exact ⟨[],by simp,aZ.nil ι D,by simp,by simp [Builtin.firstCells],none,0,rfl,fun _=>rfl⟩
 .rename_i p n' m' h;simp at h;obtain ⟨rfl,rfl,rfl⟩:=h
  obtain ⟨cs,h1,h2,h3,h4⟩:=hR.C3 hl
  cases hc with
  | eZ _ _ _ cap hD Ay kB =>
   have aT:=run_loadCells_list (P:=P) w (ι.addr p) cs h3
   rw [h1] at aT
   exact ⟨cs,h1,h2,h4,by simp only [Builtin.firstCells];exact aT,_,cap,rfl,by simp⟩
  | bD _ b _ hD =>
   have e:cs=[]:=Z1 (by simpa using h1)
   subst e
   exact ⟨[],by simp,h2,h4,by simp [Builtin.firstCells,loadCells,loadCellsFrom],_,0,rfl,by simp⟩
 .simp at hl
theorem Qe9 {size:Nat} {v:Value} {l:List Value} (hl:Qf H size v=some l) (hc:Ql H.length H):gI (aK H.length) l:=by
 unfold Qf at hl
 split at hl
 .simp at hl;subst hl;intro v hv;simp at hv
 .exact XT hl hc
 .simp at hl
theorem XX:∀ {l:List Value} {bs:List UInt8},C4 l=some bs->∃ ns:List Int,l=ns.map (Value.int .u8)/\bs=ns.map fun n=>UInt8.ofNat n.toNat
 | [],bs,h=>by simp [C4] at h;subst h;exact ⟨[],rfl,rfl⟩
 | c::cs,bs,h=>by
  unfold C4 at h
  split at h
  .simp at *
  .rename_i n r heq
   simp at heq
   obtain ⟨rfl,rfl⟩:=heq
   obtain ⟨l,hl,h⟩:=Q2 h
   simp at h;subst h
   obtain ⟨ns,e1,e2⟩:=XX hl
   exact ⟨n::ns,by simp [e1],by simp [e2]⟩
  .simp at h
theorem Qml (ns:List Int):∀ s:ByteArray,ns.foldl (fun r n=>r.push (UInt8.ofNat n.toNat)) s=⟨(s.data.toList++ns.map fun n=>UInt8.ofNat n.toNat).toArray⟩:=by
 induction ns with
 | nil=>intro s;simp
 | cons n ns ih =>
  intro s
  rw [List.foldl_cons,ih]
  simp [ByteArray.push]
theorem XY {ι:Io} {D:Nat->Prop}:∀ {ns:List Int} {cs:List Value},aZ ι D (ns.map (Value.int .u8)) cs->cs=ns.map (Value.int .u8)
 | [],cs,h=>by
  have:=h.1;simp at this;exact Z1 this.symm
 | n::ns,[],h=>absurd h.1 (by simp)
 | n::ns,c::cs,h=>by
  rw [h.head.aL,XY (ns:=ns) h.tail];rfl
theorem Qcn {src dst e:TypeId} {x:Operand} {a:Option Addr} {n m:Nat} {l:List Value} {bs:List UInt8} (ho:o.op=.convert src dst x) (hx:ev env x=some (.slice a n m)) (h1:P.underlying src=some (.slice e)) (h2:P.underlying dst=some .string)
  (h3:P.underlying e=some (.int .u8)) (hl:Qf H 1 (.slice a n m)=some l) (hb:C4 l=some bs):jY P nt o env H (.agg l.toArray) (.string ⟨bs.toArray⟩):=by
 have kD:∀ G:af,cT P o.op env G=Q1 (Qf G 1 (.slice a n m)) fun l=>some (.agg l.toArray):=by
  intro G;simp only [cT,ho,hx,Q1]
 refine ⟨by rw [kD,hl];rfl,fun ι D act w G hG hR he=>⟨.string ⟨bs.toArray⟩,?_,.str _⟩,fun _ _=>.str _⟩
 rw [kD] at hG
 obtain ⟨l',jv,e'⟩:=Q2 hG
 simp at e';subst e'
 obtain ⟨ns,e1,e2⟩:=XX hb
 obtain ⟨cs,g1,g2,g3,g4,a',cap,g5,g6⟩:=NM (P:=P) hR jv (Qe he hx)
 rw [e1] at g2
 have cB:=XY g2
 subst cB
 have aT:(Conv.bytesToString (.slice a' n cap)).run P w=.ok (.string ⟨bs.toArray⟩) w:=by
  cases a' with
  | none =>
   have hn:=g6 rfl
   subst hn
   have:ns=[]:=by simpa using g1
   subst this
   simp at e2;subst e2
   rfl
  | some q =>
   rw [g5] at g4
   simp only [Builtin.firstCells,Nat.mul_one] at g4
   rw [run_bytesToString w q n cap ns g4,Qml,e2]
   rfl
 simp only [execOp,ho,g5,Sem.run_bind,run_convert_bytes_string w src dst e a' n cap h1 h3 h2,aT,Result.andThen_ok,Sem.run_pure]
theorem XZ {ι:Io} {D:Nat->Prop} {k sz:Nat} (id:Nat):ay (ι.set id ⟨k,0,sz⟩) (fun b=>D b\/b=id) (.pointer (some ⟨id,0,none⟩)) (.pointer (some ⟨k,0,none⟩)):=by
 have:=ay.ptr (ι:=ι.set id ⟨k,0,sz⟩) (D:=fun b=>D b\/b=id) ⟨id,0,none⟩ (.inr rfl)
 simp only [Io.addr,Io.aB] at this
 exact this
theorem JR {ι:Io} {D:Nat->Prop} {k sz n c cap:Nat} (id:Nat) (hl:n<=cap) (hc:cap*c<=sz):ay (ι.set id ⟨k,0,sz⟩) (fun b=>D b\/b=id) (.slice (some ⟨id,0,none⟩) n c) (.slice (some ⟨k,0,none⟩) n cap):=by
 have:=ay.eZ (ι:=ι.set id ⟨k,0,sz⟩) (D:=fun b=>D b\/b=id) ⟨id,0,none⟩ n c cap (.inr rfl) hl (by simp only [Io.aB];omega)
 simp only [Io.addr,Io.aB] at this
 exact this
theorem Qjb {t:TypeId} {z:Value} (ho:o.op=.alloc t) (hz:Az P t=some z) (hl:z.cells.toList.all Qu=true):fO P nt o env z.cells.toList fun id=>.pointer (some ⟨id,0,none⟩):=by
 refine ⟨fun v hv=>Ii (Z3 hl v hv),fun ι D a w he=>⟨z.cells.toList,[],t,(0,0),w,.pointer (some ⟨w.heap.size,0,none⟩),aZ.cq hl ι D,oH.zero _,rfl,rfl,rfl,rfl,?_,fun id=>XZ id⟩,
  fun D _ v hv=>sP (Z3 hl v hv) D,fun D id h=>.ptr _ h,fun id=>rfl⟩
 obtain ⟨i,hi,aX⟩:=Q2 hz
 simp only [execOp,ho,Instr.alloc,zeroValue,typeInfo,newVar,newRow,Sem.run_bind,run_program,Result.andThen_ok,hi,Sem.run_pure,aX,run_newObj,List.append_nil,Array.toArray_toList]
 rfl
theorem Qod {t:TypeId} {x:Operand} {v:Value} (ho:o.op=.box t x) (hx:ev env x=some v) (hl:v.cells.toList.all az=true):fO P nt o env v.cells.toList fun id=>.pointer (some ⟨id,0,none⟩):=by
 refine ⟨fun u hu=>Z3 hl u hu,fun ι D a w he=>⟨(a.eval x).cells.toList,[],t,(0,0),w,.pointer (some ⟨w.heap.size,0,none⟩),(Qe he hx).cells,oH.zero _,rfl,rfl,rfl,rfl,?_,fun id=>XZ id⟩,
  fun D he=>(mW he hx).cells,fun D id h=>.ptr _ h,fun id=>rfl⟩
 simp only [execOp,ho,Instr.box,newVar,newRow,Sem.run_bind,Result.andThen_ok,Sem.run_pure,run_newObj,List.append_nil,Array.toArray_toList]
 rfl
theorem range_add (a b:Nat):List.range (a+b)=List.range a++(List.range b).map (a + ·):=List.range_add
theorem JS (z:Array Value):∀ n:Nat,((Array.range (n*z.size)).map fun i=>z[i % z.size]!).toList=(List.replicate n z.toList).flatten:=by
 intro n
 simp only [Array.toList_map,Array.toList_range]
 induction n with
 | zero=>simp
 | succ n ih =>
  rw [List.replicate_succ,Ze,<- ih,show (n+1)*z.size=z.size+n*z.size by rw [Nat.add_mul];omega,List.range_add,List.map_append,List.map_map]
  congr 1
  .apply List.ext_getElem
   .simp
   .intro i h1 h2
    simp only [List.length_map,List.length_range] at h1
    simp [Nat.mod_eq_of_lt h1,getElem!_pos z i h1]
  .apply List.map_congr_left
   intro i _
   simp
theorem Bl {z:List Value} {p:Value->Bool} (h:z.all p=true) (n:Nat):(List.replicate n z).flatten.all p=true:=by
 rw [List.all_eq_true] at h ⊢
 intro v hv
 obtain ⟨l,hl,hv⟩:=List.mem_flatten.1 hv
 rw [(List.mem_replicate.1 hl).2] at hv
 exact h v hv
theorem Ij {t e:TypeId} {size bytes:Nat} {z:Value} (h:oI P t=some (e,size,bytes,z)) :
  ∃ i,P.underlying t=some (.slice e)/\P.info? e=some i/\i.size=size/\i.bytes=bytes/\i.zero=some z/\z.cells.toList.all Qu=true/\z.cells.size=size/\1<=bytes:=by
 unfold oI at h
 split at h
 .rename_i e' hu
  obtain ⟨i,hi,h⟩:=Q2 h
  obtain ⟨z',hz,h⟩:=Q2 h
  split at h
  .rename_i g1 g2 g3
   simp at h
   obtain ⟨rfl,rfl,rfl,rfl⟩:=h
   exact ⟨i,hu,hi,rfl,rfl,hz,g1,Z7 g2,Zi g3⟩
  .simp at h
 .simp at h
theorem Qa7 {t e:TypeId} {len size bytes:Nat} {parts:Array (Nat×Operand)} {ps:List (Nat×Value)} {z:Value} {cs:Array Value} (ho:o.op=.buildSlice t len parts) (hp:og env parts.toList=some ps) (gz:oI P t=some (e,size,bytes,z))
  (h1:Nat.ble (len*size) 16777216=true) (hf:Instr.fill (fun i=>some (i*size,size)) ((List.replicate len z.cells.toList).flatten.toArray) ps=some cs) (hc:cs.toList.all az=true) (hlen:cs.size=len*size) :
  fO P nt o env cs.toList fun id=>.slice (some ⟨id,0,none⟩) len size:=by
 obtain ⟨i,hu,hi,rfl,rfl,hz,h2,h3,fW⟩:=Ij gz
 have h1:=Zi h1
 refine ⟨fun u hu=>Z3 hc u hu,fun ι D a w he=>?_,fun D he=>QC _ _ _ cs (QA he hp) (fun v hv=>sP (Z3 (Bl h2 len) v (by simpa using hv)) D) hf,fun D id h=>.sl _ _ _ h,fun id=>rfl⟩
 obtain ⟨sO,g1,g2⟩:=QB (ι:=ι) (D:=D) _ _ _ _ ((List.replicate len z.cells.toList).flatten.toArray) cs (P_ he hp) (aZ.cq (by simpa using Bl h2 len) ι D) hf
 have jv:sO.size=len*i.size:=by have:=g2.1;simp at this;omega
 refine ⟨sO.toList,[],e,(0,0),w,.slice (some ⟨w.heap.size,0,none⟩) len len,g2,oH.zero _,rfl,rfl,rfl,rfl,?_,fun id=>JR id (Zd _) (by simp;omega)⟩
 have eG:¬ (len*i.size > 2 ^ 24):=by omega
 have wg:(parts.map fun (x:Nat×Operand)=>(x.fst,a.eval x.snd)).toList=parts.toList.map fun (i,x)=>(i,a.eval x):=by simp
 by_cases h0:len*i.size=0
 .have iQ:((Array.range (len*i.size)).map ((#[]:Array Value)[· % (#[]:Array Value).size]!))=(List.replicate len z.cells.toList).flatten.toArray:=by
   apply Array.ext'
   have:=JS z.cells len
   rw [h3,h0] at this
   rw [<- this,h0];simp
  simp only [execOp,ho,Instr.buildSlice,Sem.run_bind,run_underlying hu,Result.andThen_ok,sizeOf,typeInfo,run_program,hi,Sem.run_pure,if_neg eG,if_pos h0,iQ,wg,g1,newRow,run_newObj,List.append_nil,Array.toArray_toList]
  rfl
 .have iQ:((Array.range (len*i.size)).map (z.cells[· % z.cells.size]!))=(List.replicate len z.cells.toList).flatten.toArray:=by
   apply Array.ext'
   have:=JS z.cells len
   rw [h3] at this
   rw [h3]
   simpa using this
  simp only [execOp,ho,Instr.buildSlice,Sem.run_bind,run_underlying hu,Result.andThen_ok,sizeOf,typeInfo,run_program,hi,Sem.run_pure,if_neg eG,if_neg h0,zeroValue,hz,iQ,wg,g1,newRow,run_newObj,List.append_nil,Array.toArray_toList]
  rfl
theorem QD (n:Nat) (h:n<=9223372036854775807):IntKind.i64.wrap (n:Int)=n:=by rw [IntKind.wrap_i64];omega
theorem Qau {t e:TypeId} {l c:Operand} {n m size bytes:Nat} {z:Value} (ho:o.op=.makeSlice t l c) (hl:ev env l=some (.int .i64 (n:Int))) (hc:ev env c=some (.int .i64 (m:Int))) (gz:oI P t=some (e,size,bytes,z))
  (h1:n<=m) (h2:m*bytes<=Q7) :
  fO P nt o env (List.replicate n z.cells.toList).flatten fun id=>.slice (some ⟨id,0,none⟩) n size:=by
 obtain ⟨i,hu,hi,rfl,rfl,hz,h4,h5,fW⟩:=Ij gz
 have h3:m<=9223372036854775807:=by
  have e1:m*1<=m*i.bytes:=Nat.mul_le_mul_left m fW
  have e2:m*i.bytes<=140737488355328:=h2
  omega
 refine ⟨fun u hu=>Ii (Z3 (Bl h4 n) u hu),fun ι D a w he=>?_,fun D he v hv=>sP (Z3 (Bl h4 n) v hv) D,fun D id h=>.sl _ _ _ h,fun id=>rfl⟩
 have wh:(List.replicate n z.cells.toList).flatten++(List.replicate (m - n) z.cells.toList).flatten=(List.replicate m z.cells.toList).flatten:=by
  rw [<- List.flatten_append,<- List.replicate_append_replicate.symm]
  congr 2
  omega
 have hlen:((List.replicate n z.cells.toList).flatten++(List.replicate (m - n) z.cells.toList).flatten).length=m*i.size:=by
  rw [wh];simp [h5]
 refine ⟨(List.replicate n z.cells.toList).flatten,(List.replicate (m - n) z.cells.toList).flatten,e,(0,0),w,.slice (some ⟨w.heap.size,0,none⟩) n m,aZ.cq (Bl h4 n) ι D,oH.zero _,rfl,rfl,rfl,rfl,?_,
  fun id=>JR id h1 (by rw [hlen];exact Zd _)⟩
 have e1:=(Qe he hl).aL
 have e2:=(Qe he hc).aL
 have w1:=QD n (by omega)
 have w2:=QD m h3
 have bh:¬ ((i.bytes:Int)*(m:Int) > 2 ^ 48):=by
  have:m*i.bytes<=140737488355328:=h2
  have e:((i.bytes:Int)*(m:Int))=((m*i.bytes:Nat):Int):=by push_cast;rw [Int.mul_comm]
  rw [e];omega
 have cU:¬ ((((decide ((m:Int) < 0) || decide ((i.bytes:Int)*(m:Int) > 2 ^ 48)) || decide ((n:Int) < 0)) || decide ((n:Int) > (m:Int)))=true):=by
  simp only [Bool.or_eq_true,Zj,not_or]
  exact ⟨⟨⟨by omega,bh⟩,by omega⟩,by omega⟩
 rw [wh]
 have X4:(m:Int).toNat=m:=by omega
 have JT:(n:Int).toNat=n:=by omega
 by_cases h0:m*i.size=0
 .have iQ:((Array.range (m*i.size)).map ((#[]:Array Value)[· % (#[]:Array Value).size]!))=(List.replicate m z.cells.toList).flatten.toArray:=by
   apply Array.ext'
   have:=JS z.cells m
   rw [h5,h0] at this
   rw [<- this,h0];simp
  simp only [execOp,ho,e1,e2,Instr.makeSlice,asInt,asIntOf,Sem.run_bind,run_underlying hu,Result.andThen_ok,sizeOf,typeInfo,run_program,hi,Sem.run_pure,w1,w2,if_neg cU,run_askRoom,X4,JT,if_pos h0,iQ,newRow,run_newObj]
  rfl
 .have iQ:((Array.range (m*i.size)).map (z.cells[· % z.cells.size]!))=(List.replicate m z.cells.toList).flatten.toArray:=by
   apply Array.ext'
   have:=JS z.cells m
   rw [h5] at this
   rw [h5]
   simpa using this
  simp only [execOp,ho,e1,e2,Instr.makeSlice,asInt,asIntOf,Sem.run_bind,run_underlying hu,Result.andThen_ok,sizeOf,typeInfo,run_program,hi,Sem.run_pure,w1,w2,if_neg cU,run_askRoom,X4,JT,if_neg h0,zeroValue,hz,iQ,newRow,run_newObj]
  rfl
theorem C5 (s:ByteArray):(byteCells s).all Qu=true:=by
 rw [List.all_eq_true]
 intro v hv
 obtain ⟨b,_,rfl⟩:=List.mem_map.1 hv
 rfl
theorem Qmm (w:World) (arr:Array Value) (e:TypeId):(w.alloc (.cells arr e)).freeze ⟨w.heap.size,arr.size,none⟩ 1=w.alloc (.cells arr e (arr.size,arr.size+1)):=by
 unfold World.freeze World.alloc
 simp only [Nat.one_ne_zero,if_false]
 congr 1
 apply Array.ext
 .simp
 .intro k h1 h2
  rw [Array.getElem_modify]
  by_cases hk:w.heap.size=k
  .subst hk;simp
  .rw [if_neg hk]
   simp only [Array.size_push] at h2
   rw [Array.getElem_push_lt (by omega),Array.getElem_push_lt (by omega)]
theorem Qeb {src dst e:TypeId} {x:Operand} {s:ByteArray} (ho:o.op=.convert src dst x) (hx:ev env x=some (.string s)) (h1:P.underlying src=some .string) (h2:P.underlying dst=some (.slice e)) (h3:P.underlying e=some (.int .u8)) :
  fO P nt o env (s.data.toList.map fun b=>.int .u8 b.toNat) fun id=>.slice (some ⟨id,0,none⟩) s.size 1:=by
 have hb:(s.data.toList.map fun b=>Value.int .u8 b.toNat)=byteCells s:=rfl
 rw [hb]
 refine ⟨fun u hu=>Ii (Z3 (C5 s) u hu),fun ι D a w he=>?_,fun D he v hv=>sP (Z3 (C5 s) v hv) D,fun D id h=>.sl _ _ _ h,fun id=>rfl⟩
 let cap:=(Question.appendCap s.size 0 e).cut (w.tape w.drawn (.appendCap s.size 0 e))
 have kB:s.size<=cap:=by simp [cap,Question.cut]
 have hlen:(byteCells s++List.replicate (cap - s.size) (Value.int .u8 0)).length=cap:=by
  rw [Zf,byteCells_length,List.length_replicate];omega
 refine ⟨byteCells s,List.replicate (cap - s.size) (.int .u8 0),e,(cap,cap+1),w.drew,.slice (some ⟨w.heap.size,0,none⟩) s.size cap,aZ.cq (C5 s) ι D,by rw [hlen];exact oH.behind _ _,rfl,rfl,rfl,rfl,?_,
  fun id=>JR id kB (by rw [hlen];omega)⟩
 have jJ:(s.data.map fun b=>Value.int .u8 b.toNat)++Array.replicate (cap - s.size) (.int .u8 0)=(byteCells s++List.replicate (cap - s.size) (Value.int .u8 0)).toArray:=by
  apply Array.ext';simp [byteCells]
 have qR:=Qmm w.drew (byteCells s++List.replicate (cap - s.size) (Value.int .u8 0)).toArray e
 have bf:(byteCells s++List.replicate (cap - s.size) (Value.int .u8 0)).toArray.size=cap:=by simpa using hlen
 rw [bf] at qR
 have dQ:=X5 w.drew (byteCells s++List.replicate (cap - s.size) (Value.int .u8 0)).toArray e (0,0)
 rw [bf] at dQ
 have JU:(convert src dst (.string s)).run P w=(Conv.stringToBytes e s).run P w:=by
  simp [convert,run_underlying h1,run_underlying h2,run_underlying h3]
 have aT:(Conv.stringToBytes e s).run P w=.ok (.slice (some ⟨w.heap.size,0,none⟩) s.size cap) (w.drew.alloc (.cells (byteCells s++List.replicate (cap - s.size) (Value.int .u8 0)).toArray e (cap,cap+1))):=by
  rw [<- qR]
  simp only [Conv.stringToBytes,Sem.run_bind,run_choose,Question.forced,Bool.false_eq_true,if_false,Result.andThen_ok,newRow,run_newObj,Sem.run_pure]
  rw [show (Question.appendCap s.size 0 e).cut (w.tape w.drawn (.appendCap s.size 0 e))=cap from rfl,jJ]
  show ((markStringish ⟨w.drew.heap.size,0,none⟩).run P (w.drew.alloc (.cells (byteCells s++List.replicate (cap - s.size) (Value.int .u8 0)).toArray e))).andThen (fun _ w'=>Result.ok (Value.slice (some ⟨w.heap.size,0,none⟩) s.size cap) w')=_
  simp only [markStringish,Sem.run_bind,run_shape,Result.andThen_ok,dQ,run_freeze]
 simp only [execOp,ho,(Qe he hx).bO,Sem.run_bind,JU,aT,Result.andThen_ok,Sem.run_pure]
end
structure iR (P:Program) (nt ai:Nat) (o:Oper) (env:Env) (H:af) (v:Value) (H':af):Prop where
 lt:dF (aK H.length) env->Ql H.length H->bK (aK H'.length) v
 ab:dF (aK H.length) env->Ql H.length H->Ab ai H H'
 run:∀ (ι:Io) (a:Act) (w:World),Rel ι (aK H.length) H w->bt ι (aK H.length) nt env a->∀ (next:Act->World->Prop) (Q:Exit->Act->World->Prop),
  (∀ ι' w' c,Rel ι' (aK H'.length) H' w'->ay ι' (aK H'.length) v c->Fr ι H w ι' H' w'->next (a.put o.dst c) w')->o.wp P a w next Q
structure gZ (P:Program) (f:FuncId) (args:List Value) (ai:Nat) (H:af) (v:Value) (H':af):Prop where
 lt:gI (aK H.length) args->Ql H.length H->bK (aK H'.length) v
 ab:gI (aK H.length) args->Ql H.length H->Ab ai H H'
 enter:∀ (bR:Array Value) (w:World),(callFunc f bR).run P w=.ok (.enter f bR) w
 run:∀ (ι:Io) (w:World) (bR:Array Value),Rel ι (aK H.length) H w->aZ ι (aK H.length) args bR.toList ->
  Calls P f bR w fun e w'=>∃ ι' c,e=.returned c/\Rel ι' (aK H'.length) H' w'/\ay ι' (aK H'.length) v c/\Fr ι H w ι' H' w'
def oJ (P:Program) (call:FuncId->List Value->Nat->af->Option (Value×af)):Prop :=
 ∀ f args ai H v H',call f args ai H=some (v,H')->gZ P f args ai H v H'
section
variable {P:Program} {nt ai:Nat} {o:Oper} {env:Env} {H H':af} {X:Cx} {β:Type} {K:Value->af->Option β} {r:β}
theorem oK {a:Act} {w w':World} {c:Value} {next:Act->World->Prop} {Q:Exit->Act->World->Prop} (h:(execOp a.eval o).run P w=.ok (.value c) w') (hn:next (a.put o.dst c) w'):o.wp P a w next Q:=by
 unfold Oper.wp;rw [h];exact hn
theorem Ik (ι:Io) (D:Nat->Prop):ay ι D undef undef:=.tuple [] [] rfl fun i h1=>absurd h1 (by simp)
theorem JV (D:Nat->Prop):bK D undef:=(Ik (fun _=>⟨0,0,0⟩) D).lt
theorem Qoe {t:TypeId} {x y:Operand} {p:Addr} {u:Value} {i:TypeInfo} (ho:o.op=.store t x y) (hx:ev env x=some (.pointer (some p))) (hy:ev env y=some u) (hi:P.info? t=some i) (hs:Nat.beq u.cells.size i.size=true)
  (hh:oL H ai p u.cells.toList=some H'):iR P nt ai o env H undef H':=by
 refine ⟨fun _ _=>JV _,fun he _=>X6 hh (mW he hy).cells,fun ι a w hR he next Q hn=>?_⟩
 have ex:=(Qe he hx).dy.1
 have hc:=(Qe he hy).cells
 obtain ⟨h1,h2,h3⟩:=hR.store (P:=P) hh hc
 have hlen:H'.length=H.length:=by
  obtain ⟨k,hk,mA⟩:=Q2 hh
  split at mA
  .simp at mA;subst mA;simp
  .simp at mA
 have bf:¬ ((a.eval y).cells.size≠i.size):=by
  have:=hc.1
  have:=Z7 hs
  simp at *;omega
 have aT:(execOp a.eval o).run P w=.ok .skip (w.setCells (ι p.block).aI ((ι p.block).off+p.off) (a.eval y).cells.toList):=by
  simp only [execOp,ho,ex,Instr.storeAt,Instr.sureAddr,storeVar,Sem.run_bind,Sem.run_pure,Result.andThen_ok,sizeOf,typeInfo,run_program,hi,if_neg bf,h1]
 unfold Oper.wp;rw [aT]
 rw [<- hlen] at h2
 exact hn ι _ undef h2 (Ik _ _) h3
theorem Qru {c:Call} {f:Operand} {g:FuncId} {first cap:Array Value} (ho:o.op=.call c) (hc:c.callee=.value f) {a:Act} {w:World} (hf:a.eval f=.func (.func g) first cap) :
  (execOp a.eval o).run P w=(callFunc g (first++c.args.map a.eval++cap)).run P w:=by
 simp only [execOp,ho,resolve,hc,Deferred.ofValue,hf,invoke,Sem.run_bind,Sem.run_pure,Result.andThen_ok]
theorem Qrv {c:Call} {f:Operand} {g:FuncId} {first cap:Array Value} {vs:List Value} {v:Value} (ho:o.op=.call c) (hc:c.callee=.value f) (hf:ev env f=some (.func (.func g) first cap)) (hv:eT env c.args.toList=some vs)
  (qS:gZ P g (first.toList++vs++cap.toList) ai H v H'):iR P nt ai o env H v H':=by
 have au:dF (aK H.length) env->gI (aK H.length) (first.toList++vs++cap.toList):=by
  intro he u hu
  have h1:=(mW he hf).wj
  simp only [Zh] at hu
  rcases hu with (hu | hu) | hu
  .exact h1.1 u hu
  .exact NO he hv u hu
  .exact h1.2 u hu
 refine ⟨fun he fq=>qS.lt (au he) fq,fun he fq=>qS.ab (au he) fq,fun ι a w hR he next Q hn=>?_⟩
 obtain ⟨QE,aab,e1,h1,h2⟩:=(Qe he hf).mY
 have hargs:=NP he hv
 unfold Oper.wp
 rw [Qru ho hc e1,qS.enter]
 simp only [Oper.upon]
 refine (qS.run ι w _ hR ?_).mono ?_
 .simp only [Array.toList_append,Array.toList_map]
  exact (h1.append hargs).append h2
 .rintro e w' ⟨ι',c',rfl,g1,g2,g3⟩
  exact hn ι' w' c' g1 g2 g3
theorem Fr.drew (ι:Io) (H:af) (w:World):Fr ι H w ι H w.drew:=(Fr.refl ι H w).bz rfl rfl rfl rfl
theorem Qof {ι:Io} {D:Nat->Prop} {w:World} (hR:Rel ι D H w) {size:Nat} {u e':TypeId} (hu:P.underlying u=some (.slice e')) {a:Option Addr} {n m:Nat} {l:List Value} (hl:Qf H size (.slice a n m)=some l) {c:Value} (hc:ay ι D (.slice a n m) c) :
  ∃ cs,aZ ι D l cs/\(∀ v∈l,az v=true)/\Src P size u c n cs w:=by
 obtain ⟨cs,h1,h2,h3,h4,a',cap,h5,h6⟩:=NM (P:=P) hR hl hc
 obtain ⟨cs2,k1,k2,k3,k4,_⟩:=NM (P:=P) (hR.bz (w':=w.drew) rfl) hl hc
 have EZ:∀ x∈cs,x.oneCell'=true:=by
  intro x hx
  obtain ⟨i,hi,e⟩:=List.getElem_of_mem hx
  rw [<- e,QG,(h2.2 i (by have:=h2.1;omega) hi).az]
  exact h3 _ (List.getElem_mem _)
 refine ⟨cs,h2,h3,⟨.inl ⟨e',hu⟩,fun w'=>by rw [h5];rfl,h4,?_,h1,EZ⟩⟩
 rw [h5] at h4 ⊢
 cases a' with
 | none=>simp [Builtin.firstCells] at h4 ⊢;rw [h4]
 | some q =>
  simp only [Builtin.firstCells] at h4 ⊢
  have gA:∀ (k i:Nat) (acc:Array Value),(loadCellsFrom q i k acc).run P w.drew=(match (loadCellsFrom q i k acc).run P w with | .ok v _=>.ok v w.drew | .halt h _=>.halt h w.drew):=by
   intro k
   induction k with
   | zero=>intro i acc;simp [loadCellsFrom]
   | succ k ih =>
    intro i acc
    simp only [loadCellsFrom,Sem.run_bind,run_load]
    have e1:w.drew.cell? (q.add i)=w.cell? (q.add i):=rfl
    have e2:∀ b,w.drew.farLoad P (q.add i) b=w.farLoad P (q.add i) b:=fun b=>rfl
    rw [e1]
    cases bL:w.cell? (q.add i) with
    | some v=>simp only [Result.andThen_ok];exact ih _ _
    | none =>
     simp only
     rw [e2]
     cases aac:w.farLoad P (q.add i) (Mode.plain==Mode.atomic) with
     | ok x=>simp only [Result.andThen_ok];exact ih _ _
     | error h=>rfl
  have:=gA (n*size) 0 #[]
  unfold loadCells at h4 ⊢
  rw [this,h4]
end
structure mZ (P:Program) (t u ty e:TypeId) (i:TypeInfo) (z:Value) (x:Value) (n:Nat) (cs:List Value) (w:World):Prop where
 len:cs.length=n*i.size
 room:∀ b off bC cw:Nat,bC+n<=cw->(∀ j,j < cs.length->(w.cell? ⟨b,off+bC*i.size+j,none⟩).isSome=true)->(∀ j,j < cs.length->w.frozen? ⟨b,off+bC*i.size+j,none⟩=false) ->
  (Builtin.append_ #[t,u] ty #[.slice (some ⟨b,off,none⟩) bC cw,x]).run P w=.ok (.slice (some ⟨b,off,none⟩) (bC+n) cw) (w.setCells b (off+bC*i.size) cs)
 grow:∀ (base:Option Addr) (bC cw:Nat) (olds:List Value),(Builtin.firstCells i.size bC (.slice base bC cw)).run P w.drew=.ok olds.toArray w.drew->cw < bC+n->((bC+n:Nat):Int)<=9223372036854775807 ->
  Builtin.nextslicecap (bC+n) cw*i.bytes<=281474976710656 ->
  (Builtin.append_ #[t,u] ty #[.slice base bC cw,x]).run P w=.ok (.slice (some ⟨w.heap.size,0,none⟩) (bC+n) (grownCap w (bC+n) cw e))
    (w.drew.alloc (.cells ((olds++cs).toArray++Builtin.zeroCells z.cells (grownCap w (bC+n) cw e - (bC+n))) e))
 nothing:n=0->∀ (base:Option Addr) (bC cw:Nat),bC<=cw->(Builtin.append_ #[t,u] ty #[.slice base bC cw,x]).run P w=.ok (.slice base bC cw) w
section
variable {P:Program} {nt ai:Nat} {o:Oper} {env:Env} {H H':af} {X:Cx} {β:Type} {K:Value->af->Option β} {r:β}
theorem mZ.C6 {t u ty e:TypeId} {i:TypeInfo} {z x:Value} {n:Nat} {cs:List Value} {w:World} (ht:P.underlying t=some (.slice e)) (hi:P.info? e=some i) (hz:i.zero=some z) (h:Src P i.size u x n cs w):mZ P t u ty e i z x n cs w:=by
 refine ⟨h.newsLen,fun b off bC cw h1 h2 h3=>run_append_room_src w t u ty e i ht hi b off bC cw x n cs h h1 h2 h3,
  fun base bC cw olds h1 h2 h3 h4=>run_append_grow_src w t u ty e i z ht hi hz base bC cw olds h1 x n cs h h2 h3 h4,fun hn base bC cw hle=>?_⟩
 subst hn
 have:cs=[]:=Z1 (by simpa using h.newsLen)
 subst this
 exact run_append_nothing w t u ty e i ht hi base bC cw hle x h
theorem Qec {z:Value} (h:z.cells.toList.all Qu=true) (n:Nat):∀ v∈(List.replicate n z.cells.toList).flatten,v.oneCell'=true:=by
 intro v hv
 rw [QG]
 exact Ii (Z3 (Bl h n) v hv)
theorem X7 (z:Array Value) (n:Nat):Builtin.zeroCells z n=(List.replicate n z.toList).flatten.toArray:=by
 apply Array.ext'
 have:=JS z n
 simpa [Builtin.zeroCells] using this
theorem mZ.Bm {t u ty e:TypeId} {i:TypeInfo} {z:Value} {k k':IntKind} {n:Nat} {w:World} (ht:P.underlying t=some (.slice e)) (hi:P.info? e=some i) (hz:i.zero=some z) (hu:P.underlying u=some (.int k)) (h1:n*i.bytes<=140737488355328) (hb:1<=i.bytes)
  (h4:z.cells.toList.all Qu=true) (h5:z.cells.size=i.size):mZ P t u ty e i z (.int k' (n:Int)) n (List.replicate n z.cells.toList).flatten w:=by
 have hle:n<=140737488355328:=by
  have:n*1<=n*i.bytes:=Nat.mul_le_mul_left n hb
  omega
 have hw:IntKind.i64.wrap (n:Int)=n:=QD n (by omega)
 have qT:¬ (281474976710656 < (n:Int)*(i.bytes:Int)):=by
  have:((n:Int)*(i.bytes:Int))=((n*i.bytes:Nat):Int):=by push_cast;rfl
  rw [this];omega
 have vq:¬ ((n:Int) < 0):=by omega
 have cB:((List.replicate n z.cells.toList).flatten).length=n*i.size:=by simp [h5]
 refine ⟨cB,fun b off bC cw g1 g2 g3=>?_,fun base bC cw olds g1 g2 g3 g4=>?_,fun hn base bC cw QH=>?_⟩
 .have eO:=run_storeCells_cells (P:=P) b (off+bC*i.size) _ 0 w (by simpa using g2) (by simpa using g3) (Qec h4 n)
  simp only [Nat.add_zero] at eO
  by_cases jK:n*i.size=0
  .have e0:(List.replicate n z.cells.toList).flatten=[]:=Z1 (by rw [cB];exact jK)
   rw [e0] at eO ⊢
   have E0:n=0\/i.size=0:=Nat.mul_eq_zero.1 jK
   simp [Builtin.append_,run_underlying ht,run_underlying hu,sizeOf,typeInfo,hi,asInt,asIntOf,hw,vq,qT,g1,jK,Addr.add_lit,eO]
  .have E0:¬ (n=0\/i.size=0):=fun h=>jK (Nat.mul_eq_zero.2 h)
   simp [Builtin.append_,run_underlying ht,run_underlying hu,sizeOf,typeInfo,hi,asInt,asIntOf,hw,vq,qT,g1,jK,zeroValue,hz,X7,Addr.add_lit,eO]
 .have hn:¬ (bC+n<=cw):=by omega
  have JW:¬ (9223372036854775807 < ((bC:Int)+(n:Int))):=by omega
  have JX:¬ (281474976710656 < Builtin.nextslicecap (bC+n) cw*i.bytes):=by omega
  by_cases jK:n*i.size=0
  .have e0:(List.replicate n z.cells.toList).flatten=[]:=Z1 (by rw [cB];exact jK)
   rw [e0]
   have E0:n=0\/i.size=0:=Nat.mul_eq_zero.1 jK
   simp [Builtin.append_,run_underlying ht,run_underlying hu,sizeOf,typeInfo,hi,asInt,asIntOf,hw,vq,qT,hn,JW,JX,jK,zeroValue,hz,Question.forced,g1,newRow,grownCap]
  .have E0:¬ (n=0\/i.size=0):=fun h=>jK (Nat.mul_eq_zero.2 h)
   simp [Builtin.append_,run_underlying ht,run_underlying hu,sizeOf,typeInfo,hi,asInt,asIntOf,hw,vq,qT,hn,JW,JX,jK,zeroValue,hz,Question.forced,g1,newRow,grownCap,X7]
 .subst hn
  have QI:IntKind.i64.wrap 0=0:=by decide
  cases base<;>simp [QI,Builtin.append_,run_underlying ht,run_underlying hu,sizeOf,typeInfo,hi,asInt,asIntOf,hw,vq,QH,storeCells]
theorem JY {c:Call} {t u:TypeId} {x y:Operand} (ho:o.op=.call c) (hb:c.callee=.builtin .append) (ht:c.argTypes = #[t,u]) (ha:c.args = #[x,y]) (a:Act) (w:World) :
  (execOp a.eval o).run P w=((Builtin.append_ #[t,u] o.type #[a.eval x,a.eval y]).run P w).andThen fun v w'=>.ok (.value v) w':=by
 obtain ⟨cs,cB⟩:=EW (P:=P) ho hb a.eval w
 rw [cB,ht,ha]
 simp [builtin]
theorem QJ {c:Call} {t u e:TypeId} {x y:Operand} {i:TypeInfo} {z s:Value} {news:List Value} {n:Nat} (ho:o.op=.call c) (hb:c.callee=.builtin .append) (ht:c.argTypes = #[t,u]) (ha:c.args = #[x,y])
  (hu:P.underlying t=some (.slice e)) (hi:P.info? e=some i) (hz:i.zero=some z) (Bn:z.cells.size=i.size) (fW:1<=i.bytes) (hx:ev env x=some s)
  (wk:∀ (ι:Io) (a:Act) (w:World),Rel ι (aK H.length) H w->bt ι (aK H.length) nt env a->∃ cs,aZ ι (aK H.length) news cs/\(∀ v∈news,az v=true)/\mZ P t u o.type e i z (a.eval y) n cs w)
  (au:dF (aK H.length) env->Ql H.length H->gI (aK H.length) news) {K:Value->af->Option β} {r:β} (h:Bo i.size i.bytes s news n H K=some r) :
  ∃ v H',K v H'=some r/\iR P nt ai o env H v H':=by
 have wm:∀ k:Nat,k*i.bytes<=Q7->k<=140737488355328:=by
  intro k hk
  have e1:k*1<=k*i.bytes:=Nat.mul_le_mul_left k fW
  have e2:k*i.bytes<=140737488355328:=hk
  omega
 have cx:∀ (w:World) (bC cw:Nat) (cs olds:List Value),olds.length=bC*i.size->cs.length=n*i.size ->
   ((olds++cs).toArray++Builtin.zeroCells z.cells (grownCap w (bC+n) cw e - (bC+n)))=((olds++cs)++(Builtin.zeroCells z.cells (grownCap w (bC+n) cw e - (bC+n))).toList).toArray /\
   grownCap w (bC+n) cw e*i.size<=((olds++cs)++(Builtin.zeroCells z.cells (grownCap w (bC+n) cw e - (bC+n))).toList).length:=by
  intro w bC cw cs olds h1 h2
  refine ⟨by apply Array.ext';simp,?_⟩
  have sQ:=grownCap_ge w (bC+n) cw e
  simp only [Zf,Array.length_toList,size_zeroCells,Bn,h1,h2]
  rw [<- Nat.add_mul,<- Nat.add_mul]
  exact Zk _ (by omega)
 unfold Bo at h
 replace h:=Q2 h;obtain ⟨⟨rv,rh⟩,fZ,h⟩:=h
 replace h:=X8 h;obtain ⟨ra,rn,rc,QK,h⟩:=h
 simp only at QK h
 rw [<- QK] at h
 clear QK
 refine ⟨rv,rh,h,?_⟩
 clear h
 unfold qU at fZ
 split at fZ
 .split at fZ
  .simp at fZ;obtain ⟨rfl,rfl⟩:=fZ
   refine ⟨fun _ _=>.dD,fun _ _=>Ab.refl _ _,fun ι a w hR he next Q hn=>?_⟩
   obtain ⟨cs,h1,bL,h2⟩:=wk ι a w hR he
   have ex:a.eval x=.slice none 0 0:=by
    have:=Qe he hx
    cases hq:a.eval x<;>rw [hq] at this<;>cases this;rfl
   have aT:(execOp a.eval o).run P w=.ok (.value (.slice none 0 0)) w:=by
    rw [JY ho hb ht ha,ex,h2.nothing rfl none 0 0 (Zd _)];rfl
   exact oK aT (hn ι w _ hR .dD (Fr.refl ι H w))
  .rename_i m
   rcases jx fZ with ⟨bh,fZ⟩ | ⟨_,fZ⟩
   .have bh:(m+1)*i.bytes<=Q7:=Zi bh
    simp at fZ;obtain ⟨rfl,rfl⟩:=fZ
    refine ⟨fun _ _=>.sl _ _ _ (by simp [aK,Qy]),fun he hc=>QL _ (au he hc),fun ι a w hR he next Q hn=>?_⟩
    obtain ⟨cs,h1,bL,h2⟩:=wk ι a w hR he
    have ex:a.eval x=.slice none 0 0:=by
     have:=Qe he hx
     cases hq:a.eval x<;>rw [hq] at this<;>cases this;rfl
    have hN:=wm (m+1) bh
    have hg:=h2.grow none 0 0 [] (by simp [Builtin.firstCells]) (by omega) (by omega) (growslice_fits (by omega) (by rw [Zo];exact bh))
    obtain ⟨r1,r2⟩:=cx w 0 0 cs [] (by simp) h2.len
    rw [r1] at hg
    simp only [List.nil_append,Zo] at hg r2
    have aT:(execOp a.eval o).run P w=.ok (.value (.slice (some ⟨w.heap.size,0,none⟩) (m+1) (grownCap w (m+1) 0 e))) (w.drew.alloc (.cells (cs++(Builtin.zeroCells z.cells (grownCap w (m+1) 0 e - (m+1))).toList).toArray e)):=by
     rw [JY ho hb ht ha,ex,hg];rfl
    obtain ⟨g1,g2⟩:=(hR.bz (w':=w.drew) rfl).push h1 bL (Builtin.zeroCells z.cells (grownCap w (m+1) 0 e - (m+1))).toList e (0,0) (oH.zero _)
    refine oK aT (hn _ _ _ g1 ?_ ((Fr.drew ι H w).trans g2))
    rw [Qy]
    exact (JR (ι:=ι) (D:=aK H.length) H.length (by have:=grownCap_ge w (m+1) 0 e;omega) r2).mono (by intro b gJ;simp [aK] at gJ ⊢;omega) fun _ _=>rfl
   .simp at fZ
 .rename_i p len c'
  replace fZ:=Q2 fZ;obtain ⟨k,hk,fZ⟩:=fZ
  rcases jx fZ with ⟨cU,fZ⟩ | ⟨_,fZ⟩
  .simp only [Z8,Bool.not_eq_true'] at cU
   obtain ⟨⟨⟨bn,QM⟩,oM⟩,bh⟩:=cU
   have QM:=Z7 QM
   have QN:=Zi oM
   have bh:(len+n)*i.bytes<=Q7:=Zi bh
   simp at fZ;obtain ⟨rfl,rfl⟩:=fZ
   subst QM
   obtain ⟨kc,kr⟩:=k
   simp only at bn QN;subst bn
   generalize AD:kc.take (p.off+len*i.size)=km at *
   have oM:p.off+len*i.size=km.length:=by rw [<- AD];simp;omega
   have hlen:(H.set p.block none).length=H.length:=by simp
   have m_:(H.set p.block (some ⟨km,false,none⟩)).set p.block none=H.set p.block none:=by simp
   have g_:(H.set p.block (some ⟨km,false,none⟩)).length=H.length:=by simp
   have hN:=wm (len+n) bh
   have QO:(km.drop p.off).length=len*i.size:=by simp;omega
   refine ⟨fun _ _=>.sl _ _ _ (by simp [aK,Qy]),fun he hc=>?_,fun ι a w hR he next Q hn=>?_⟩
   .refine (Qwo ai H p.block).trans (QL _ ?_)
    rw [hlen]
    intro v hv
    rcases List.mem_append.1 hv with hv | hv
    .exact hc _ (Qt hk) _ hk v (List.mem_of_mem_take (by rw [AD];exact List.mem_of_mem_drop hv))
    .exact au he hc v hv
   .obtain ⟨cs,h1,bL,h2⟩:=wk ι a w hR he
    have Ay:cs.length=n*i.size:=h2.len
    obtain ⟨wo,Bp,QS⟩:=hR.JZ hk rfl (p.off+len*i.size)
    simp only [AD] at wo Bp QS
    have QT:=Bp.aI _ _ wo
    have Bq:Rel ι (aK (H.set p.block (some ⟨km,false,none⟩)).length) (H.set p.block (some ⟨km,false,none⟩)) w:=by rw [g_];exact Bp
    have E1:Qf (H.set p.block (some ⟨km,false,none⟩)) i.size (.slice (some p) len i.size)=some (km.drop p.off):=by
     have h0:fI (H.set p.block (some ⟨km,false,none⟩)) p (len*i.size)=Qx (H.set p.block (some ⟨km,false,none⟩)) p (len*i.size):=by
      cases hz:len*i.size with
      | zero =>
       have:Nat.ble (p.off+0) km.length=true:=Nat.ble_eq_true_of_le (by omega)
       simp only [fI,Qx,wo,Q1,this];simp
      | succ m=>rfl
     simp only [Qf,h0,Qx,wo,Q1]
     have:Nat.ble (p.off+len*i.size) km.length=true:=Nat.ble_eq_true_of_le (by omega)
     rw [this]
     simp only [Option.some.injEq]
     rw [Zs (by simp;omega)]
    have C7:∀ (q:Addr) (cap:Nat),a.eval x=.slice (some q) len cap->cap < len+n->o.wp P a w next Q:=by
     intro q cap ex kB
     have hv:=Qe he hx
     rw [ex] at hv
     obtain ⟨olds,o1,o2,o3,o4,_⟩:=NM (P:=P) (Bp.bz (w':=w.drew) rfl) E1 hv
     have hg:=h2.grow (some q) len cap olds o4 kB (by omega) (growslice_fits kB bh)
     obtain ⟨r1,r2⟩:=cx w len cap cs olds o1 Ay
     rw [r1] at hg
     have aT:(execOp a.eval o).run P w=.ok (.value (.slice (some ⟨w.heap.size,0,none⟩) (len+n) (grownCap w (len+n) cap e))) (w.drew.alloc (.cells ((olds++cs)++(Builtin.zeroCells z.cells (grownCap w (len+n) cap e - (len+n))).toList).toArray e)):=by
      rw [JY ho hb ht ha,ex,hg];rfl
     have J0:Rel ι (aK (H.set p.block none).length) (H.set p.block none) w.drew:=by rw [hlen];exact (hR.bz (w':=w.drew) rfl).kill p.block
     have hall:∀ v∈km.drop p.off++news,az v=true:=by
      intro v hv
      rcases List.mem_append.1 hv with hv | hv
      .exact o3 v hv
      .exact bL v hv
     obtain ⟨g1,g2⟩:=J0.push (vs:=km.drop p.off++news) (cs:=olds++cs) (by rw [hlen];exact o2.append h1) hall (Builtin.zeroCells z.cells (grownCap w (len+n) cap e - (len+n))).toList e (0,0) (oH.zero _)
     have qR:Fr ι H w ι (H.set p.block none) w.drew:=⟨by simp,fun _ _=>rfl,rfl,rfl,rfl,Zd _,fun _ _ _=>rfl,fun b aI hb hr=>.inr ⟨b,aI,J1 hb,hr,rfl⟩,fun b aI hb _=>J1 hb⟩
     have iS:(dc (H.set p.block none) (km.drop p.off++news)).length=H.length+1:=by rw [Qy,hlen]
     rw [hlen] at g1 g2
     refine oK aT (hn _ _ _ g1 ?_ (qR.trans g2))
     rw [iS]
     exact (JR (ι:=ι) (D:=aK H.length) H.length (by have:=grownCap_ge w (len+n) cap e;omega) r2).mono (by intro b gJ;simp [aK] at gJ ⊢;omega) fun _ _=>rfl
    have hv:=Qe he hx
    generalize hq:a.eval x=q at hv
    cases hv with
    | eZ _ _ _ cap hD X9 kB =>
     by_cases iT:len+n<=cap
     .have hmul:(len+n)*i.size<=cap*i.size:=Zk _ iT
      have cr:(ι p.block).off+km.length+cs.length<=(ι p.block).size:=by rw [Ay,<- oM];rw [Nat.add_mul] at hmul;omega
      have E2:(ι p.block).off+p.off+len*i.size=(ι p.block).off+km.length:=by omega
      have hr:=h2.room (ι p.block).aI ((ι p.block).off+p.off) len cap iT (fun j hj=>by
       obtain ⟨e_,iU⟩:=QT.shape (by omega)
       exact QU iU (by omega)) (fun j hj=>QT.sR rfl _ (by omega) (by omega))
      rw [E2] at hr
      have aT:(execOp a.eval o).run P w=.ok (.value (.slice (some ⟨(ι p.block).aI,(ι p.block).off+p.off,none⟩) (len+n) cap)) (w.setCells (ι p.block).aI ((ι p.block).off+km.length) cs):=by
       rw [JY ho hb ht ha,hq]
       show ((Builtin.append_ #[t,u] o.type #[.slice (some ⟨(ι p.block).aI,(ι p.block).off+p.off,none⟩) len cap,a.eval y]).run P w).andThen _=_
       rw [hr];rfl
      obtain ⟨g1,g2⟩:=Bq.alias wo rfl (off:=p.off) (by simp only;omega) (by rw [g_];exact h1) bL (by simp only;exact cr)
      simp only [m_,g_] at g1 g2
      replace g2:=QS.trans g2
      have iS:(dc (H.set p.block none) (km.drop p.off++news)).length=H.length+1:=by rw [Qy,hlen]
      rw [<- iS] at g1
      refine oK aT (hn _ _ _ g1 ?_ g2)
      rw [iS]
      have:=ay.eZ (ι:=ι.set H.length ⟨(ι p.block).aI,(ι p.block).off+p.off,(ι p.block).size⟩) (D:=aK (H.length+1)) ⟨H.length,0,none⟩ (len+n) i.size cap (by simp [aK]) iT (by simp only [Io.aB];omega)
      simp only [Io.addr,Io.aB,Nat.add_zero] at this
      exact this
     .exact C7 _ cap hq (by omega)
    | bD _ b _ hD =>
     by_cases vq:n=0
     .subst vq
      have QV:cs=[]:=Z1 (by simpa using Ay)
      subst QV
      have aT:(execOp a.eval o).run P w=.ok (.value (.slice (some b) 0 0)) w:=by
       rw [JY ho hb ht ha,hq,h2.nothing rfl (some b) 0 0 (Zd _)];rfl
      obtain ⟨g1,g2⟩:=Bq.alias wo rfl (off:=p.off) (by simp only;omega) (by rw [g_];exact h1) bL (by simpa using QT.fit)
      simp only [m_,g_] at g1 g2
      replace g2:=QS.trans g2
      have iS:(dc (H.set p.block none) (km.drop p.off++news)).length=H.length+1:=by rw [Qy,hlen]
      rw [<- iS] at g1
      refine oK aT (hn _ _ _ g1 ?_ g2)
      rw [iS]
      exact .bD _ _ _ (by simp [aK])
     .exact C7 b 0 hq (by omega)
  .simp at fZ
 .simp at fZ
end
section
variable {P:Program} {nt ai:Nat} {o:Oper} {env:Env} {H H':af} {X:Cx} {β:Type} {K:Value->af->Option β} {r:β}
theorem X_ {c:Call} {t u:TypeId} {x y:Operand} (ho:o.op=.call c) (hb:c.callee=.builtin .copy) (ht:c.argTypes = #[t,u]) (ha:c.args = #[x,y]) (a:Act) (w:World) :
  (execOp a.eval o).run P w=((Builtin.copy_ #[t,u] o.type #[a.eval x,a.eval y]).run P w).andThen fun v w'=>.ok (.value v) w':=by
 obtain ⟨cs,cB⟩:=EW (P:=P) ho hb a.eval w
 rw [cB,ht,ha]
 simp [builtin]
theorem Qjc {a:Addr} {vs:List Value} (h:oL H ai a vs=some H'):H'.length=H.length:=by
 obtain ⟨k,hk,hx⟩:=Q2 h
 split at hx
 .simp at hx;subst hx;simp
 .simp at hx
theorem QW {c:Call} {t u e:TypeId} {x y:Operand} {i:TypeInfo} {p:Addr} {n m q:Nat} {vs:List Value} (ho:o.op=.call c) (hb:c.callee=.builtin .copy) (ht:c.argTypes = #[t,u]) (ha:c.args = #[x,y])
  (hu:P.underlying t=some (.slice e)) (hi:P.info? e=some i) (hx:ev env x=some (.slice (some p) n m)) (hle:vs.length<=n*i.size)
  (wk:∀ (ι:Io) (a:Act) (w:World),Rel ι (aK H.length) H w->bt ι (aK H.length) nt env a->∃ cs sl,aZ ι (aK H.length) vs cs/\(Builtin.lenOf (a.eval y)).run P w=.ok sl w/\Nat.min sl n=q/\(Builtin.firstCells i.size q (a.eval y)).run P w=.ok cs.toArray w)
  (au:dF (aK H.length) env->Ql H.length H->gI (aK H.length) vs) (hh:oL H ai p vs=some H'):iR P nt ai o env H (.int .i64 q) H':=by
 have hlen:=Qjc hh
 refine ⟨fun _ _=>.int _ _,fun he hc=>X6 hh (au he hc),fun ι a w hR he next Q hn=>?_⟩
 obtain ⟨cs,sl,h1,h2,h3,h4⟩:=wk ι a w hR he
 obtain ⟨g1,g2,g3⟩:=hR.store (P:=P) hh h1
 have hv:=Qe he hx
 have key:∀ (d:Addr) (cap:Nat),a.eval x=.slice (some d) n cap->(storeCells d cs).run P w=.ok () (w.setCells (ι p.block).aI ((ι p.block).off+p.off) cs) ->
   o.wp P a w next Q:=by
  intro d cap ex eO
  have aT:(execOp a.eval o).run P w=.ok (.value (.int .i64 q)) (w.setCells (ι p.block).aI ((ι p.block).off+p.off) cs):=by
   rw [X_ ho hb ht ha,ex]
   simp [Builtin.copy_,run_underlying hu,h2,h3,sizeOf,typeInfo,hi,h4,eO,goInt]
  rw [<- hlen] at g2
  exact oK aT (hn ι _ _ g2 (.int _ _) g3)
 generalize hq:a.eval x=xv at hv
 cases hv with
 | eZ _ _ _ cap hD hl hc=>exact key _ cap hq g1
 | bD _ b _ hD =>
  have QX:vs=[]:=Z1 (by simpa using hle)
  subst QX
  have cB:cs=[]:=Z1 (by have:=h1.1;simpa using this.symm)
  subst cB
  exact key b 0 hq rfl
theorem Ya {c:Call} {t u e:TypeId} {x y:Operand} {i:TypeInfo} {sv:Value} (ho:o.op=.call c) (hb:c.callee=.builtin .copy) (ht:c.argTypes = #[t,u]) (ha:c.args = #[x,y])
  (hu:P.underlying t=some (.slice e)) (hi:P.info? e=some i) (hx:ev env x=some (.slice none 0 0)) (hy:ev env y=some sv) (hs:(∃ a n m,sv=.slice a n m)\/∃ s,sv=.string s):iR P nt ai o env H (.int .i64 0) H:=by
 refine ⟨fun _ _=>.int _ _,fun he hc=>Ab.refl _ _,fun ι a w hR he next Q hn=>?_⟩
 have hv:=Qe he hx
 have hw:=Qe he hy
 have ex:a.eval x=.slice none 0 0:=by
  generalize a.eval x=xv at hv
  cases hv;rfl
 have hl:∃ sl cs,(Builtin.lenOf (a.eval y)).run P w=.ok sl w/\(Builtin.firstCells i.size 0 (a.eval y)).run P w=.ok cs w:=by
  generalize a.eval y=yv at hw
  rcases hs with ⟨p,n,m,rfl⟩ | ⟨s,rfl⟩
  .cases hw with
   | dD=>exact ⟨0,#[],rfl,by simp [Builtin.firstCells]⟩
   | eZ _ _ _ cap hD hl hc=>exact ⟨n,#[],rfl,by simp [Builtin.firstCells,loadCells,loadCellsFrom]⟩
   | bD _ b _ hD=>exact ⟨0,#[],rfl,by simp [Builtin.firstCells,loadCells,loadCellsFrom]⟩
  .cases hw;exact ⟨s.size,_,rfl,rfl⟩
 obtain ⟨sl,cs,h2,h4⟩:=hl
 have aT:(execOp a.eval o).run P w=.ok (.value (.int .i64 0)) w:=by
  rw [X_ ho hb ht ha,ex]
  simp [Builtin.copy_,run_underlying hu,h2,sizeOf,typeInfo,hi,h4,goInt]
 exact oK aT (hn ι _ _ hR (.int _ _) (Fr.refl _ _ _))
def jy (X:Cx) (o:Oper) (env:Env) (H:af) (v:Value) (H':af):Prop :=
 match fX X.P o.op with
 | 0=>H'=H/\bG X.P X.nt o env v
 | 1=>H'=H/\∃ raw,jY X.P X.nt o env H raw v
 | 2=>∃ vs mk,v=mk H.length/\H'=dc H vs/\fO X.P X.nt o env vs mk
 | _=>iR X.P X.nt X.ai o env H v H'
theorem hO {v:Value} (hc:fX X.P o.op=0) (h:bG X.P X.nt o env v):jy X o env H v H:=by unfold jy;rw [hc];exact ⟨rfl,h⟩
theorem J2 {raw v:Value} (hc:fX X.P o.op=1) (h:jY X.P X.nt o env H raw v):jy X o env H v H:=by unfold jy;rw [hc];exact ⟨rfl,raw,h⟩
theorem J3 {vs:List Value} {mk:Nat->Value} (hc:fX X.P o.op=2) (h:fO X.P X.nt o env vs mk):jy X o env H (mk H.length) (dc H vs):=by unfold jy;rw [hc];exact ⟨vs,mk,rfl,rfl,h⟩
theorem AE {v:Value} (hc:fX X.P o.op=3) (h:iR X.P X.nt X.ai o env H v H'):jy X o env H v H':=by unfold jy;rw [hc];exact h
theorem QY {v:Value} {F:Bool->Option β} {r:β} (h:wq v F=some r):∃ b,v=.bool b/\F b=some r:=by
 unfold wq at h;split at h
 .exact ⟨_,rfl,h⟩
 .simp at h
def kE:Builtin->Nat
 | .append=>3
 | .copy=>3
 | _=>0
theorem Qjd {c:Call} {b:Builtin} (aJ:o.op=.call c) (hb:c.callee=.builtin b):fX P o.op=kE b:=by
 rw [aJ]
 obtain ⟨callee,args,ts⟩:=c
 simp only at hb
 subst hb
 cases b<;>rfl
theorem Qef {c:Call} {b:Builtin} {vs:List Value} (aJ:o.op=.call c) (hb:c.callee=.builtin b) (hv:eT env c.args.toList=some vs) (h:oN X.P X.ai b c.argTypes.toList vs H K=some r) :
  ∃ v H',K v H'=some r/\jy X o env H v H':=by
 have cz:=Qjd (P:=X.P) aJ hb
 generalize E3:c.argTypes.toList=ts at h
 unfold oN at h
 split at h
 .rename_i t a n m
  split at h
  .rename_i e hu;exact ⟨_,_,h,hO cz (Qmi aJ hb E3 hv hu)⟩
  .simp at h
 .rename_i t s
  split at h
  .rename_i hu;exact ⟨_,_,h,hO cz (Qj8 aJ hb E3 hv hu)⟩
  .simp at h
 .rename_i t
  split at h
  .rename_i e hu;exact ⟨_,_,h,hO cz (Qj7 aJ hb E3 hv hu)⟩
  .simp at h
 .split at h
  .exact ⟨_,_,h,hO cz (Qrs aJ hb hv)⟩
  .simp at h
 .split at h
  .exact ⟨_,_,h,hO cz (Qrt aJ hb hv)⟩
  .simp at h
 .rename_i t u s x
  replace h:=Q2 h
  obtain ⟨⟨e,size,bytes,z⟩,he,h⟩:=h
  obtain ⟨i,hu,hi,rfl,rfl,hz,E4,Bn,fW⟩:=Ij he
  obtain ⟨p,q,hargs,hp,hq⟩:=Ig hv
  have ht:=NJ E3
  simp only at h
  split at h
  .rename_i e' a n m J4
   replace h:=Q2 h
   obtain ⟨news,C8,h⟩:=h
   obtain ⟨v,H',h1,h2⟩:=QJ (ai:=X.ai) aJ hb ht hargs hu hi hz Bn fW hp (fun ι act w hR hE=>by
    obtain ⟨cs,g1,g2,g3⟩:=Qof (P:=X.P) hR J4 C8 (Qe hE hq)
    exact ⟨cs,g1,g2,mZ.C6 hu hi hz g3⟩) (fun hE hc=>Qe9 C8 hc) h
   exact ⟨v,H',h1,AE cz h2⟩
  .rename_i s' J4
   split at h
   .rename_i C9
    obtain ⟨v,H',h1,h2⟩:=QJ (ai:=X.ai) (nt:=X.nt) (news:=byteCells s') (n:=s'.size) aJ hb ht hargs hu hi hz Bn fW hp (fun ι act w hR hE=>by
     have hs:=Src.ofString (P:=X.P) w J4 s'
     rw [<- C9] at hs
     rw [(Qe hE hq).bO]
     exact ⟨byteCells s',aZ.cq (C5 s') ι _,fun v hv=>Ii (Z3 (C5 s') v hv),mZ.C6 hu hi hz hs⟩) (fun hE hc v hv=>sP (Z3 (C5 s') v hv) _)
     (K:=K) (r:=r) (by rw [C9];exact h)
    exact ⟨v,H',h1,AE cz h2⟩
   .simp at h
  .rename_i k k' l J4
   rcases jx h with ⟨hl,h⟩ | ⟨_,h⟩
   .simp only [Z8,Zj] at hl
    obtain ⟨v7,oh⟩:=hl
    obtain ⟨n,rfl⟩:=Int.eq_ofNat_of_zero_le v7
    simp only [Int.toNat_natCast] at h
    have fY:n*i.bytes<=140737488355328:=by
     have:((n:Int)*(i.bytes:Int))=((n*i.bytes:Nat):Int):=by push_cast;rfl
     rw [this] at oh
     have:Q7=140737488355328:=rfl
     omega
    obtain ⟨v,H',h1,h2⟩:=QJ (ai:=X.ai) (nt:=X.nt) aJ hb ht hargs hu hi hz Bn fW hp (fun ι act w hR hE=>by
     rw [(Qe hE hq).aL]
     exact ⟨_,aZ.cq (Bl E4 n) ι _,fun v hv=>Ii (Z3 (Bl E4 n) v hv),mZ.Bm hu hi hz J4 fY fW E4 Bn⟩) (fun hE hc v hv=>sP (Z3 (Bl E4 n) v hv) _) h
    exact ⟨v,H',h1,AE cz h2⟩
   .simp at h
  .simp at h
 .rename_i t u sa sn sc
  replace h:=Q2 h
  obtain ⟨⟨e,size,bytes,z⟩,he,h⟩:=h
  obtain ⟨i,hu,hi,rfl,rfl,hz,E4,Bn,fW⟩:=Ij he
  obtain ⟨p,q,hargs,hp,hq⟩:=Ig hv
  have ht:=NJ E3
  exact ⟨_,_,h,AE cz (Ya aJ hb ht hargs hu hi hp hq (.inl ⟨_,_,_,rfl⟩))⟩
 .rename_i t u ss
  replace h:=Q2 h
  obtain ⟨⟨e,size,bytes,z⟩,he,h⟩:=h
  obtain ⟨i,hu,hi,rfl,rfl,hz,E4,Bn,fW⟩:=Ij he
  obtain ⟨p,q,hargs,hp,hq⟩:=Ig hv
  have ht:=NJ E3
  exact ⟨_,_,h,AE cz (Ya aJ hb ht hargs hu hi hp hq (.inr ⟨_,rfl⟩))⟩
 .rename_i t u d src
  replace h:=Q2 h
  obtain ⟨⟨e,size,bytes,z⟩,he,h⟩:=h
  obtain ⟨i,hu,hi,rfl,rfl,hz,E4,Bn,fW⟩:=Ij he
  simp only at h
  replace h:=Yb h;obtain ⟨a,n,m,rfl,h⟩:=h
  obtain ⟨p,q,hargs,hp,hq⟩:=Ig hv
  have ht:=NJ E3
  replace h:=Q2 h;obtain ⟨⟨cn,H'⟩,f_,h⟩:=h
  refine ⟨_,_,h,?_⟩
  unfold E5 at f_
  split at f_
  .replace f_:=Q2 f_;obtain ⟨H2,hh,f_⟩:=f_
   simp at f_;obtain ⟨rfl,rfl⟩:=f_
   refine AE cz (QW (q:=0) aJ hb ht hargs hu hi hp (by simp) (fun ι act w hR hE=>⟨[],0,aZ.nil ι _,?_,by simp,?_⟩) (fun _ _ v hv=>by simp at hv) hh)
   .have ex:act.eval q=.slice none 0 0:=by
     have:=Qe hE hq
     cases hw:act.eval q<;>rw [hw] at this<;>cases this;rfl
    rw [ex];rfl
   .have ex:act.eval q=.slice none 0 0:=by
     have:=Qe hE hq
     cases hw:act.eval q<;>rw [hw] at this<;>cases this;rfl
    rw [ex];simp [Builtin.firstCells]
  .rename_i b sl c'
   replace f_:=Q2 f_;obtain ⟨l,hl,f_⟩:=f_
   replace f_:=Q2 f_;obtain ⟨H2,hh,f_⟩:=f_
   simp at f_;obtain ⟨rfl,rfl⟩:=f_
   have hU:l.length=min sl n*i.size:=by
    cases hz:min sl n*i.size with
    | zero=>rw [hz] at hl;simp only [fI,Option.some.injEq] at hl;subst hl;rfl
    | succ mm =>
     rw [hz] at hl
     obtain ⟨k,hk,hx⟩:=Q2 hl
     split at hx
     .rename_i hle;have:=Zi hle;simp at hx;subst hx;simp;omega
     .simp at hx
   refine AE cz (QW (q:=min sl n) aJ hb ht hargs hu hi hp (by rw [hU];exact Zk _ (Nat.min_le_right _ _)) (fun ι act w hR hE=>?_) (fun _ hc=>XT hl hc) hh)
   obtain ⟨cs,g1,g2,g3,g4⟩:=hR.C3 hl
   have gK:=Qe hE hq
   generalize hw:act.eval q=qv at gK
   cases gK with
   | eZ _ _ _ cap hD fY Br =>
    have aT:=run_loadCells_list (P:=X.P) w (ι.addr b) cs g3
    rw [g1] at aT
    exact ⟨cs,sl,g2,rfl,rfl,by simp only [Builtin.firstCells];exact aT⟩
   | bD _ b' _ hD =>
    have:cs=[]:=Z1 (by simpa using g1)
    subst this
    exact ⟨[],0,g2,rfl,rfl,by simp [Builtin.firstCells,loadCells,loadCellsFrom]⟩
  .rename_i s'
   split at f_
   .rename_i C9
    replace f_:=Q2 f_;obtain ⟨H2,hh,f_⟩:=f_
    simp at f_;obtain ⟨rfl,rfl⟩:=f_
    have gJ:(s'.data.toList.map fun b=>Value.int .u8 b.toNat)=byteCells s':=rfl
    rw [gJ] at hh
    refine AE cz (QW (q:=min s'.size n) aJ hb ht hargs hu hi hp (by rw [C9];simp;omega) (fun ι act w hR hE=>⟨(byteCells s').take n,s'.size,?_,?_,rfl,?_⟩) (fun _ _ v hv=>sP (Z3 (C5 s') v (List.mem_of_mem_take hv)) _) hh)
    .refine aZ.cq ?_ ι _
     rw [List.all_eq_true]
     exact fun v hv=>Z3 (C5 s') v (List.mem_of_mem_take hv)
    .rw [(Qe hE hq).bO];rfl
    .rw [(Qe hE hq).bO]
     simp only [Builtin.firstCells,Sem.run_pure,byteCells]
     congr 1
     apply Array.ext'
     have e1:(s'.extract 0 (min s'.size n)).data.toList=s'.data.toList.take (min s'.size n):=by simp [ByteArray.data_extract]
     rw [Array.toList_map,e1,List.map_take]
     have e2:s'.size=(s'.data.toList.map fun b=>Value.int .u8 b.toNat).length:=by simp
     rw [e2,Nat.min_comm,<- List.take_take,List.take_length]
   .simp at f_
  .simp at f_
 .simp at h
theorem QZ (hX:oJ X.P X.call) (h:di X o env H K=some r):∃ v H',K v H'=some r/\jy X o env H v H':=by
 have c0:∀ {op:Op},o.op=op->fX X.P op=0->fX X.P o.op=0:=fun e h=>by rw [e];exact h
 have c1:∀ {op:Op},o.op=op->fX X.P op=1->fX X.P o.op=1:=fun e h=>by rw [e];exact h
 have c2:∀ {op:Op},o.op=op->fX X.P op=2->fX X.P o.op=2:=fun e h=>by rw [e];exact h
 have c3:∀ {op:Op},o.op=op->fX X.P op=3->fX X.P o.op=3:=fun e h=>by rw [e];exact h
 unfold di at h
 split at h
 .rename_i x aJ
  replace h:=Q2 h;obtain ⟨v,hv,h⟩:=h
  exact ⟨v,H,h,hO (c0 aJ rfl) (Qpy aJ hv)⟩
 .rename_i x aJ
  replace h:=Q2 h;obtain ⟨v,hv,h⟩:=h
  exact ⟨v,H,h,hO (c0 aJ rfl) (Qk5 aJ hv)⟩
 .rename_i c a b aJ
  replace h:=Q2 h;obtain ⟨v,hv,h⟩:=h
  replace h:=QY h;obtain ⟨t,rfl,h⟩:=h
  rcases jx h with ⟨rfl,h⟩ | ⟨rfl,h⟩
  .replace h:=Q2 h;obtain ⟨u,hu,h⟩:=h
   exact ⟨u,H,h,hO (c0 aJ rfl) (Yc aJ hv (by simpa using hu))⟩
  .replace h:=Q2 h;obtain ⟨u,hu,h⟩:=h
   exact ⟨u,H,h,hO (c0 aJ rfl) (Yc aJ hv (by simpa using hu))⟩
 .rename_i t aJ
  replace h:=Q2 h;obtain ⟨z,hz,h⟩:=h
  split at h
  .rename_i hl
   exact ⟨_,_,h,J3 (c2 aJ rfl) (Qjb aJ hz hl)⟩
  .simp at h
 .rename_i t x aJ
  replace h:=Q2 h;obtain ⟨v,hv,h⟩:=h
  split at h
  .rename_i hl
   exact ⟨_,_,h,J3 (c2 aJ rfl) (Qod aJ hv hl)⟩
  .simp at h
 .rename_i t parts aJ
  replace h:=Q2 h;obtain ⟨ps,hp,h⟩:=h
  replace h:=Q2 h;obtain ⟨cs,hc,h⟩:=h
  exact ⟨_,_,h,hO (c0 aJ rfl) (Qmk aJ hp hc)⟩
 .rename_i t len parts aJ
  replace h:=Q2 h;obtain ⟨ps,hp,h⟩:=h
  replace h:=Q2 h;obtain ⟨⟨e,size,bytes,z⟩,he,h⟩:=h
  simp only at h
  split at h
  .rename_i h1
   replace h:=Q2 h;obtain ⟨cs,hc,h⟩:=h
   split at h
   .rename_i g1 g2
    exact ⟨_,_,h,J3 (c2 aJ rfl) (Qa7 aJ hp he h1 hc g1 (Z7 g2))⟩
   .simp at h
  .simp at h
 .rename_i t x aJ
  split at h
  .rename_i v hg
   exact ⟨v,H,h,J2 (c1 aJ rfl) (Qja aJ hg)⟩
  replace h:=Q2 h;obtain ⟨v,hv,h⟩:=h
  replace h:=Il h;obtain ⟨p,rfl,h⟩:=h
  replace h:=Q2 h;obtain ⟨i,hi,h⟩:=h
  split at h
  .rename_i fs hu
   replace h:=Q2 h;obtain ⟨l,hl,h⟩:=h
   split at h
   .exact ⟨_,_,J5 h,J2 (c1 aJ rfl) (XW aJ hv hi hu (.inl ⟨_,rfl⟩) hl)⟩
   .simp at h
  .rename_i n e hu
   replace h:=Q2 h;obtain ⟨l,hl,h⟩:=h
   split at h
   .exact ⟨_,_,J5 h,J2 (c1 aJ rfl) (XW aJ hv hi hu (.inr ⟨_,_,rfl⟩) hl)⟩
   .simp at h
  .rename_i d n1 n2 hu
   replace h:=Q2 h;obtain ⟨u,hl,h⟩:=h
   split at h
   .exact ⟨_,_,Q_ h,J2 (c1 aJ rfl) (Qob aJ hv hi hu ⟨fun fs e=>n1 fs (by rw [<- e]),fun n e' e=>n2 n e' (by rw [<- e])⟩ hl)⟩
   .simp at h
  .simp at h
 .rename_i t x y aJ
  replace h:=Q2 h;obtain ⟨v,hv,h⟩:=h
  replace h:=Q2 h;obtain ⟨u,hu,h⟩:=h
  replace h:=Il h;obtain ⟨p,rfl,h⟩:=h
  replace h:=Q2 h;obtain ⟨i,hi,h⟩:=h
  split at h
  .rename_i hs
   replace h:=Q2 h;obtain ⟨H',hh,h⟩:=h
   exact ⟨_,_,h,AE (c3 aJ rfl) (Qoe aJ hv hu hi hs hh)⟩
  .simp at h
 .rename_i x aJ
  replace h:=Q2 h;obtain ⟨v,hv,h⟩:=h
  split at h
  .exact ⟨_,_,h,hO (c0 aJ rfl) (Q8a aJ hv)⟩
  .replace h:=Il h;obtain ⟨p,rfl,h⟩:=h
   exact ⟨_,_,h,hO (c0 aJ rfl) (Q9c aJ hv)⟩
 .rename_i op t x y t' aJ
  replace h:=Q2 h;obtain ⟨v,hv,h⟩:=h
  replace h:=Q2 h;obtain ⟨u,hu,h⟩:=h
  obtain ⟨z,h1,h2⟩:=Qq4 aJ hv hu h
  exact ⟨_,_,h1,hO (c0 aJ rfl) h2⟩
 .rename_i op t x aJ
  replace h:=Q2 h;obtain ⟨v,hv,h⟩:=h
  obtain ⟨z,h1,h2⟩:=NQ h
  exact ⟨_,_,h2,hO (c0 aJ rfl) (Qpz aJ hv h1)⟩
 .rename_i src dst x aJ
  replace h:=Q2 h;obtain ⟨v,hv,h⟩:=h
  unfold Im at h
  split at h
  .rename_i k0 k k' n h1 h2
   exact ⟨_,_,h,hO (c0 aJ (by simp [fX,h1,h2])) (Qg9 aJ hv h1 h2)⟩
  .rename_i s h1 h2
   exact ⟨_,_,h,hO (c0 aJ (by simp [fX,h1,h2])) (Qga aJ hv h1 h2)⟩
  .rename_i e a n c h1 h2
   split at h
   .rename_i h3
    replace h:=Q2 h;obtain ⟨l,hl,h⟩:=h
    replace h:=Q2 h;obtain ⟨bs,hb,h⟩:=h
    exact ⟨_,_,h,J2 (c1 aJ (by simp [fX,h1])) (Qcn aJ hv h1 h2 h3 hl hb)⟩
   .simp at h
  .rename_i e s h1 h2
   split at h
   .rename_i h3
    exact ⟨_,_,h,J3 (c2 aJ (by simp [fX,h1,h2])) (Qeb aJ hv h1 h2 h3)⟩
   .simp at h
  .simp at h
 .rename_i f first cap aJ
  replace h:=Q2 h;obtain ⟨fs,hf,h⟩:=h
  replace h:=Q2 h;obtain ⟨cs,hc,h⟩:=h
  exact ⟨_,_,h,hO (c0 aJ rfl) (Qfa aJ hf hc)⟩
 .rename_i t l c aJ
  replace h:=Q2 h;obtain ⟨v,hv,h⟩:=h
  replace h:=Q2 h;obtain ⟨u,hu,h⟩:=h
  replace h:=Ra h;obtain ⟨n,rfl,h⟩:=h
  replace h:=Ra h;obtain ⟨m,rfl,h⟩:=h
  replace h:=Q2 h;obtain ⟨⟨e,size,bytes,z⟩,he,h⟩:=h
  simp only at h
  rcases jx h with ⟨hc,h⟩ | ⟨_,h⟩
  .simp only [Z8] at hc
   exact ⟨_,_,h,J3 (c2 aJ rfl) (Qau aJ hv hu he (Zi hc.1) (Zi hc.2))⟩
  .simp at h
 .rename_i t x lo hi aJ
  replace h:=Q2 h;obtain ⟨v,hv,h⟩:=h
  split at h
  .rename_i p n c
   split at h
   .rename_i e hu
    replace h:=Q2 h;obtain ⟨i,eS,h⟩:=h
    replace h:=NR h;obtain ⟨hb,h,NS⟩:=h
    replace h:=NR h;obtain ⟨lb,h,NT⟩:=h
    replace h:=Q2 h;obtain ⟨u,C_,h⟩:=h
    replace h:=X8 h;obtain ⟨a',n',c',dn,h⟩:=h
    rw [<- dn] at h
    refine ⟨_,_,h,hO (c0 aJ rfl) ?_⟩
    unfold iH at C_
    split at C_
    .rcases jx C_ with ⟨hc,kG⟩ | ⟨_,kG⟩
     .clear C_
      simp only [Z8] at hc
      obtain ⟨⟨⟨q1,q2⟩,q3⟩,q4⟩:=hc
      have q3:=Z7 q3
      have q4:=Z7 q4
      subst q3;subst q4
      simp only [Option.some.injEq] at kG;rw [<- kG]
      exact Qe5 aJ hv hu eS NS NT (Zi q1) (Zi q2)
     .simp at kG
    .rcases jx C_ with ⟨hc,kG⟩ | ⟨_,kG⟩
     .clear C_
      simp only [Z8] at hc
      obtain ⟨⟨q1,q2⟩,q3⟩:=hc
      have q3:=Z7 q3
      simp only [Option.some.injEq] at kG;rw [<- kG]
      exact Qmh aJ hv hu eS NS NT (Zi q1) (Zi q2) q3
     .simp at kG
   .simp at h
  .rename_i s
   split at h
   .rename_i hu
    replace h:=NR h;obtain ⟨hb,h,NS⟩:=h
    replace h:=NR h;obtain ⟨lb,h,NT⟩:=h
    rcases jx h with ⟨hc,h⟩ | ⟨_,h⟩
    .simp only [Z8] at hc
     exact ⟨_,_,h,hO (c0 aJ rfl) (Qe6 aJ hv hu NS NT (Zi hc.1) (Zi hc.2))⟩
    .simp at h
   .simp at h
  .simp at h
 .rename_i s x f aJ
  replace h:=Q2 h;obtain ⟨v,hv,h⟩:=h
  replace h:=Il h;obtain ⟨p,rfl,h⟩:=h
  split at h
  .rename_i fs hu
   replace h:=Q2 h;obtain ⟨fd,hf,h⟩:=h
   replace h:=Q2 h;obtain ⟨i,hi,h⟩:=h
   split at h
   .rename_i hz
    exact ⟨_,_,h,hO (c0 aJ rfl) (Qcu aJ hv hu hf hi hz)⟩
   .simp at h
  .simp at h
 .rename_i t x f aJ
  replace h:=Q2 h;obtain ⟨v,hv,h⟩:=h
  split at h
  .rename_i cs
   split at h
   .rename_i fs hu
    replace h:=Q2 h;obtain ⟨fd,hf,h⟩:=h
    replace h:=Q2 h;obtain ⟨u,hp,h⟩:=h
    exact ⟨_,_,h,hO (c0 aJ rfl) (Qnd aJ hv hu hf hp)⟩
   .simp at h
  .simp at h
 .rename_i t x ix aJ
  replace h:=Q2 h;obtain ⟨v,hv,h⟩:=h
  replace h:=Q2 h;obtain ⟨j,hj,h⟩:=h
  split at h
  .rename_i e hu
   replace h:=Yb h;obtain ⟨p,n,c,rfl,h⟩:=h
   replace h:=Q2 h;obtain ⟨i,hi,h⟩:=h
   replace h:=NU h;obtain ⟨kd,k,rfl,h⟩:=h
   rcases jx h with ⟨hk,h⟩ | ⟨_,h⟩
   .have hk:k+1<=n:=by simpa [Nat.blt] using hk
    exact ⟨_,_,h,hO (c0 aJ rfl) (Qcv aJ hv hj hu hi hk)⟩
   .simp at h
  .rename_i n e hu
   replace h:=Il h;obtain ⟨p,rfl,h⟩:=h
   replace h:=Q2 h;obtain ⟨i,hi,h⟩:=h
   replace h:=NU h;obtain ⟨kd,k,rfl,h⟩:=h
   rcases jx h with ⟨hk,h⟩ | ⟨_,h⟩
   .have hk:k+1<=n:=by simpa [Nat.blt] using hk
    exact ⟨_,_,h,hO (c0 aJ rfl) (Qfc aJ hv hj hu hi hk)⟩
   .simp at h
  .simp at h
 .rename_i t x ix aJ
  replace h:=Q2 h;obtain ⟨v,hv,h⟩:=h
  replace h:=Q2 h;obtain ⟨j,hj,h⟩:=h
  split at h
  .rename_i s
   split at h
   .rename_i hu
    replace h:=NU h;obtain ⟨kd,k,rfl,h⟩:=h
    replace h:=Q2 h;obtain ⟨b,hb,h⟩:=h
    exact ⟨_,_,h,hO (c0 aJ rfl) (Qne aJ hv hj hu hb)⟩
   .simp at h
  .rename_i cs
   split at h
   .rename_i n e hu
    replace h:=Q2 h;obtain ⟨i,hi,h⟩:=h
    replace h:=NU h;obtain ⟨kd,k,rfl,h⟩:=h
    rcases jx h with ⟨hk,h⟩ | ⟨_,h⟩
    .have hk:k+1<=n:=by simpa [Nat.blt] using hk
     replace h:=Q2 h;obtain ⟨u,hp,h⟩:=h
     exact ⟨_,_,h,hO (c0 aJ rfl) (Qfd aJ hv hj hu hi hk hp)⟩
    .simp at h
   .simp at h
  .simp at h
 .rename_i x i aJ
  replace h:=Q2 h;obtain ⟨v,hv,h⟩:=h
  split at h
  .rename_i vs
   replace h:=Q2 h;obtain ⟨u,hu,h⟩:=h
   exact ⟨_,_,h,hO (c0 aJ rfl) (Qhw aJ hv hu)⟩
  .simp at h
 .rename_i c aJ
  split at h
  .rename_i b hb
   replace h:=Q2 h;obtain ⟨vs,hv,h⟩:=h
   exact Qef aJ hb hv h
  .rename_i f hf
   replace h:=Q2 h;obtain ⟨g,hg,h⟩:=h
   replace h:=Q2 h;obtain ⟨vs,hv,h⟩:=h
   have cz:fX X.P o.op=3:=by
    rw [aJ]
    obtain ⟨callee,args,ts⟩:=c
    simp only at hf
    subst hf
    rfl
   split at h
   .rename_i n first cap
    replace h:=Q2 h;obtain ⟨⟨rv,rh⟩,hr,h⟩:=h
    have hk:K rv rh=some r:=by
     simp only at h
     split at h
     .exact Qt2 h
     .exact h
    exact ⟨_,_,hk,AE cz (Qrv aJ hf hg hv (hX _ _ _ _ _ _ hr))⟩
   .simp at h
  .simp at h
 .simp at h
end
end Go.Ev
open Go.MapKept
namespace Go.Ev
def ML (l:List MapEntry) (es:List (Int×Int)):Prop:=l.map (fun e=>(e.key,e.val))=es.map fun p=>(Value.int .i64 p.1,Value.int .i64 p.2)
theorem Rb (k:Int):∀ (l:List MapEntry) (es:List (Int×Int)) (i:Nat),ML l es ->
  (ez es k=none/\Instr.findNow (.int .i64) (.int .i64 k) l i=some none/\∀ v,gL es k v=es++[(k,v)]) \/
  ∃ j v0 e,ez es k=some v0/\Instr.findNow (.int .i64) (.int .i64 k) l i=some (some (i+j,.int .i64 v0))/\l[j]? = some e/\e.key=.int .i64 k /\
   ∀ v,ML (l.modify j fun e=>{ e with key:=.int .i64 k,val:=.int .i64 v }) (gL es k v)
 | [],es,i,h=>by
  have:es=[]:=by simpa [ML] using h
  subst this
  exact .inl ⟨rfl,rfl,fun v=>rfl⟩
 | e::l,[],i,h=>by simp [ML] at h
 | e::l,(a,u)::es,i,h=>by
  unfold ML at h
  rw [List.map_cons,List.map_cons,List.cons.injEq,Prod.mk.injEq] at h
  obtain ⟨⟨h1,h2⟩,h3⟩:=h
  cases hb:k==a with
  | true =>
   have Rc:k=a:=by simpa using hb
   subst Rc
   refine .inr ⟨0,u,e,by simp [ez],by simp [Instr.findNow,Instr.sameNow,h1,h2],rfl,h1,fun v=>?_⟩
   unfold ML
   simp only [gL,hb]
   simp [h3]
  | false =>
   have hs:Instr.sameNow (.int .i64) (.int .i64 k) e.key=some false:=by simp [Instr.sameNow,h1];simpa using hb
   rcases Rb k l es (i+1) h3 with ⟨g1,g2,g3⟩ | ⟨j,v0,e',g1,g2,g3,g4,g5⟩
   .exact .inl ⟨by simp only [ez,hb,g1],by simp only [Instr.findNow,hs,g2],fun v=>by simp only [gL,hb,g3 v];rfl⟩
   .refine .inr ⟨j+1,v0,e',by simp only [ez,hb,g1],by simp only [Instr.findNow,hs,g2];congr 3;omega,by simpa using g3,g4,fun v=>?_⟩
    have:=g5 v
    unfold ML at this ⊢
    simp only [gL,hb,List.modify_succ_cons,List.map_cons,this,h1,h2]
theorem Yd {P:Program} {t:TypeId} (h:C' P t=true) :
  ∃ k e i,P.underlying t=some (.map k e)/\P.underlying k=some (.int .i64)/\P.underlying e=some (.int .i64)/\P.info? e=some i/\i.zero=some (.int .i64 0):=by
 unfold C' at h
 split at h
 .rename_i k e hu
  split at h
  .rename_i z h1 h2 h3
   obtain ⟨i,hi,hz⟩:=Q2 h3
   have:z=0:=by simpa using h
   subst this
   exact ⟨k,e,i,hu,h1,h2,hi,hz⟩
  .simp at h
 .simp at h
theorem Ip (H:af):(qV H).length=H.length+1:=by simp [qV]
theorem Ye (H:af):ah (qV H) H.length=some ⟨[],false,some []⟩:=Rd H _
theorem Yf {H:af} {b:Nat} (hb:b < H.length):ah (qV H) b=ah H b:=E6 hb
theorem Rel.E7 {ι:Io} {D:Nat->Prop} {H:af} {w w':World} (h:Rel ι D H w) {b:Nat} {k:bx} (hk:ah H b=some k) (bn:k.ro=false) (hs:(ι b).size=0) {es:List (Int×Int)} (h1:w'.heap.size=w.heap.size)
  (h2:∀ q,q≠(ι b).aI->w'.heap[q]? = w.heap[q]?) (h3:Bt w' (ι b).aI es) (e1:w'.os=w.os) (e2:w'.tape=w.tape) (e3:w'.output=w.output) :
  Rel ι D (H.set b (some ⟨[],false,some es⟩)) w'/\Fr ι H w ι (H.set b (some ⟨[],false,some es⟩)) w':=by
 have au:=Qt hk
 have hb:=h.aI b k hk
 have bg:∀ {c:Nat} {q:bx},ah (H.set b (some ⟨[],false,some es⟩)) c=some q->(c=b/\q=⟨[],false,some es⟩)\/(c≠b/\ah H c=some q):=by
  intro c q hq
  by_cases e:b=c
  .subst e;rw [sS au] at hq;injection hq with hq;exact .inl ⟨rfl,hq.symm⟩
  .rw [Qm e] at hq;exact .inr ⟨fun x=>e x.symm,hq⟩
 refine ⟨⟨fun c q hq=>?_,fun c c' q q' g1 g2 aU hr=>?_,fun c q hq hr=>?_,h.gw.cv (by omega) (fun q hq=>h2 q (by have:=h.h_ b k hk bn;omega))⟩,⟨by simp,fun _ _=>rfl,e1,e2,e3,by omega,fun q hq hn=>h2 q (Ne.symm (hn b k hk bn)),fun c q hq hr=>?_,fun c q hq hr=>?_⟩⟩
 .rcases bg hq with ⟨rfl,rfl⟩ | ⟨g1,g2⟩
  .have:=hb.fit
   exact ⟨by have:=hb.lt;omega,fun h0=>by omega,fun es' he=>by simp at he;subst he;exact ⟨rfl,hs,h3⟩,by simp;omega,fun i hi=>absurd hi (by simp),fun _ i q1 q2=>by omega⟩
  .exact (h.aI c q g2).bw (h2 _ (h.inj c b q k g2 hk g1 (.inr bn))) rfl (fun _ _ _ x=>x)
 .rcases bg g1 with ⟨rfl,rfl⟩ | ⟨p1,p2⟩<;>rcases bg g2 with ⟨rfl,rfl⟩ | ⟨q1,q2⟩
  .exact absurd rfl aU
  .exact h.inj c c' k q' hk q2 aU (.inl bn)
  .exact h.inj c c' q k p2 hk aU (.inr bn)
  .exact h.inj c c' q q' p2 q2 aU hr
 .rcases bg hq with ⟨rfl,rfl⟩ | ⟨_,g2⟩
  .exact h.h_ _ k hk bn
  .exact h.h_ c q g2 hr
 .rcases bg hq with ⟨rfl,rfl⟩ | ⟨g1,g2⟩
  .exact .inr ⟨c,k,hk,bn,rfl⟩
  .exact .inr ⟨c,q,g2,hr,rfl⟩
 .rcases bg hq with ⟨rfl,rfl⟩ | ⟨g1,g2⟩
  .simp at hr
  .exact g2
theorem Rel.E8 {ι:Io} {H:af} {w:World} (h:Rel ι (aK H.length) H w) :
  Rel (ι.set H.length ⟨w.heap.size,0,0⟩) (aK (qV H).length) (qV H) (w.alloc (.map #[] 0)) /\
  Fr ι H w (ι.set H.length ⟨w.heap.size,0,0⟩) (qV H) (w.alloc (.map #[] 0)):=by
 have hlen:(qV H).length=H.length+1:=Ip H
 have bg:∀ {c:Nat} {q:bx},ah (qV H) c=some q->(c < H.length/\ah H c=some q)\/(c=H.length/\q=⟨[],false,some []⟩):=by
  intro c q hq
  have au:=Qt hq
  rw [hlen] at au
  by_cases e:c=H.length
  .subst e;rw [Ye] at hq;exact .inr ⟨rfl,(Option.some.inj hq).symm⟩
  .rw [Yf (by omega)] at hq;exact .inl ⟨by omega,hq⟩
 have oO:∀ {v c:Value},ay ι (aK H.length) v c->ay (ι.set H.length ⟨w.heap.size,0,0⟩) (aK (qV H).length) v c :=
  fun hr=>hr.mono (aK.mono (by omega)) fun c hc=>Io.aS _ _ (by simp [aK] at hc;omega)
 refine ⟨⟨fun c q hq=>?_,fun c c' q q' g1 g2 aU hr=>?_,fun c q hq hr=>?_,h.gw.cv (by simp) (fun q hq=>E9 _ _ (by have:=h.gw.1;omega))⟩,⟨by omega,fun c hc=>Io.aS _ _ (by omega),rfl,rfl,rfl,by simp,fun q hq _=>E9 _ _ hq,fun c q hq hr=>?_,fun c q hq hr=>?_⟩⟩
 .rcases bg hq with ⟨g1,g2⟩ | ⟨rfl,rfl⟩
  .exact (h.aI c q g2).bw (E9 _ _ (h.lt g2)) (Io.aS _ _ (by omega)) (fun i hi c hr=>oO hr)
  .refine ⟨by rw [Io.aB];simp,fun h0=>by rw [Io.aB] at h0;simp at h0,fun es' he=>?_,by rw [Io.aB];simp,fun i hi=>absurd hi (by simp),fun _ i q1 q2=>by rw [Io.aB] at q2;simp at q2⟩
   simp at he;subst he
   exact ⟨rfl,by rw [Io.aB],by rw [Io.aB];exact ⟨#[],0,NV _ _,rfl⟩⟩
 .rcases bg g1 with ⟨p1,p2⟩ | ⟨rfl,rfl⟩<;>rcases bg g2 with ⟨q1,q2⟩ | ⟨rfl,rfl⟩
  .rw [Io.aS _ _ (by omega),Io.aS _ _ (by omega)];exact h.inj c c' q q' p2 q2 aU hr
  .rw [Io.aS _ _ (by omega),Io.aB];have:=h.lt p2;simp only;omega
  .rw [Io.aB,Io.aS _ _ (by omega)];have:=h.lt q2;simp only;omega
  .exact absurd rfl aU
 .rcases bg hq with ⟨g1,g2⟩ | ⟨rfl,rfl⟩
  .rw [Io.aS _ _ (by omega)];exact h.h_ c q g2 hr
  .rw [Io.aB];exact h.gw.1
 .rcases bg hq with ⟨g1,g2⟩ | ⟨rfl,rfl⟩
  .exact .inr ⟨c,q,g2,hr,by rw [Io.aS _ _ (by omega)]⟩
  .exact .inl (by rw [Io.aB];exact Zd _)
 .rcases bg hq with ⟨g1,g2⟩ | ⟨rfl,rfl⟩
  .exact g2
  .simp at hr
section
variable {P:Program} {nt ai:Nat} {o:Oper} {env:Env} {H H':af} {X:Cx} {β:Type} {K:Value->af->Option β} {r:β}
theorem Yg {b:Nat} {es:List (Int×Int)} (h:E_ H b=some es):∃ k,ah H b=some k/\k.ro=false/\k.mp=some es:=by
 obtain ⟨k,hk,h⟩:=Q2 h
 split at h
 .exact ⟨k,hk,by assumption,h⟩
 .simp at h
theorem Yh {v:Value} {F:Nat->Option β} (h:Iq v F=some r):∃ b,v=.map (some b)/\F b=some r:=by
 unfold Iq at h
 split at h
 .exact ⟨_,rfl,h⟩
 .simp at h
theorem Re {v:Value} {F:Int->Option β} (h:Fa v F=some r):∃ n,v=.int .i64 n/\F n=some r:=by
 unfold Fa at h
 split at h
 .exact ⟨_,rfl,h⟩
 .simp at h
theorem ay.qW {ι:Io} {D:Nat->Prop} {b:Nat} {c:Value} (h:ay ι D (.map (some b)) c):c=.map (some (ι b).aI):=by cases h;rfl
theorem Qje {t:TypeId} (ho:o.op=.makeMap t none):iR P nt ai o env H (.map (some H.length)) (qV H):=by
 refine ⟨fun _ _=>.map _ (by rw [Ip];simp [aK]),fun _ _=>?_,fun ι a w hR he next Q hn=>?_⟩
 .have hc:∀ {c:Nat} {q:bx},ah (qV H) c=some q->∀ v∈q.cells,ah H c=some q:=by
   intro c q hq v hv
   by_cases e:c < H.length
   .rw [Yf e] at hq;exact hq
   .have au:=Qt hq
    rw [Ip] at au
    have e:c=H.length:=by omega
    subst e
    rw [Ye] at hq
    obtain rfl:=Option.some.inj hq
    simp at hv
  exact ⟨by rw [Ip];omega,fun h c fq q hq v hv=>(h c (Qt (hc hq v hv)) q (hc hq v hv) v hv).mono (aK.mono (by rw [Ip];omega)),fun m _ _ h c fq q hq v hv=>h c fq q (hc hq v hv) v hv⟩
 .obtain ⟨g1,g2⟩:=hR.E8
  have aT:(execOp a.eval o).run P w=.ok (.value (.map (some w.heap.size))) (w.alloc (.map #[] 0)):=by
   simp only [execOp,ho,Option.map_none,Sem.run_bind,Instr.makeMap,Sem.run_pure,run_newObj,Result.andThen_ok]
   rfl
  refine oK aT (hn _ _ _ g1 ?_ g2)
  have:=ay.map (ι:=ι.set H.length ⟨w.heap.size,0,0⟩) (D:=aK (qV H).length) H.length (by rw [Ip];simp [aK])
  rw [Io.aB] at this
  exact this
theorem Qeh {t:TypeId} {m x y:Operand} {b:Nat} {k v:Int} {es:List (Int×Int)} (ho:o.op=.mapUpdate t m x y) (ht:C' P t=true) (hm:ev env m=some (.map (some b))) (hx:ev env x=some (.int .i64 k)) (hy:ev env y=some (.int .i64 v))
  (hb:E_ H b=some es):iR P nt ai o env H undef (H.set b (some ⟨[],false,some (gL es k v)⟩)):=by
 obtain ⟨kb,hk,bn,Fb⟩:=Yg hb
 have au:=Qt hk
 obtain ⟨kt,et,i,u1,u2,u3,u4,u5⟩:=Yd ht
 refine ⟨fun _ _=>JV _,fun _ _=>?_,fun ι a w hR he next Q hn=>?_⟩
 .have hc:∀ {c:Nat} {q:bx},ah (H.set b (some ⟨[],false,some (gL es k v)⟩)) c=some q->∀ v∈q.cells,ah H c=some q:=by
   intro c q hq v hv
   by_cases e:b=c
   .subst e
    rw [sS au] at hq
    obtain rfl:=Option.some.inj hq
    simp at hv
   .rw [Qm e] at hq;exact hq
  exact ⟨by simp,fun h c fq q hq v hv=>by rw [List.length_set];exact h c (Qt (hc hq v hv)) q (hc hq v hv) v hv,fun m _ _ h c fq q hq v hv=>h c fq q (hc hq v hv) v hv⟩
 .obtain ⟨fc,qX,kH,clock,nc,NW⟩:=(hR.aI b kb hk).map es Fb
  have ex:=(Qe he hm).qW
  have ek:=(Qe he hx).aL
  have ey:=(Qe he hy).aL
  have sU:IsKey (.int .i64) (.int .i64 k):=by simp [IsKey]
  have main:∀ iV gM,ML iV.toList (gL es k v)->(Instr.mapUpdate t (.map (some (ι b).aI)) (.int .i64 k) (.int .i64 v)).run P w=.ok () { w with heap:=w.heap.setIfInBounds (ι b).aI (.map iV gM) }->o.wp P a w next Q:=by
   intro iV gM h1 aT
   obtain ⟨q1,q2⟩:=MapKept.heap_set (o':=.map iV gM) nc
   obtain ⟨g1,g2⟩:=hR.E7 (w':={ w with heap:=w.heap.setIfInBounds (ι b).aI (.map iV gM) }) hk bn qX (es:=gL es k v) (by simp) q2 ⟨iV,gM,q1,h1⟩ rfl rfl rfl
   have J6:(execOp a.eval o).run P w=.ok .skip { w with heap:=w.heap.setIfInBounds (ι b).aI (.map iV gM) }:=by
    simp only [execOp,ho,ex,ek,ey,Sem.run_bind,aT,Result.andThen_ok,Sem.run_pure]
   unfold Oper.wp;rw [J6]
   have hl:(H.set b (some (⟨[],false,some (gL es k v)⟩:bx))).length=H.length:=by simp
   rw [<- hl] at g1
   exact hn ι _ undef g1 (Ik _ _) g2
  rcases Rb k kH.toList es 0 NW with ⟨f1,f2,f3⟩ | ⟨j,v0,e,f1,f2,f3,f4,f5⟩
  .refine main (kH.push { key:=.int .i64 k,val:=.int .i64 v,born:=clock }) (clock+1) ?_ ?_
   .rw [f3 v];unfold ML;simp;simpa using NW
   .simp [Instr.mapUpdate,run_underlying u1,MapKept.run_getObj_map nc,MapKept.run_checkKey u2 sU,MapKept.run_findKey u2 f2,MapKept.run_setObj_map _ nc,Result.andThen]
  .refine main (kH.modify j fun e=>{ e with key:=.int .i64 k,val:=.int .i64 v }) clock ?_ ?_
   .have:=f5 v
    rwa [<- Array.toList_modify] at this
   .have hj:kH[j]? = some e:=by rw [<- Array.getElem?_toList];exact f3
    rw [Zo] at f2
    simp [Instr.mapUpdate,run_underlying u1,MapKept.run_getObj_map nc,MapKept.run_checkKey u2 sU,MapKept.run_findKey u2 f2,hj,f4,MapKept.run_keyThatStays sU,MapKept.run_setObj_map _ nc,Result.andThen]
theorem Qmn {t:TypeId} {m x:Operand} {ok:Bool} {b:Nat} {k:Int} {es:List (Int×Int)} (ho:o.op=.lookup t m x ok) (ht:C' P t=true) (hm:ev env m=some (.map (some b))) (hx:ev env x=some (.int .i64 k))
  (hb:E_ H b=some es):iR P nt ai o env H (Fc ok (ez es k)) H:=by
 obtain ⟨kb,hk,bn,Fb⟩:=Yg hb
 obtain ⟨kt,et,i,u1,u2,u3,u4,u5⟩:=Yd ht
 have wu:∀ (ι:Io) (D:Nat->Prop) (ok:Bool) (x:Option Int),ay ι D (Fc ok x) (Fc ok x):=by
  intro ι D ok x
  cases ok with
  | true =>
   refine .tuple _ _ rfl fun i h1 h2=>?_
   simp at h1
   rcases (show i=0\/i=1 by omega) with rfl | rfl
   .exact .int _ _
   .exact .bool _
  | false=>exact .int _ _
 refine ⟨fun _ _=>(wu (fun _=>⟨0,0,0⟩) _ _ _).lt,fun _ _=>Ab.refl _ _,fun ι a w hR he next Q hn=>?_⟩
 obtain ⟨fc,qX,kH,clock,nc,NW⟩:=(hR.aI b kb hk).map es Fb
 have ex:=(Qe he hm).qW
 have ek:=(Qe he hx).aL
 have sU:IsKey (.int .i64) (.int .i64 k):=by simp [IsKey]
 have hzero:(zeroValue et).run P w=.ok (.int .i64 0) w:=by
  simp only [zeroValue,typeInfo,Sem.run_bind,run_program,Result.andThen_ok,u4,Sem.run_pure,u5]
 have aT:(execOp a.eval o).run P w=.ok (.value (Fc ok (ez es k))) w:=by
  rcases Rb k kH.toList es 0 NW with ⟨f1,f2,f3⟩ | ⟨j,v0,e,f1,f2,f3,f4,f5⟩
  .rw [f1]
   cases ok<;>simp [execOp,ho,ex,ek,Instr.lookup,run_underlying u1,MapKept.run_getObj_map nc,MapKept.run_checkKey u2 sU,MapKept.run_findKey u2 f2,hzero,Fc,Result.andThen]
  .rw [f1]
   cases ok<;>simp [execOp,ho,ex,ek,Instr.lookup,run_underlying u1,MapKept.run_getObj_map nc,MapKept.run_checkKey u2 sU,MapKept.run_findKey u2 f2,Fc,Result.andThen]
 exact oK aT (hn ι w _ hR (wu ι _ _ _) (Fr.refl ι H w))
def Fe (X:Cx) (o:Oper) (env:Env) (H:af) (v:Value) (H':af):Prop:=jy X o env H v H'\/iR X.P X.nt X.ai o env H v H'
theorem Yi (hX:oJ X.P X.call) (h:Bu X o env H K=some r):∃ v H',K v H'=some r/\Fe X o env H v H':=by
 unfold Bu at h
 split at h
 .rename_i t ho
  exact ⟨_,_,h,.inr (Qje ho)⟩
 .rename_i t m k v ho
  split at h
  .rename_i ht
   replace h:=Q2 h;obtain ⟨mv,hm,h⟩:=h
   replace h:=Q2 h;obtain ⟨kv,hk,h⟩:=h
   replace h:=Q2 h;obtain ⟨vv,hv,h⟩:=h
   replace h:=Yh h;obtain ⟨b,rfl,h⟩:=h
   replace h:=Re h;obtain ⟨a,rfl,h⟩:=h
   replace h:=Re h;obtain ⟨u,rfl,h⟩:=h
   replace h:=Q2 h;obtain ⟨es,hb,h⟩:=h
   exact ⟨_,_,h,.inr (Qeh ho ht hm hk hv hb)⟩
  .simp at h
 .rename_i t m k ok ho
  split at h
  .rename_i ht
   replace h:=Q2 h;obtain ⟨mv,hm,h⟩:=h
   replace h:=Q2 h;obtain ⟨kv,hk,h⟩:=h
   replace h:=Yh h;obtain ⟨b,rfl,h⟩:=h
   replace h:=Re h;obtain ⟨a,rfl,h⟩:=h
   replace h:=Q2 h;obtain ⟨es,hb,h⟩:=h
   exact ⟨_,_,h,.inr (Qmn ho ht hm hk hb)⟩
  .simp at h
 .obtain ⟨v,H',h1,h2⟩:=QZ hX h
  exact ⟨v,H',h1,.inl h2⟩
end
section
variable {o:Oper} {env:Env} {H H':af} {X:Cx} {β:Type} {r:β}
theorem Rel.closed {ι:Io} {w:World} (h:Rel ι (aK H.length) H w):Ql H.length H:=by
 intro b hb k hk v hv
 obtain ⟨i,hi,e⟩:=List.getElem_of_mem hv
 obtain ⟨c,h1,h2,h3⟩:=(h.aI b k hk).cell i hi
 exact e▸h2.lt
theorem NX {v:Value} (h:jy X o env H v H') (he:dF (aK H.length) env) (hc:Ql H.length H):Ab X.ai H H'/\bK (aK H'.length) v:=by
 unfold jy at h
 split at h
 .obtain ⟨rfl,h⟩:=h;exact ⟨Ab.refl _ _,h.lt _ he⟩
 .obtain ⟨rfl,raw,h⟩:=h;exact ⟨Ab.refl _ _,h.lt he hc⟩
 .obtain ⟨vs,mk,rfl,rfl,h⟩:=h
  exact ⟨QL _ (h.lt _ he),h.ltv _ _ (by simp [aK,Qy])⟩
 .exact ⟨h.ab he hc,h.lt he hc⟩
theorem Qvn {v:Value} (h:jy X o env H v H') {ι:Io} {a:Act} {w:World} (hR:Rel ι (aK H.length) H w) (hE:bt ι (aK H.length) X.nt env a) {next:Act->World->Prop} {Q:Exit->Act->World->Prop}
  (hn:∀ ι' w' c,Rel ι' (aK H'.length) H' w'->ay ι' (aK H'.length) v c->Fr ι H w ι' H' w'->next (a.put o.dst c) w'):o.wp X.P a w next Q:=by
 unfold jy at h
 split at h
 .obtain ⟨rfl,h⟩:=h
  obtain ⟨c,h1,h2⟩:=h.run ι _ a w hE
  exact oK h1 (hn ι w c hR h2 (Fr.refl _ _ _))
 .obtain ⟨rfl,raw,h⟩:=h
  obtain ⟨c,h1,h2⟩:=h.run ι _ a w H' h.rd hR hE
  exact oK h1 (hn ι w c hR h2 (Fr.refl _ _ _))
 .obtain ⟨vs,mk,rfl,rfl,h⟩:=h
  obtain ⟨cs,rest,e_,fz,w0,c,h1,h2,e1,e2,e3,e4,h3,h4⟩:=h.run ι _ a w hE
  obtain ⟨g1,g2⟩:=(hR.bz e1).push h1 h.cells rest e_ fz h2
  have hw:w0.heap.size=w.heap.size:=by rw [e1]
  have kI:=h4 H.length
  rw [<- hw] at kI
  refine oK h3 (hn _ _ c g1 ?_ (((Fr.refl ι H w).bz e1 e2 e3 e4).trans g2))
  rw [Qy]
  exact kI.mono (by intro b hb;simp [aK] at hb ⊢;omega) fun _ _=>rfl
 .exact h.run ι a w hR hE next Q hn
theorem Yj {v:Value} (h:Fe X o env H v H') (he:dF (aK H.length) env) (hc:Ql H.length H):Ab X.ai H H'/\bK (aK H'.length) v:=by
 rcases h with h | h
 .exact NX h he hc
 .exact ⟨h.ab he hc,h.lt he hc⟩
theorem Qrw {v:Value} (h:Fe X o env H v H') {ι:Io} {a:Act} {w:World} (hR:Rel ι (aK H.length) H w) (hE:bt ι (aK H.length) X.nt env a) {next:Act->World->Prop} {Q:Exit->Act->World->Prop}
  (hn:∀ ι' w' c,Rel ι' (aK H'.length) H' w'->ay ι' (aK H'.length) v c->Fr ι H w ι' H' w'->next (a.put o.dst c) w'):o.wp X.P a w next Q:=by
 rcases h with h | h
 .exact Qvn h hR hE hn
 .exact h.run ι a w hR hE next Q hn
theorem Da {nt:Nat} {dst:Option Tmp} {v:Value} {K:Env->Option β} (h:Db nt dst v env K=some r):∃ ak,K ak=some r/\((dst=none/\ak=env)\/∃ d,dst=some d/\d < nt/\ak=(d,v)::env):=by
 unfold Db at h
 split at h
 .exact ⟨env,h,.inl ⟨rfl,rfl⟩⟩
 .rename_i d
  split at h
  .rename_i hd
   have om:d+1<=nt:=by simpa [Nat.blt] using hd
   exact ⟨_,h,.inr ⟨d,rfl,om,rfl⟩⟩
  .simp at h
theorem Yk {ι:Io} {D:Nat->Prop} {nt:Nat} {ak:Env} {a:Act} {dst:Option Tmp} {v c:Value} (hE:bt ι D nt env a) (hv:ay ι D v c) (h:(dst=none/\ak=env)\/∃ d,dst=some d/\d < nt/\ak=(d,v)::env):bt ι D nt ak (a.put dst c):=by
 rcases h with ⟨rfl,rfl⟩ | ⟨d,rfl,hd,rfl⟩
 .exact hE
 .exact hE.put hd hv
theorem J7 {D:Nat->Prop} {nt:Nat} {ak:Env} {dst:Option Tmp} {v:Value} (hE:dF D env) (hv:bK D v) (h:(dst=none/\ak=env)\/∃ d,dst=some d/\d < nt/\ak=(d,v)::env):dF D ak:=by
 rcases h with ⟨rfl,rfl⟩ | ⟨d,rfl,hd,rfl⟩
 .exact hE
 .exact hE.put hv
structure J8 (nt:Nat) (ops:Array Oper) (o:Oper) (env:Env) (t:Bool) (ak:Env):Prop where
 run:∀ (ι:Io) (D:Nat->Prop) (a:Act),bt ι D nt env a->bt ι D nt ak a/\Region.wanted o (yielded ops a.tmps)=t
 lt:∀ D:Nat->Prop,dF D env->dF D ak
theorem Rf {nt:Nat} {ops:Array Oper} {K:Bool->Env->Option β} (h:Dc ops o env K=some r):∃ t ak,K t ak=some r/\J8 nt ops o env t ak:=by
 unfold Dc at h
 split at h
 .rename_i hg
  exact ⟨true,env,h,fun ι D a hE=>⟨hE,by simp [Region.wanted,hg]⟩,fun D hE=>hE⟩
 .rename_i j want hg
  split at h
  .rename_i d hd
   replace h:=Q2 h;obtain ⟨v,hv,h⟩:=h
   have hy:∀ (ι:Io) (D:Nat->Prop) (a:Act),bt ι D nt env a->yielded ops a.tmps j=match v with | .bool b=>some b | _=>none:=by
    intro ι D a hE
    have hr:=hE.get d v hv
    unfold yielded
    rw [hd]
    simp only [Option.bind_some]
    by_cases au:d < a.tmps.size
    .rw [Array.getElem?_eq_getElem au]
     have e:a.tmps.getD d undef=a.tmps[d]:=by simp [Array.getD,au]
     rw [e] at hr
     generalize a.tmps[d]=c at hr ⊢
     cases hr<;>rfl
    .rw [Array.getElem?_eq_none (Nat.le_of_not_lt au)]
     have e:a.tmps.getD d undef=undef:=by simp [Array.getD,au]
     rw [e] at hr
     cases hr<;>rfl
   split at h
   .rename_i b
    rcases jx h with ⟨rfl,h⟩ | ⟨rfl,h⟩
    .refine ⟨_,_,h,fun ι D a hE=>⟨hE.lit hv,?_⟩,fun D hE=>hE.put (.bool _)⟩
     simp only [Region.wanted,hg,hy ι D a hE]
     cases want<;>rfl
    .refine ⟨_,_,h,fun ι D a hE=>⟨hE.lit hv,?_⟩,fun D hE=>hE.put (.bool _)⟩
     simp only [Region.wanted,hg,hy ι D a hE]
     cases want<;>rfl
   .rename_i Rh
    refine ⟨_,_,h,fun ι D a hE=>⟨hE,?_⟩,fun D hE=>hE⟩
    simp only [Region.wanted,hg,hy ι D a hE]
    cases v<;>first | rfl | exact absurd rfl (Rh _)
  .simp at h
def J9:eD->Exit
 | .normal=>.normal
 | .exit id=>.exit id
 | .ret=>.ret
def J_ (X:Cx) (ι₀:Io) (H₀:af) (w₀:World) (K:eD->Env->af->Option β) (r:β) (ex:Exit) (a:Act) (w:World):Prop :=
 ∃ vr env ι H,J9 vr=ex/\Rel ι (aK H.length) H w/\bt ι (aK H.length) X.nt env a/\Fr ι₀ H₀ w₀ ι H w/\Ab X.ai H₀ H/\a.defers=[]/\K vr env H=some r
theorem J_.later {ι₀ ι:Io} {H₀:af} {w₀ w:World} {K:eD->Env->af->Option β} {ex:Exit} {a:Act} {w':World} (h:J_ X ι H w K r ex a w') (hf:Fr ι₀ H₀ w₀ ι H w) (ha:Ab X.ai H₀ H):J_ X ι₀ H₀ w₀ K r ex a w':=by
 obtain ⟨vr,env,ι',H',h1,h2,h3,h4,h5,h6,h7⟩:=h
 exact ⟨vr,env,ι',H',h1,h2,h3,hf.trans h4,ha.trans h5,h6,h7⟩
theorem Ir (a:Act) (dst:Option Tmp) (c:Value):(a.put dst c).defers=a.defers:=by cases dst<;>rfl
theorem Ri (hX:oJ X.P X.call) {ops:Array Oper} {K:Env->af->Option β} {Q:Exit->Act->World->Prop}:∀ (l:List Oper) (i:Nat) (env:Env) (H:af),(∀ k,l[k]? = ops[i+k]?)->i+l.length=ops.size->Bv X ops l env H K=some r ->
  ∀ (ι:Io) (a:Act) (w:World),Rel ι (aK H.length) H w->bt ι (aK H.length) X.nt env a->a.defers=[] ->
  (∀ ak ι' H' a' w',Rel ι' (aK H'.length) H' w'->bt ι' (aK H'.length) X.nt ak a'->Fr ι H w ι' H' w'->Ab X.ai H H'->a'.defers=[]->K ak H'=some r->Q .normal a' w') ->
  wpOps X.P ops Q (List.range' i l.length) a w
 | [],i,env,H,hl,hs,h,ι,a,w,hR,hE,hd,hQ=>hQ env ι H a w hR hE (Fr.refl _ _ _) (Ab.refl _ _) hd h
 | o::l,i,env,H,hl,hs,h,ι,a,w,hR,hE,hd,hQ=>by
  have ho:ops[i]? = some o:=by have:=hl 0;simpa using this.symm
  have jv:∀ k,l[k]? = ops[i+1+k]?:=fun k=>by have:=hl (k+1);rw [show i+1+k=i+(k+1) by omega];simpa using this
  rw [Z9,List.range'_succ]
  simp only [wpOps,ho]
  unfold Bv at h
  obtain ⟨t,fP,h,hw⟩:=Rf (nt:=X.nt) h
  obtain ⟨vt,Yl⟩:=hw.run ι _ a hE
  cases t with
  | true =>
   rw [if_pos Yl]
   left
   simp only at h
   obtain ⟨v,H',h,hF⟩:=Yi hX h
   obtain ⟨kJ,Is⟩:=Yj hF vt.lt hR.closed
   refine Qrw hF hR vt fun ι' w' c Rj gK hf=>?_
   obtain ⟨b_,h,hp⟩:=Da h
   have hE2:bt ι' (aK H'.length) X.nt fP a:=vt.mono (aK.mono hf.len) hf.io
   refine Ri hX l (i+1) b_ H' jv (by simp at hs;omega) h ι' _ w' Rj (Yk hE2 gK hp) (by rw [Ir];exact hd) ?_
   intro ak ι2 H2 a2 w2 g1 g2 g3 g4 g5 g6
   exact hQ ak ι2 H2 a2 w2 g1 g2 (hf.trans g3) (kJ.trans g4) g5 g6
  | false =>
   rw [if_neg (by rw [Yl];simp)]
   simp only at h
   obtain ⟨b_,h,hp⟩:=Da h
   refine Ri hX l (i+1) b_ H jv (by simp at hs;omega) h ι _ w hR (Yk vt (Ik _ _) hp) (by rw [Ir];exact hd) ?_
   intro ak ι2 H2 a2 w2 g1 g2 g3 g4 g5 g6
   exact hQ ak ι2 H2 a2 w2 g1 g2 g3 g4 g5 g6
theorem Rk (hX:oJ X.P X.call) {ops:Array Oper} {K:Env->af->Option β}:∀ (l:List Oper) (env:Env) (H:af),Bv X ops l env H K=some r->dF (aK H.length) env->Ql H.length H ->
  ∃ ak H',K ak H'=some r/\dF (aK H'.length) ak/\Ql H'.length H'/\Ab X.ai H H'
 | [],env,H,h,hE,hc=>⟨env,H,h,hE,hc,Ab.refl _ _⟩
 | o::l,env,H,h,hE,hc=>by
  unfold Bv at h
  obtain ⟨t,fP,h,hw⟩:=Rf (nt:=X.nt) h
  have vt:=hw.lt _ hE
  cases t with
  | true =>
   simp only at h
   obtain ⟨v,H',h,hF⟩:=Yi hX h
   obtain ⟨kJ,Is⟩:=Yj hF vt hc
   obtain ⟨b_,h,hp⟩:=Da h
   obtain ⟨ak,H2,g1,g2,g3,g4⟩:=Rk hX l b_ H' h (J7 (vt.mono (aK.mono kJ.len)) Is hp) (kJ.all hc)
   exact ⟨ak,H2,g1,g2,g3,kJ.trans g4⟩
  | false =>
   simp only at h
   obtain ⟨b_,h,hp⟩:=Da h
   exact Rk hX l b_ H h (J7 vt (JV _) hp) hc
end
end Go.Ev
