/-
  Parts of slices and strings, conversions, built-in functions that compute, structs put together: they agree with the model's run. And what stood behind it in 6 texts.
  Conditions: said at the theorems.
-/
import Derived.Test.YtcoimfbmgjhcjabGreatDoorOpB
import Derived.Deep.AppendSrc
import Derived.Deep.Upon
import Derived.Laws.BytesString
import Derived.Laws.BitsLemmas
import Derived.MapKept
set_option linter.unusedVariables false
set_option linter.unusedSimpArgs false
namespace Go.Ev
section
variable {P:Program} {nt:Nat} {o:Oper} {env:Env} {H:af} {X:Cx} {β:Type} {K:Value->af->Option β} {r:β}
theorem Qcp (w:World) (k:IntKind) (i y:Nat) (code:BoundsCode) (h:i<=y):(Instr.sliceBound (.int k (i:Int)) y code).run P w=.ok i w:=by
 simp [Instr.sliceBound,asIntOf,h]
theorem QS (w:World) (isS:Bool) (len cap l h:Nat) (lo hi:Option Value) (hl:l<=h) (hh:h<=cap) (elo:(lo=none/\l=0)\/lo=some (.int .i64 (l:Int))) (ehi:(hi=none/\h=len)\/hi=some (.int .i64 (h:Int))) :
  (Instr.sliceBounds isS len cap lo hi none).run P w=.ok (l,h,cap) w:=by
 rcases elo with ⟨rfl,rfl⟩ | rfl<;>rcases ehi with ⟨rfl,rfl⟩ | rfl<;>simp [Instr.sliceBounds,Qcp,hl,hh]
theorem Iq {ι:Io} {D:Nat->Prop} {a:Act} (he:bt ι D nt env a) {x:Option Operand} {d n:Nat} (h:(x=none/\n=d)\/∃ y,x=some y/\ev env y=some (.int .i64 (n:Int))) :
  (x.map a.eval=none/\n=d)\/x.map a.eval=some (.int .i64 (n:Int)):=by
 rcases h with ⟨rfl,rfl⟩ | ⟨y,rfl,hy⟩
 .exact .inl ⟨rfl,rfl⟩
 .exact .inr (by simp [(Qe he hy).aM])
theorem Yc {t e:TypeId} (hu:P.underlying t=some (.slice e)) (x:Value) (lo hi mx:Option Value) (w:World):(Instr.sliceAt t x lo hi mx).run P w=(Instr.slice t x lo hi mx).run P w:=by
 simp [Instr.sliceAt,run_underlying hu]
theorem Qcq {t:TypeId} (hu:P.underlying t=some .string) (x:Value) (lo hi mx:Option Value) (w:World):(Instr.sliceAt t x lo hi mx).run P w=(Instr.slice t x lo hi mx).run P w:=by
 simp [Instr.sliceAt,run_underlying hu]
theorem Qe9 {t e:TypeId} {x:Operand} {lo hi:Option Operand} {l h:Nat} {i:TypeInfo} (ho:o.op=.slice t x lo hi none) (hx:ev env x=some (.slice none 0 0)) (hu:P.underlying t=some (.slice e)) (eT:P.info? e=some i)
  (h1:(hi=none/\h=0)\/∃ y,hi=some y/\ev env y=some (.int .i64 (h:Int))) (h2:(lo=none/\l=0)\/∃ y,lo=some y/\ev env y=some (.int .i64 (l:Int))) (hl:l<=h) (hn:h<=0) :
  bG P nt o env (.slice none 0 0):=by
 refine ⟨fun ι D a w he=>?_,fun D h=>.dI⟩
 have ex:a.eval x=.slice none 0 0:=by
  have:=Qe he hx
  cases hq:a.eval x<;>rw [hq] at this<;>cases this;rfl
 refine ⟨.slice none 0 0,?_,.dI⟩
 have hb:=QS (P:=P) w true 0 0 l h (lo.map a.eval) (hi.map a.eval) hl hn (Iq he h2) (Iq he h1)
 have hh:h=0:=by omega
 have wm:l=0:=by omega
 have aT:(Instr.slice t (.slice none 0 0) (lo.map a.eval) (hi.map a.eval) none).run P w=.ok (.slice none 0 0) w:=by
  simp only [Instr.slice,Sem.run_bind,run_underlying hu,Result.andThen_ok,hb]
  simp [sizeOf,typeInfo,eT,hh,wm]
 simp only [execOp,ho,ex,Sem.run_bind,Yc hu,Option.map_none,aT,Result.andThen_ok,Sem.run_pure]
theorem Qmm {t e:TypeId} {x:Operand} {lo hi:Option Operand} {p:Addr} {n c l h:Nat} {i:TypeInfo} (ho:o.op=.slice t x lo hi none) (hx:ev env x=some (.slice (some p) n c)) (hu:P.underlying t=some (.slice e)) (eT:P.info? e=some i)
  (h1:(hi=none/\h=n)\/∃ y,hi=some y/\ev env y=some (.int .i64 (h:Int))) (h2:(lo=none/\l=0)\/∃ y,lo=some y/\ev env y=some (.int .i64 (l:Int))) (hl:l<=h) (hn:h<=n) (hc:c=i.size) :
  bG P nt o env (.slice (some ⟨p.block,p.off+l*i.size,none⟩) (h - l) c):=by
 subst hc
 refine ⟨fun ι D a w he=>?_,fun D h=>.sl _ _ _ (nk h hx).wo⟩
 have hv:=Qe he hx
 have key:∀ (q:Addr) (cap:Nat),a.eval x=.slice (some q) n cap->h<=cap->(execOp a.eval o).run P w=.ok (.value (.slice (some (if cap=l then q else q.add (l*i.size))) (h - l) (cap - l))) w:=by
  intro q cap ex kO
  have hb:=QS (P:=P) w true n cap l h (lo.map a.eval) (hi.map a.eval) hl kO (Iq he h2) (Iq he h1)
  have aT:(Instr.slice t (.slice (some q) n cap) (lo.map a.eval) (hi.map a.eval) none).run P w=.ok (.slice (some (if cap=l then q else q.add (l*i.size))) (h - l) (cap - l)) w:=by
   simp only [Instr.slice,Sem.run_bind,run_underlying hu,Result.andThen_ok,hb]
   simp [sizeOf,typeInfo,eT]
   split<;>rfl
  simp only [execOp,ho,ex,Sem.run_bind,Yc hu,Option.map_none,aT,Result.andThen_ok,Sem.run_pure]
 generalize hq:a.eval x=q at hv
 cases hv with
 | e_ _ _ _ cap hD AL kO =>
  refine ⟨_,key _ cap hq (by omega),?_⟩
  by_cases e:cap=l
  .rw [if_pos e]
   have e1:h - l=0:=by omega
   have e2:cap - l=0:=by omega
   rw [e1,e2];exact .bD _ _ _ hD
  .rw [if_neg e]
   have ha:(ι.addr p).add (l*i.size)=ι.addr ⟨p.block,p.off+l*i.size,none⟩:=by
    rw [J7];simp only [Io.addr,Nat.add_assoc]
   rw [ha]
   refine .e_ ⟨p.block,p.off+l*i.size,none⟩ _ _ _ hD (by omega) ?_
   simp only
   have:(cap - l)*i.size+l*i.size=cap*i.size:=by rw [<- Nat.add_mul];congr 1;omega
   omega
 | bD _ b _ hD =>
  refine ⟨_,key _ 0 hq (by omega),?_⟩
  have e1:l=0:=by omega
  subst e1
  rw [if_pos rfl]
  have e2:h - 0=0:=by omega
  rw [e2];exact .bD _ _ _ hD
theorem Qea {t:TypeId} {x:Operand} {lo hi:Option Operand} {s:ByteArray} {l h:Nat} (ho:o.op=.slice t x lo hi none) (hx:ev env x=some (.string s)) (hu:P.underlying t=some .string)
  (h1:(hi=none/\h=s.size)\/∃ y,hi=some y/\ev env y=some (.int .i64 (h:Int))) (h2:(lo=none/\l=0)\/∃ y,lo=some y/\ev env y=some (.int .i64 (l:Int))) (hl:l<=h) (hn:h<=s.size) :
  bG P nt o env (.string (s.extract l h)):=by
 refine ⟨fun ι D a w he=>⟨_,?_,.str _⟩,fun D h=>.str _⟩
 have ex:=(Qe he hx).bO
 have hb:=QS (P:=P) w false s.size s.size l h (lo.map a.eval) (hi.map a.eval) hl hn (Iq he h2) (Iq he h1)
 have aT:(Instr.slice t (.string s) (lo.map a.eval) (hi.map a.eval) none).run P w=.ok (.string (s.extract l h)) w:=by
  simp only [Instr.slice,Sem.run_bind,run_underlying hu,Result.andThen_ok,Option.isSome_none,Bool.false_eq_true,if_false,Sem.run_pure,hb]
 simp only [execOp,ho,ex,Sem.run_bind,Qcq hu,Option.map_none,aT,Result.andThen_ok,Sem.run_pure]
theorem Qgd {src dst:TypeId} {x:Operand} {k0 k k':IntKind} {n:Int} (ho:o.op=.convert src dst x) (hx:ev env x=some (.int k' n)) (h1:P.underlying src=some (.int k0)) (h2:P.underlying dst=some (.int k)):bG P nt o env (.int k (k.wrap n)):=by
 refine ⟨fun ι D a w he=>⟨_,?_,.int _ _⟩,fun D h=>.int _ _⟩
 simp [execOp,ho,(Qe he hx).aM,convert,run_underlying h1,run_underlying h2,Conv.intToInt]
theorem Qge {src dst:TypeId} {x:Operand} {s:ByteArray} (ho:o.op=.convert src dst x) (hx:ev env x=some (.string s)) (h1:P.underlying src=some .string) (h2:P.underlying dst=some .string):bG P nt o env (.string s):=by
 refine ⟨fun ι D a w he=>⟨_,?_,.str _⟩,fun D h=>.str _⟩
 simp [execOp,ho,(Qe he hx).bO,convert,run_underlying h1,run_underlying h2]
theorem E1 {c:Call} {b:Builtin} (ho:o.op=.call c) (hb:c.callee=.builtin b) (ρ:Operand->Value) (w:World) :
  ∃ consts,(execOp ρ o).run P w=(builtin b c.argTypes o.type consts (c.args.map ρ)).run P w:=by
 simp only [execOp,ho,resolve,hb,invoke,Sem.run_bind,Sem.run_pure,Result.andThen_ok]
 exact ⟨_,rfl⟩
theorem QT {c:Call} {v:Value} (h:eU env c.args.toList=some [v]):∃ x,c.args = #[x]/\ev env x=some v:=by
 generalize c.args=A at h ⊢
 obtain ⟨args⟩:=A
 match args,h with
 | [],h=>simp [eU] at h
 | [x],h =>
  simp only [eU] at h
  obtain ⟨u,hu,h⟩:=Q2 h
  simp [Q1] at h
  exact ⟨x,rfl,h▸hu⟩
 | x::y::r,h =>
  simp only [eU] at h
  obtain ⟨u,hu,h⟩:=Q2 h
  obtain ⟨l,hl,h⟩:=Q2 h
  obtain ⟨u',dy,hl⟩:=Q2 hl
  obtain ⟨l',jF,hl⟩:=Q2 hl
  simp at h hl
  rw [<- hl] at h
  simp at h
theorem Ir {c:Call} {v v':Value} (h:eU env c.args.toList=some [v,v']):∃ x y,c.args = #[x,y]/\ev env x=some v/\ev env y=some v':=by
 generalize c.args=A at h ⊢
 obtain ⟨args⟩:=A
 match args,h with
 | [],h=>simp [eU] at h
 | x::r,h =>
  simp only [eU] at h
  obtain ⟨u,hu,h⟩:=Q2 h
  obtain ⟨l,hl,h⟩:=Q2 h
  simp at h
  obtain ⟨h1,h2⟩:=h
  subst h1
  match r,hl with
  | [],hl=>simp [eU] at hl;rw [<- hl] at h2;simp at h2
  | [y],hl =>
   simp only [eU] at hl
   obtain ⟨u',dy,hl⟩:=Q2 hl
   simp [Q1] at hl
   rw [<- hl] at h2
   simp at h2
   exact ⟨x,y,rfl,hu,h2▸dy⟩
  | y::z::q,hl =>
   simp only [eU] at hl
   obtain ⟨u',dy,hl⟩:=Q2 hl
   obtain ⟨l',jF,hl⟩:=Q2 hl
   obtain ⟨u2,iM,jF⟩:=Q2 jF
   obtain ⟨l2,gd,jF⟩:=Q2 jF
   simp at hl jF
   rw [<- hl,<- jF] at h2
   simp at h2
theorem QU {c:Call} {t:TypeId} (h:c.argTypes.toList=[t]):c.argTypes = #[t]:=by
 generalize c.argTypes=A at h ⊢;obtain ⟨l⟩:=A;simp at h;rw [h]
theorem NY {c:Call} {t u:TypeId} (h:c.argTypes.toList=[t,u]):c.argTypes = #[t,u]:=by
 generalize c.argTypes=A at h ⊢;obtain ⟨l⟩:=A;simp at h;rw [h]
theorem Qmn {c:Call} {t e:TypeId} {a:Option Addr} {n m:Nat} (ho:o.op=.call c) (hb:c.callee=.builtin .len) (ht:c.argTypes.toList=[t]) (hv:eU env c.args.toList=some [.slice a n m]) (hu:P.underlying t=some (.slice e)) :
  bG P nt o env (.int .i64 n):=by
 refine ⟨fun ι D act w he=>⟨_,?_,.int _ _⟩,fun D h=>.int _ _⟩
 obtain ⟨x,hx,wq⟩:=QT hv
 obtain ⟨a',cap,e',_,_⟩:=(Qe he wq).oN
 obtain ⟨cs,cD⟩:=E1 (P:=P) ho hb act.eval w
 rw [cD,QU ht,hx]
 simp [builtin,Builtin.len_,e',run_underlying hu,goInt]
theorem Qjb {c:Call} {t e:TypeId} (ho:o.op=.call c) (hb:c.callee=.builtin .cap) (ht:c.argTypes.toList=[t]) (hv:eU env c.args.toList=some [.slice none 0 0]) (hu:P.underlying t=some (.slice e)) :
  bG P nt o env (.int .i64 0):=by
 refine ⟨fun ι D act w he=>⟨_,?_,.int _ _⟩,fun D h=>.int _ _⟩
 obtain ⟨x,hx,wq⟩:=QT hv
 have e':act.eval x=.slice none 0 0:=by
  have:=Qe he wq
  cases hq:act.eval x<;>rw [hq] at this<;>cases this;rfl
 obtain ⟨cs,cD⟩:=E1 (P:=P) ho hb act.eval w
 rw [cD,QU ht,hx]
 simp [builtin,Builtin.cap_,e',run_underlying hu,goInt]
theorem Qjc {c:Call} {t:TypeId} {s:ByteArray} (ho:o.op=.call c) (hb:c.callee=.builtin .len) (ht:c.argTypes.toList=[t]) (hv:eU env c.args.toList=some [.string s]) (hu:P.underlying t=some .string) :
  bG P nt o env (.int .i64 s.size):=by
 refine ⟨fun ι D act w he=>⟨_,?_,.int _ _⟩,fun D h=>.int _ _⟩
 obtain ⟨x,hx,wq⟩:=QT hv
 obtain ⟨cs,cD⟩:=E1 (P:=P) ho hb act.eval w
 rw [cD,QU ht,hx]
 simp [builtin,Builtin.len_,(Qe he wq).bO,run_underlying hu,goInt]
theorem Qrz {c:Call} {k k':IntKind} {x y:Int} (ho:o.op=.call c) (hb:c.callee=.builtin .min) (hv:eU env c.args.toList=some [.int k x,.int k' y]):bG P nt o env (.int k (if y < x then y else x)):=by
 refine ⟨fun ι D act w he=>⟨_,?_,.int _ _⟩,fun D h=>.int _ _⟩
 obtain ⟨p,q,hx,h1,h2⟩:=Ir hv
 obtain ⟨cs,cD⟩:=E1 (P:=P) ho hb act.eval w
 rw [cD,hx]
 simp [builtin,(Qe he h1).aM,(Qe he h2).aM,run_min_int2]
theorem Qs0 {c:Call} {k k':IntKind} {x y:Int} (ho:o.op=.call c) (hb:c.callee=.builtin .max) (hv:eU env c.args.toList=some [.int k x,.int k' y]):bG P nt o env (.int k (if y > x then y else x)):=by
 refine ⟨fun ι D act w he=>⟨_,?_,.int _ _⟩,fun D h=>.int _ _⟩
 obtain ⟨p,q,hx,h1,h2⟩:=Ir hv
 obtain ⟨cs,cD⟩:=E1 (P:=P) ho hb act.eval w
 rw [cD,hx]
 simp [builtin,(Qe he h1).aM,(Qe he h2).aM,run_max_int2]
def E2 (ι:Io) (D:Nat->Prop):List (Nat×Value)->List (Nat×Value)->Prop
 | [],[]=>True
 | x::r,y::q=>x.1=y.1/\ay ι D x.2 y.2/\E2 ι D r q
 | _,_=>False
theorem QV {ι:Io} {D:Nat->Prop} {a:Act} (he:bt ι D nt env a):∀ {xs:List (Nat×Operand)} {ps:List (Nat×Value)},ox env xs=some ps->E2 ι D ps (xs.map fun (i,x)=>(i,a.eval x))
 | [],ps,h=>by simp [ox] at h;subst h;trivial
 | (i,x)::r,ps,h=>by
  simp only [ox] at h
  obtain ⟨v,hv,h⟩:=Q2 h
  obtain ⟨l,hl,h⟩:=Q2 h
  simp at h;subst h
  exact ⟨rfl,Qe he hv,QV he hl⟩
theorem QW {D:Nat->Prop} (he:dJ D env):∀ {xs:List (Nat×Operand)} {ps:List (Nat×Value)},ox env xs=some ps->∀ p∈ps,bK D p.2
 | [],ps,h=>by simp [ox] at h;subst h;simp
 | (i,x)::r,ps,h=>by
  simp only [ox] at h
  obtain ⟨v,hv,h⟩:=Q2 h
  obtain ⟨l,hl,h⟩:=Q2 h
  simp at h;subst h
  intro p hp
  rcases Z2 hp with rfl | hp
  .exact nk he hv
  .exact QW he hl p hp
theorem ay.cells {ι:Io} {D:Nat->Prop} {v c:Value} (h:ay ι D v c):aZ ι D v.cells.toList c.cells.toList:=by
 cases hv:Ev.az v with
 | true =>
  have hc:=h.az
  have e1:v.cells = #[v]:=by cases v<;>first | rfl | simp [Ev.az] at hv
  have e2:c.cells = #[c]:=by rw [hv] at hc;cases c<;>first | rfl | simp [Ev.az] at hc
  rw [e1,e2];exact aZ.cons h (aZ.nil ι D)
 | false =>
  cases h<;>first | (simp [Ev.az] at hv;done) | skip
  case agg xs ys hl h=>exact ⟨hl,h⟩
  case tuple xs ys hl h=>exact aZ.cons (.tuple xs ys hl h) (aZ.nil ι D)
theorem bK.cells {D:Nat->Prop} {v:Value} (h:bK D v):gO D v.cells.toList:=by
 cases v
 case agg xs=>exact h.kP
 all_goals
  intro u hu
  simp [Value.cells] at hu
  subst hu;exact h
theorem aZ.set {ι:Io} {D:Nat->Prop} {xs ys:Array Value} (h:aZ ι D xs.toList ys.toList) {v c:Value} (hv:ay ι D v c) (i:Nat):aZ ι D (xs.setIfInBounds i v).toList (ys.setIfInBounds i c).toList:=by
 simp only [Array.toList_setIfInBounds]
 refine ⟨by simp [h.1],fun j h1 h2=>?_⟩
 simp only [List.getElem_set]
 split
 .exact hv
 .exact h.2 j _ _
theorem Yd {ι:Io} {D:Nat->Prop} (off:Nat):∀ (l l':List Value) (n:Nat) (A A':Array Value),aZ ι D l l'->aZ ι D A.toList A'.toList ->
  aZ ι D ((l.zipIdx n).foldl (fun cs (c,j)=>cs.setIfInBounds (off+j) c) A).toList ((l'.zipIdx n).foldl (fun cs (c,j)=>cs.setIfInBounds (off+j) c) A').toList
 | [],[],n,A,A',_,hA=>by simpa using hA
 | [],_::_,_,_,_,h,_=>absurd h.1 (by simp)
 | _::_,[],_,_,_,h,_=>absurd h.1 (by simp)
 | v::l,c::l',n,A,A',h,hA=>by
  simp only [List.zipIdx_cons,List.foldl_cons]
  exact Yd off l l' (n+1) _ _ h.tail (hA.set h.head _)
theorem QX {ι:Io} {D:Nat->Prop} (place:Nat->Option (Nat×Nat)):∀ (ps qs:List (Nat×Value)) (A A' cs:Array Value),E2 ι D ps qs->aZ ι D A.toList A'.toList->Instr.fill place A ps=some cs->∃ sY,Instr.fill place A' qs=some sY/\aZ ι D cs.toList sY.toList
 | [],[],A,A',cs,_,hA,h=>by simp [Instr.fill] at h;subst h;exact ⟨A',rfl,hA⟩
 | [],_::_,_,_,_,h,_,_=>h.elim
 | _::_,[],_,_,_,h,_,_=>h.elim
 | (i,v)::ps,(j,c)::qs,A,A',cs,⟨e,hv,hp⟩,hA,h=>by
  simp only at e hv
  subst e
  simp only [Instr.fill] at h ⊢
  cases iN:place i with
  | none=>rw [iN] at h;simp at h
  | some os =>
   obtain ⟨off,size⟩:=os
   rw [iN] at h
   simp only at h ⊢
   have cD:c.cells.size=v.cells.size:=by have:=hv.cells.1;simpa using this.symm
   have hAs:A'.size=A.size:=by have:=hA.1;simpa using this.symm
   rw [cD,hAs]
   split at h
   .simp at h
   .rename_i hn
    rw [if_neg hn]
    refine QX place ps qs _ _ cs hp ?_ h
    have:=Yd (ι:=ι) (D:=D) off v.cells.toList c.cells.toList 0 A A' hv.cells hA
    rw [<- Array.foldl_toList,<- Array.foldl_toList]
    simpa using this
theorem Ye {D:Nat->Prop} (off:Nat):∀ (l:List Value) (n:Nat) (A:Array Value),gO D l->gO D A.toList->gO D ((l.zipIdx n).foldl (fun cs (c,j)=>cs.setIfInBounds (off+j) c) A).toList
 | [],n,A,_,hA=>by simpa using hA
 | v::l,n,A,h,hA=>by
  simp only [List.zipIdx_cons,List.foldl_cons]
  refine Ye off l (n+1) _ (fun u hu=>h u (List.mem_cons_of_mem _ hu)) ?_
  intro u hu
  simp only [Array.toList_setIfInBounds] at hu
  rcases List.mem_or_eq_of_mem_set hu with hu | rfl
  .exact hA u hu
  .exact h _ (List.mem_cons_self ..)
theorem QY {D:Nat->Prop} (place:Nat->Option (Nat×Nat)):∀ (ps:List (Nat×Value)) (A cs:Array Value),(∀ p∈ps,bK D p.2)->gO D A.toList->Instr.fill place A ps=some cs->gO D cs.toList
 | [],A,cs,_,hA,h=>by simp [Instr.fill] at h;subst h;exact hA
 | (i,v)::ps,A,cs,hp,hA,h=>by
  simp only [Instr.fill] at h
  cases iN:place i with
  | none=>rw [iN] at h;simp at h
  | some os =>
   obtain ⟨off,size⟩:=os
   rw [iN] at h
   simp only at h
   split at h
   .simp at h
   .refine QY place ps _ cs (fun p h=>hp p (List.mem_cons_of_mem _ h)) ?_ h
    have:=Ye (D:=D) off v.cells.toList 0 A (hp _ (List.mem_cons_self ..)).cells hA
    rw [<- Array.foldl_toList]
    simpa using this
theorem Qmo {t:TypeId} {ps:List (Nat×Value)} {cs:Array Value} (h:P.built t ps=some cs):∃ z place,AM P t=some z/\(∀ qs,P.built t qs=Instr.fill place z.cells qs):=by
 unfold Program.built at h
 cases Bw:P.info? t with
 | none=>simp [Bw] at h
 | some it =>
  cases hu:P.underlying t with
  | none=>simp [Bw,hu] at h
  | some d =>
   cases hz:it.zero with
   | none=>cases d<;>simp [Bw,hu,hz] at h
   | some z =>
    have Yf:AM P t=some z:=by simp [AM,Bw,Q1,hz]
    cases d<;>try (simp [Bw,hu] at h;done)
    case array n e =>
     cases NZ:P.info? e with
     | none=>simp [Bw,hu,hz,NZ] at h
     | some ie=>exact ⟨z,fun i=>some (i*ie.size,ie.size),Yf,fun qs=>by simp only [Program.built,Bw,hu,hz,NZ]⟩
    case struct fields =>
     cases hp:fields.toList.mapM (fun f=>(P.info? f.type).map fun i=>(f.offset,i.size)) with
     | none=>simp [Bw,hu,hz,hp] at h
     | some places=>exact ⟨z,fun x=>places.toArray[x]?,Yf,fun qs=>by simp only [Program.built,Bw,hu,hz,hp]⟩
theorem Qmp {t:TypeId} {parts:Array (Nat×Operand)} {ps:List (Nat×Value)} {cs:Array Value} (ho:o.op=.build t parts) (hp:ox env parts.toList=some ps) (hf:E3 P t ps=some cs):bG P nt o env (.agg cs):=by
 unfold E3 at hf
 obtain ⟨z,hz,hf⟩:=Q2 hf
 split at hf
 .rename_i Dd
  obtain ⟨z',place,aX,hb⟩:=Qmo hf
  rw [hz] at aX;simp at aX;subst aX
  refine ⟨fun ι D a w he=>?_,fun D he=>?_⟩
  .rw [hb] at hf
   obtain ⟨sY,h1,h2⟩:=QX place _ _ _ _ cs (QV he hp) (aZ.cq Dd ι D) hf
   refine ⟨.agg sY,?_,h2.bZ⟩
   have aT:=run_build (P:=P) w t (parts.map fun (i,x)=>(i,a.eval x)) sY (by rw [hb,<- h1];congr 1;simp)
   simp only [execOp,ho,Sem.run_bind,aT,Result.andThen_ok,Sem.run_pure]
  .rw [hb] at hf
   exact bK.bZ (QY place _ _ cs (QW he hp) (fun v hv=>sZ (Z3 Dd v hv) D) hf)
 .simp at hf
end
structure ko (P:Program) (nt:Nat) (o:Oper) (env:Env) (H:af) (raw v:Value):Prop where
 rd:cX P o.op env H=some raw
 run:∀ (ι:Io) (D:Nat->Prop) (a:Act) (w:World) (G:af),cX P o.op env G=some raw->Rel ι D G w->bt ι D nt env a->∃ c,(execOp a.eval o).run P w=.ok (.value c) w/\ay ι D v c
 lt:dJ (aL H.length) env->Ql H.length H->bK (aL H.length) v
structure fP (P:Program) (nt:Nat) (o:Oper) (env:Env) (vs:List Value) (mk:Nat->Value):Prop where
 cells:∀ v∈vs,az v=true
 run:∀ (ι:Io) (D:Nat->Prop) (a:Act) (w:World),bt ι D nt env a->∃ (cs rest:List Value) (fc:TypeId) (fz:Nat×Nat) (w0:World) (c:Value),aZ ι D vs cs/\oO fz (cs++rest).length/\w0.heap=w.heap/\w0.os=w.os/\w0.tape=w.tape/\w0.output=w.output /\
  (execOp a.eval o).run P w=.ok (.value c) (w0.alloc (.cells (cs++rest).toArray fc fz))/\∀ id,ay (ι.set id ⟨w.heap.size,0,(cs++rest).length⟩) (fun b=>D b\/b=id) (mk id) c
 lt:∀ D:Nat->Prop,dJ D env->gO D vs
 ltv:∀ (D:Nat->Prop) id,D id->bK D (mk id)
 aI:∀ id,Is (mk id)=some id
section
variable {P:Program} {nt:Nat} {o:Oper} {env:Env} {H:af} {X:Cx} {β:Type} {K:Value->af->Option β} {r:β}
theorem N0 {a:Addr} {n:Nat} {l:List Value} (h:Qx H a n=some l) (hc:Ql H.length H):gO (aL H.length) l:=by
 obtain ⟨k,hk,h⟩:=Q2 h
 split at h
 .simp at h;subst h
  intro v hv
  exact hc _ (Qt hk) k hk v (List.mem_of_mem_drop (List.mem_of_mem_take hv))
 .simp at h
theorem Yg {a:Addr} {n:Nat} {l:List Value} (h:fJ H a n=some l) (hc:Ql H.length H):gO (aL H.length) l:=by
 cases n with
 | zero=>simp only [fJ,Option.some.injEq] at h;subst h;intro v hv;simp at hv
 | succ m=>exact N0 h hc
theorem Yh {a:Addr} {v:Value} (h:gD H a=some v) (hc:Ql H.length H):bK (aL H.length) v:=by
 obtain ⟨k,hk,h⟩:=Q2 h
 exact hc _ (Qt hk) k hk v (Zc h)
theorem Qje {t:TypeId} {x:Operand} {v:Value} (ho:o.op=.load t x) (hg:AN P t x=some v):ko P nt o env H v v:=by
 obtain ⟨g,l,i,n,e,rfl,hl,hi,hu,h1,h2,rfl⟩:=Yi hg
 refine ⟨by simp only [cX,ho,hg],fun ι D a w G _ hR _=>⟨.agg l.toArray,?_,aZ.bZ (aZ.cq h2 ι D)⟩,fun _ _=>bK.bZ fun v hv=>sZ (Z3 h2 v hv) _⟩
 have aT:=run_loadCells_list (P:=P) w (⟨g,0,none⟩:Addr) l (fun j v hv=>hR.gw.cells hl j v hv)
 have nq:(isAgg t).run P w=.ok true w:=by simp [isAgg,run_underlying hu]
 have ex:a.eval (.global g)=.pointer (some ⟨g,0,none⟩):=rfl
 rw [h1] at aT
 simp only [execOp,ho,ex,Instr.loadAt,Instr.sureAddr,loadVar,Sem.run_bind,Sem.run_pure,Result.andThen_ok,nq,if_true,sizeOf,typeInfo,run_program,hi,aT]
theorem Yj {t:TypeId} {x:Operand} {p:Addr} {i:TypeInfo} {l:List Value} {d:TypeDesc} (ho:o.op=.load t x) (hx:ev env x=some (.pointer (some p))) (hi:P.info? t=some i) (hu:P.underlying t=some d)
  (hd:(∃ fs,d=.struct fs)\/∃ n e,d=.array n e) (hl:Qx H p i.size=some l):ko P nt o env H (.agg l.toArray) (.agg l.toArray):=by
 have kQ:∀ G:af,cX P o.op env G=Q1 (Qx G p i.size) fun l=>some (.agg l.toArray):=by
  intro G
  rcases hd with ⟨fs,rfl⟩ | ⟨n,e,rfl⟩<;>simp only [cX,ho,J8 hx,hx,Q1,eX,hi,hu]
 refine ⟨by rw [kQ,hl];rfl,fun ι D a w G hG hR he=>?_,fun he hc=>bK.bZ (N0 hl hc)⟩
 rw [kQ] at hG
 obtain ⟨l',jF,e⟩:=Q2 hG
 simp at e;subst e
 obtain ⟨cs,h1,h2,h3,h4⟩:=hR.wu jF
 have aT:=run_loadCells_list (P:=P) w (ι.addr p) cs h3
 refine ⟨.agg cs.toArray,?_,aZ.bZ h2⟩
 have ex:=(Qe he hx).dD.1
 have nq:(isAgg t).run P w=.ok true w:=by
  rcases hd with ⟨fs,rfl⟩ | ⟨n,e,rfl⟩<;>simp [isAgg,run_underlying hu]
 rw [h1] at aT
 simp only [execOp,ho,ex,Instr.loadAt,Instr.sureAddr,loadVar,Sem.run_bind,Sem.run_pure,Result.andThen_ok,nq,if_true,sizeOf,typeInfo,run_program,hi,aT]
theorem Qoh {t:TypeId} {x:Operand} {p:Addr} {i:TypeInfo} {u:Value} {d:TypeDesc} (ho:o.op=.load t x) (hx:ev env x=some (.pointer (some p))) (hi:P.info? t=some i) (hu:P.underlying t=some d)
  (hd:(∀ fs,d≠.struct fs)/\∀ n e,d≠.array n e) (hl:gD H p=some u):ko P nt o env H u u:=by
 have kQ:∀ G:af,cX P o.op env G=gD G p:=by
  intro G
  simp only [cX,ho,J8 hx,hx,Q1,eX,hi,hu]
  cases d<;>first | rfl | exact absurd rfl (hd.1 _) | exact absurd rfl (hd.2 _ _)
 refine ⟨by rw [kQ,hl],fun ι D a w G hG hR he=>?_,fun he hc=>Yh hl hc⟩
 rw [kQ] at hG
 obtain ⟨c,h1,h2,h3⟩:=hR.load hG
 refine ⟨c,?_,h2⟩
 have ex:=(Qe he hx).dD.1
 have nq:(isAgg t).run P w=.ok false w:=by
  simp only [isAgg,Sem.run_bind,run_underlying hu,Result.andThen_ok]
  cases d<;>first | rfl | exact absurd rfl (hd.1 _) | exact absurd rfl (hd.2 _ _)
 simp only [execOp,ho,ex,Instr.loadAt,Instr.sureAddr,loadVar,Sem.run_bind,Sem.run_pure,Result.andThen_ok,nq,Bool.false_eq_true,if_false,run_load,h1]
theorem N1 {ι:Io} {D:Nat->Prop} {w:World} (hR:Rel ι D H w) {size:Nat} {a:Option Addr} {n m:Nat} {l:List Value} (hl:Qf H size (.slice a n m)=some l) {c:Value} (hc:ay ι D (.slice a n m) c) :
  ∃ cs:List Value,cs.length=n*size/\aZ ι D l cs/\(∀ v∈l,az v=true)/\(Builtin.firstCells size n c).run P w=.ok cs.toArray w/\∃ a' cap,c=.slice a' n cap/\(a'=none->n=0):=by
 unfold Qf at hl
 split at hl
 .rename_i h;simp at h;obtain ⟨rfl,rfl,rfl⟩:=h
  simp at hl;subst hl
  cases hc
  exact ⟨[],by simp,aZ.nil ι D,by simp,by simp [Builtin.firstCells],none,0,rfl,fun _=>rfl⟩
 .rename_i p n' m' h;simp at h;obtain ⟨rfl,rfl,rfl⟩:=h
  obtain ⟨cs,h1,h2,h3,h4⟩:=hR.De hl
  cases hc with
  | e_ _ _ _ cap hD AL kO =>
   have aT:=run_loadCells_list (P:=P) w (ι.addr p) cs h3
   rw [h1] at aT
   exact ⟨cs,h1,h2,h4,by simp only [Builtin.firstCells];exact aT,_,cap,rfl,by simp⟩
  | bD _ b _ hD =>
   have e:cs=[]:=Z1 (by simpa using h1)
   subst e
   exact ⟨[],by simp,h2,h4,by simp [Builtin.firstCells,loadCells,loadCellsFrom],_,0,rfl,by simp⟩
 .simp at hl
theorem Qed {size:Nat} {v:Value} {l:List Value} (hl:Qf H size v=some l) (hc:Ql H.length H):gO (aL H.length) l:=by
 unfold Qf at hl
 split at hl
 .simp at hl;subst hl;intro v hv;simp at hv
 .exact Yg hl hc
 .simp at hl
theorem Yk:∀ {l:List Value} {bs:List UInt8},Df l=some bs->∃ ns:List Int,l=ns.map (Value.int .u8)/\bs=ns.map fun n=>UInt8.ofNat n.toNat
 | [],bs,h=>by simp [Df] at h;subst h;exact ⟨[],rfl,rfl⟩
 | c::cs,bs,h=>by
  unfold Df at h
  split at h
  .simp at *
  .rename_i n r heq
   simp at heq
   obtain ⟨rfl,rfl⟩:=heq
   obtain ⟨l,hl,h⟩:=Q2 h
   simp at h;subst h
   obtain ⟨ns,e1,e2⟩:=Yk hl
   exact ⟨n::ns,by simp [e1],by simp [e2]⟩
  .simp at h
theorem Qmq (ns:List Int):∀ s:ByteArray,ns.foldl (fun r n=>r.push (UInt8.ofNat n.toNat)) s=⟨(s.data.toList++ns.map fun n=>UInt8.ofNat n.toNat).toArray⟩:=by
 induction ns with
 | nil=>intro s;simp
 | cons n ns ih =>
  intro s
  rw [List.foldl_cons,ih]
  simp [ByteArray.push]
theorem Yl {ι:Io} {D:Nat->Prop}:∀ {ns:List Int} {cs:List Value},aZ ι D (ns.map (Value.int .u8)) cs->cs=ns.map (Value.int .u8)
 | [],cs,h=>by
  have:=h.1;simp at this;exact Z1 this.symm
 | n::ns,[],h=>absurd h.1 (by simp)
 | n::ns,c::cs,h=>by
  rw [h.head.aM,Yl (ns:=ns) h.tail];rfl
theorem Qcr {src dst e:TypeId} {x:Operand} {a:Option Addr} {n m:Nat} {l:List Value} {bs:List UInt8} (ho:o.op=.convert src dst x) (hx:ev env x=some (.slice a n m)) (h1:P.underlying src=some (.slice e)) (h2:P.underlying dst=some .string)
  (h3:P.underlying e=some (.int .u8)) (hl:Qf H 1 (.slice a n m)=some l) (hb:Df l=some bs):ko P nt o env H (.agg l.toArray) (.string ⟨bs.toArray⟩):=by
 have kQ:∀ G:af,cX P o.op env G=Q1 (Qf G 1 (.slice a n m)) fun l=>some (.agg l.toArray):=by
  intro G;simp only [cX,ho,hx,Q1]
 refine ⟨by rw [kQ,hl];rfl,fun ι D act w G hG hR he=>⟨.string ⟨bs.toArray⟩,?_,.str _⟩,fun _ _=>.str _⟩
 rw [kQ] at hG
 obtain ⟨l',jF,e'⟩:=Q2 hG
 simp at e';subst e'
 obtain ⟨ns,e1,e2⟩:=Yk hb
 obtain ⟨cs,g1,g2,g3,g4,a',cap,g5,g6⟩:=N1 (P:=P) hR jF (Qe he hx)
 rw [e1] at g2
 have cD:=Yl g2
 subst cD
 have aT:(Conv.bytesToString (.slice a' n cap)).run P w=.ok (.string ⟨bs.toArray⟩) w:=by
  cases a' with
  | none =>
   have hn:=g6 rfl
   subst hn
   have:ns=[]:=by simpa using g1
   subst this
   simp at e2;subst e2
   rfl
  | some q =>
   rw [g5] at g4
   simp only [Builtin.firstCells,Nat.mul_one] at g4
   rw [run_bytesToString w q n cap ns g4,Qmq,e2]
   rfl
 simp only [execOp,ho,g5,Sem.run_bind,run_convert_bytes_string w src dst e a' n cap h1 h3 h2,aT,Result.andThen_ok,Sem.run_pure]
theorem Ym {ι:Io} {D:Nat->Prop} {k sz:Nat} (id:Nat):ay (ι.set id ⟨k,0,sz⟩) (fun b=>D b\/b=id) (.pointer (some ⟨id,0,none⟩)) (.pointer (some ⟨k,0,none⟩)):=by
 have:=ay.ptr (ι:=ι.set id ⟨k,0,sz⟩) (D:=fun b=>D b\/b=id) ⟨id,0,none⟩ (.inr rfl)
 simp only [Io.addr,Io.aB] at this
 exact this
theorem J9 {ι:Io} {D:Nat->Prop} {k sz n c cap:Nat} (id:Nat) (hl:n<=cap) (hc:cap*c<=sz):ay (ι.set id ⟨k,0,sz⟩) (fun b=>D b\/b=id) (.slice (some ⟨id,0,none⟩) n c) (.slice (some ⟨k,0,none⟩) n cap):=by
 have:=ay.e_ (ι:=ι.set id ⟨k,0,sz⟩) (D:=fun b=>D b\/b=id) ⟨id,0,none⟩ n c cap (.inr rfl) hl (by simp only [Io.aB];omega)
 simp only [Io.addr,Io.aB] at this
 exact this
theorem Qjf {t:TypeId} {z:Value} (ho:o.op=.alloc t) (hz:AM P t=some z) (hl:z.cells.toList.all Qu=true):fP P nt o env z.cells.toList fun id=>.pointer (some ⟨id,0,none⟩):=by
 refine ⟨fun v hv=>It (Z3 hl v hv),fun ι D a w he=>⟨z.cells.toList,[],t,(0,0),w,.pointer (some ⟨w.heap.size,0,none⟩),aZ.cq hl ι D,oO.zero _,rfl,rfl,rfl,rfl,?_,fun id=>Ym id⟩,
  fun D _ v hv=>sZ (Z3 hl v hv) D,fun D id h=>.ptr _ h,fun id=>rfl⟩
 obtain ⟨i,hi,aX⟩:=Q2 hz
 simp only [execOp,ho,Instr.alloc,zeroValue,typeInfo,newVar,newRow,Sem.run_bind,run_program,Result.andThen_ok,hi,Sem.run_pure,aX,run_newObj,List.append_nil,Array.toArray_toList]
 rfl
theorem Qoj {t:TypeId} {x:Operand} {v:Value} (ho:o.op=.box t x) (hx:ev env x=some v) (hl:v.cells.toList.all az=true):fP P nt o env v.cells.toList fun id=>.pointer (some ⟨id,0,none⟩):=by
 refine ⟨fun u hu=>Z3 hl u hu,fun ι D a w he=>⟨(a.eval x).cells.toList,[],t,(0,0),w,.pointer (some ⟨w.heap.size,0,none⟩),(Qe he hx).cells,oO.zero _,rfl,rfl,rfl,rfl,?_,fun id=>Ym id⟩,
  fun D he=>(nk he hx).cells,fun D id h=>.ptr _ h,fun id=>rfl⟩
 simp only [execOp,ho,Instr.box,newVar,newRow,Sem.run_bind,Result.andThen_ok,Sem.run_pure,run_newObj,List.append_nil,Array.toArray_toList]
 rfl
theorem range_add (a b:Nat):List.range (a+b)=List.range a++(List.range b).map (a + ·):=List.range_add
theorem J_ (z:Array Value):∀ n:Nat,((Array.range (n*z.size)).map fun i=>z[i % z.size]!).toList=(List.replicate n z.toList).flatten:=by
 intro n
 simp only [Array.toList_map,Array.toList_range]
 induction n with
 | zero=>simp
 | succ n ih =>
  rw [List.replicate_succ,Ze,<- ih,show (n+1)*z.size=z.size+n*z.size by rw [Nat.add_mul];omega,List.range_add,List.map_append,List.map_map]
  congr 1
  .apply List.ext_getElem
   .simp
   .intro i h1 h2
    simp only [List.length_map,List.length_range] at h1
    simp [Nat.mod_eq_of_lt h1,getElem!_pos z i h1]
  .apply List.map_congr_left
   intro i _
   simp
theorem Bx {z:List Value} {p:Value->Bool} (h:z.all p=true) (n:Nat):(List.replicate n z).flatten.all p=true:=by
 rw [List.all_eq_true] at h ⊢
 intro v hv
 obtain ⟨l,hl,hv⟩:=List.mem_flatten.1 hv
 rw [(List.mem_replicate.1 hl).2] at hv
 exact h v hv
theorem Iu {t e:TypeId} {size bytes:Nat} {z:Value} (h:oP P t=some (e,size,bytes,z)) :
  ∃ i,P.underlying t=some (.slice e)/\P.info? e=some i/\i.size=size/\i.bytes=bytes/\i.zero=some z/\z.cells.toList.all Qu=true/\z.cells.size=size/\1<=bytes:=by
 unfold oP at h
 split at h
 .rename_i e' hu
  obtain ⟨i,hi,h⟩:=Q2 h
  obtain ⟨z',hz,h⟩:=Q2 h
  split at h
  .rename_i g1 g2 g3
   simp at h
   obtain ⟨rfl,rfl,rfl,rfl⟩:=h
   exact ⟨i,hu,hi,rfl,rfl,hz,g1,Z7 g2,Zi g3⟩
  .simp at h
 .simp at h
theorem Qa9 {t e:TypeId} {len size bytes:Nat} {parts:Array (Nat×Operand)} {ps:List (Nat×Value)} {z:Value} {cs:Array Value} (ho:o.op=.buildSlice t len parts) (hp:ox env parts.toList=some ps) (gE:oP P t=some (e,size,bytes,z))
  (h1:Nat.ble (len*size) 16777216=true) (hf:Instr.fill (fun i=>some (i*size,size)) ((List.replicate len z.cells.toList).flatten.toArray) ps=some cs) (hc:cs.toList.all az=true) (hlen:cs.size=len*size) :
  fP P nt o env cs.toList fun id=>.slice (some ⟨id,0,none⟩) len size:=by
 obtain ⟨i,hu,hi,rfl,rfl,hz,h2,h3,ga⟩:=Iu gE
 have h1:=Zi h1
 refine ⟨fun u hu=>Z3 hc u hu,fun ι D a w he=>?_,fun D he=>QY _ _ _ cs (QW he hp) (fun v hv=>sZ (Z3 (Bx h2 len) v (by simpa using hv)) D) hf,fun D id h=>.sl _ _ _ h,fun id=>rfl⟩
 obtain ⟨sY,g1,g2⟩:=QX (ι:=ι) (D:=D) _ _ _ _ ((List.replicate len z.cells.toList).flatten.toArray) cs (QV he hp) (aZ.cq (by simpa using Bx h2 len) ι D) hf
 have jF:sY.size=len*i.size:=by have:=g2.1;simp at this;omega
 refine ⟨sY.toList,[],e,(0,0),w,.slice (some ⟨w.heap.size,0,none⟩) len len,g2,oO.zero _,rfl,rfl,rfl,rfl,?_,fun id=>J9 id (Zd _) (by simp;omega)⟩
 have eI:¬ (len*i.size > 2 ^ 24):=by omega
 have wz:(parts.map fun (x:Nat×Operand)=>(x.fst,a.eval x.snd)).toList=parts.toList.map fun (i,x)=>(i,a.eval x):=by simp
 by_cases h0:len*i.size=0
 .have iX:((Array.range (len*i.size)).map ((#[]:Array Value)[· % (#[]:Array Value).size]!))=(List.replicate len z.cells.toList).flatten.toArray:=by
   apply Array.ext'
   have:=J_ z.cells len
   rw [h3,h0] at this
   rw [<- this,h0];simp
  simp only [execOp,ho,Instr.buildSlice,Sem.run_bind,run_underlying hu,Result.andThen_ok,sizeOf,typeInfo,run_program,hi,Sem.run_pure,if_neg eI,if_pos h0,iX,wz,g1,newRow,run_newObj,List.append_nil,Array.toArray_toList]
  rfl
 .have iX:((Array.range (len*i.size)).map (z.cells[· % z.cells.size]!))=(List.replicate len z.cells.toList).flatten.toArray:=by
   apply Array.ext'
   have:=J_ z.cells len
   rw [h3] at this
   rw [h3]
   simpa using this
  simp only [execOp,ho,Instr.buildSlice,Sem.run_bind,run_underlying hu,Result.andThen_ok,sizeOf,typeInfo,run_program,hi,Sem.run_pure,if_neg eI,if_neg h0,zeroValue,hz,iX,wz,g1,newRow,run_newObj,List.append_nil,Array.toArray_toList]
  rfl
theorem QZ (n:Nat) (h:n<=9223372036854775807):IntKind.i64.wrap (n:Int)=n:=by rw [IntKind.wrap_i64];omega
theorem Qay {t e:TypeId} {l c:Operand} {n m size bytes:Nat} {z:Value} (ho:o.op=.makeSlice t l c) (hl:ev env l=some (.int .i64 (n:Int))) (hc:ev env c=some (.int .i64 (m:Int))) (gE:oP P t=some (e,size,bytes,z))
  (h1:n<=m) (h2:m*bytes<=Q7) :
  fP P nt o env (List.replicate n z.cells.toList).flatten fun id=>.slice (some ⟨id,0,none⟩) n size:=by
 obtain ⟨i,hu,hi,rfl,rfl,hz,h4,h5,ga⟩:=Iu gE
 have h3:m<=9223372036854775807:=by
  have e1:m*1<=m*i.bytes:=Nat.mul_le_mul_left m ga
  have e2:m*i.bytes<=140737488355328:=h2
  omega
 refine ⟨fun u hu=>It (Z3 (Bx h4 n) u hu),fun ι D a w he=>?_,fun D he v hv=>sZ (Z3 (Bx h4 n) v hv) D,fun D id h=>.sl _ _ _ h,fun id=>rfl⟩
 have wF:(List.replicate n z.cells.toList).flatten++(List.replicate (m - n) z.cells.toList).flatten=(List.replicate m z.cells.toList).flatten:=by
  rw [<- List.flatten_append,<- List.replicate_append_replicate.symm]
  congr 2
  omega
 have hlen:((List.replicate n z.cells.toList).flatten++(List.replicate (m - n) z.cells.toList).flatten).length=m*i.size:=by
  rw [wF];simp [h5]
 refine ⟨(List.replicate n z.cells.toList).flatten,(List.replicate (m - n) z.cells.toList).flatten,e,(0,0),w,.slice (some ⟨w.heap.size,0,none⟩) n m,aZ.cq (Bx h4 n) ι D,oO.zero _,rfl,rfl,rfl,rfl,?_,
  fun id=>J9 id h1 (by rw [hlen];exact Zd _)⟩
 have e1:=(Qe he hl).aM
 have e2:=(Qe he hc).aM
 have w1:=QZ n (by omega)
 have w2:=QZ m h3
 have bh:¬ ((i.bytes:Int)*(m:Int) > 2 ^ 48):=by
  have:m*i.bytes<=140737488355328:=h2
  have e:((i.bytes:Int)*(m:Int))=((m*i.bytes:Nat):Int):=by push_cast;rw [Int.mul_comm]
  rw [e];omega
 have cY:¬ ((((decide ((m:Int) < 0) || decide ((i.bytes:Int)*(m:Int) > 2 ^ 48)) || decide ((n:Int) < 0)) || decide ((n:Int) > (m:Int)))=true):=by
  simp only [Bool.or_eq_true,Zj,not_or]
  exact ⟨⟨⟨by omega,bh⟩,by omega⟩,by omega⟩
 rw [wF]
 have Yn:(m:Int).toNat=m:=by omega
 have J':(n:Int).toNat=n:=by omega
 by_cases h0:m*i.size=0
 .have iX:((Array.range (m*i.size)).map ((#[]:Array Value)[· % (#[]:Array Value).size]!))=(List.replicate m z.cells.toList).flatten.toArray:=by
   apply Array.ext'
   have:=J_ z.cells m
   rw [h5,h0] at this
   rw [<- this,h0];simp
  simp only [execOp,ho,e1,e2,Instr.makeSlice,asInt,asIntOf,Sem.run_bind,run_underlying hu,Result.andThen_ok,sizeOf,typeInfo,run_program,hi,Sem.run_pure,w1,w2,if_neg cY,run_askRoom,Yn,J',if_pos h0,iX,newRow,run_newObj]
  rfl
 .have iX:((Array.range (m*i.size)).map (z.cells[· % z.cells.size]!))=(List.replicate m z.cells.toList).flatten.toArray:=by
   apply Array.ext'
   have:=J_ z.cells m
   rw [h5] at this
   rw [h5]
   simpa using this
  simp only [execOp,ho,e1,e2,Instr.makeSlice,asInt,asIntOf,Sem.run_bind,run_underlying hu,Result.andThen_ok,sizeOf,typeInfo,run_program,hi,Sem.run_pure,w1,w2,if_neg cY,run_askRoom,Yn,J',if_neg h0,zeroValue,hz,iX,newRow,run_newObj]
  rfl
theorem Dg (s:ByteArray):(byteCells s).all Qu=true:=by
 rw [List.all_eq_true]
 intro v hv
 obtain ⟨b,_,rfl⟩:=List.mem_map.1 hv
 rfl
theorem Qmr (w:World) (arr:Array Value) (e:TypeId):(w.alloc (.cells arr e)).freeze ⟨w.heap.size,arr.size,none⟩ 1=w.alloc (.cells arr e (arr.size,arr.size+1)):=by
 unfold World.freeze World.alloc
 simp only [Nat.one_ne_zero,if_false]
 congr 1
 apply Array.ext
 .simp
 .intro k h1 h2
  rw [Array.getElem_modify]
  by_cases hk:w.heap.size=k
  .subst hk;simp
  .rw [if_neg hk]
   simp only [Array.size_push] at h2
   rw [Array.getElem_push_lt (by omega),Array.getElem_push_lt (by omega)]
theorem Qef {src dst e:TypeId} {x:Operand} {s:ByteArray} (ho:o.op=.convert src dst x) (hx:ev env x=some (.string s)) (h1:P.underlying src=some .string) (h2:P.underlying dst=some (.slice e)) (h3:P.underlying e=some (.int .u8)) :
  fP P nt o env (s.data.toList.map fun b=>.int .u8 b.toNat) fun id=>.slice (some ⟨id,0,none⟩) s.size 1:=by
 have hb:(s.data.toList.map fun b=>Value.int .u8 b.toNat)=byteCells s:=rfl
 rw [hb]
 refine ⟨fun u hu=>It (Z3 (Dg s) u hu),fun ι D a w he=>?_,fun D he v hv=>sZ (Z3 (Dg s) v hv) D,fun D id h=>.sl _ _ _ h,fun id=>rfl⟩
 let cap:=(Question.appendCap s.size 0 e).cut (w.tape w.drawn (.appendCap s.size 0 e))
 have kO:s.size<=cap:=by simp [cap,Question.cut]
 have hlen:(byteCells s++List.replicate (cap - s.size) (Value.int .u8 0)).length=cap:=by
  rw [Zf,byteCells_length,List.length_replicate];omega
 refine ⟨byteCells s,List.replicate (cap - s.size) (.int .u8 0),e,(cap,cap+1),w.drew,.slice (some ⟨w.heap.size,0,none⟩) s.size cap,aZ.cq (Dg s) ι D,by rw [hlen];exact oO.behind _ _,rfl,rfl,rfl,rfl,?_,
  fun id=>J9 id kO (by rw [hlen];omega)⟩
 have jS:(s.data.map fun b=>Value.int .u8 b.toNat)++Array.replicate (cap - s.size) (.int .u8 0)=(byteCells s++List.replicate (cap - s.size) (Value.int .u8 0)).toArray:=by
  apply Array.ext';simp [byteCells]
 have rz:=Qmr w.drew (byteCells s++List.replicate (cap - s.size) (Value.int .u8 0)).toArray e
 have bf:(byteCells s++List.replicate (cap - s.size) (Value.int .u8 0)).toArray.size=cap:=by simpa using hlen
 rw [bf] at rz
 have dU:=Yo w.drew (byteCells s++List.replicate (cap - s.size) (Value.int .u8 0)).toArray e (0,0)
 rw [bf] at dU
 have Ka:(convert src dst (.string s)).run P w=(Conv.stringToBytes e s).run P w:=by
  simp [convert,run_underlying h1,run_underlying h2,run_underlying h3]
 have aT:(Conv.stringToBytes e s).run P w=.ok (.slice (some ⟨w.heap.size,0,none⟩) s.size cap) (w.drew.alloc (.cells (byteCells s++List.replicate (cap - s.size) (Value.int .u8 0)).toArray e (cap,cap+1))):=by
  rw [<- rz]
  simp only [Conv.stringToBytes,Sem.run_bind,run_choose,Question.forced,Bool.false_eq_true,if_false,Result.andThen_ok,newRow,run_newObj,Sem.run_pure]
  rw [show (Question.appendCap s.size 0 e).cut (w.tape w.drawn (.appendCap s.size 0 e))=cap from rfl,jS]
  show ((markStringish ⟨w.drew.heap.size,0,none⟩).run P (w.drew.alloc (.cells (byteCells s++List.replicate (cap - s.size) (Value.int .u8 0)).toArray e))).andThen (fun _ w'=>Result.ok (Value.slice (some ⟨w.heap.size,0,none⟩) s.size cap) w')=_
  simp only [markStringish,Sem.run_bind,run_shape,Result.andThen_ok,dU,run_freeze]
 simp only [execOp,ho,(Qe he hx).bO,Sem.run_bind,Ka,aT,Result.andThen_ok,Sem.run_pure]
end
structure iY (P:Program) (nt ai:Nat) (o:Oper) (env:Env) (H:af) (v:Value) (H':af):Prop where
 lt:dJ (aL H.length) env->Ql H.length H->bK (aL H'.length) v
 ab:dJ (aL H.length) env->Ql H.length H->Ab ai H H'
 run:∀ (ι:Io) (a:Act) (w:World),Rel ι (aL H.length) H w->bt ι (aL H.length) nt env a->∀ (next:Act->World->Prop) (Q:Exit->Act->World->Prop),
  (∀ ι' w' c,Rel ι' (aL H'.length) H' w'->ay ι' (aL H'.length) v c->Fr ι H w ι' H' w'->next (a.put o.dst c) w')->o.wp P a w next Q
structure ig (P:Program) (f:FuncId) (args:List Value) (ai:Nat) (H:af) (v:Value) (H':af):Prop where
 lt:gO (aL H.length) args->Ql H.length H->bK (aL H'.length) v
 ab:gO (aL H.length) args->Ql H.length H->Ab ai H H'
 enter:∀ (bS:Array Value) (w:World),(callFunc f bS).run P w=.ok (.enter f bS) w
 run:∀ (ι:Io) (w:World) (bS:Array Value),Rel ι (aL H.length) H w->aZ ι (aL H.length) args bS.toList ->
  Calls P f bS w fun e w'=>∃ ι' c,e=.returned c/\Rel ι' (aL H'.length) H' w'/\ay ι' (aL H'.length) v c/\Fr ι H w ι' H' w'
def oQ (P:Program) (call:FuncId->List Value->Nat->af->Option (Value×af)):Prop :=
 ∀ f args ai H v H',call f args ai H=some (v,H')->ig P f args ai H v H'
section
variable {P:Program} {nt ai:Nat} {o:Oper} {env:Env} {H H':af} {X:Cx} {β:Type} {K:Value->af->Option β} {r:β}
theorem oR {a:Act} {w w':World} {c:Value} {next:Act->World->Prop} {Q:Exit->Act->World->Prop} (h:(execOp a.eval o).run P w=.ok (.value c) w') (hn:next (a.put o.dst c) w'):o.wp P a w next Q:=by
 unfold Oper.wp;rw [h];exact hn
theorem Iv (ι:Io) (D:Nat->Prop):ay ι D undef undef:=.tuple [] [] rfl fun i h1=>absurd h1 (by simp)
theorem Kb (D:Nat->Prop):bK D undef:=(Iv (fun _=>⟨0,0,0⟩) D).lt
theorem Qok {t:TypeId} {x y:Operand} {p:Addr} {u:Value} {i:TypeInfo} (ho:o.op=.store t x y) (hx:ev env x=some (.pointer (some p))) (hy:ev env y=some u) (hi:P.info? t=some i) (hs:Nat.beq u.cells.size i.size=true)
  (hh:oS H ai p u.cells.toList=some H'):iY P nt ai o env H undef H':=by
 refine ⟨fun _ _=>Kb _,fun he _=>Yp hh (nk he hy).cells,fun ι a w hR he next Q hn=>?_⟩
 have ex:=(Qe he hx).dD.1
 have hc:=(Qe he hy).cells
 obtain ⟨h1,h2,h3⟩:=hR.store (P:=P) hh hc
 have hlen:H'.length=H.length:=by
  obtain ⟨k,hk,mN⟩:=Q2 hh
  split at mN
  .simp at mN;subst mN;simp
  .simp at mN
 have bf:¬ ((a.eval y).cells.size≠i.size):=by
  have:=hc.1
  have:=Z7 hs
  simp at *;omega
 have aT:(execOp a.eval o).run P w=.ok .skip (w.setCells (ι p.block).aI ((ι p.block).off+p.off) (a.eval y).cells.toList):=by
  simp only [execOp,ho,ex,Instr.storeAt,Instr.sureAddr,storeVar,Sem.run_bind,Sem.run_pure,Result.andThen_ok,sizeOf,typeInfo,run_program,hi,if_neg bf,h1]
 unfold Oper.wp;rw [aT]
 rw [<- hlen] at h2
 exact hn ι _ undef h2 (Iv _ _) h3
theorem Qs1 {c:Call} {f:Operand} {g:FuncId} {first cap:Array Value} (ho:o.op=.call c) (hc:c.callee=.value f) {a:Act} {w:World} (hf:a.eval f=.func (.func g) first cap) :
  (execOp a.eval o).run P w=(callFunc g (first++c.args.map a.eval++cap)).run P w:=by
 simp only [execOp,ho,resolve,hc,Deferred.ofValue,hf,invoke,Sem.run_bind,Sem.run_pure,Result.andThen_ok]
theorem Qs2 {c:Call} {f:Operand} {g:FuncId} {first cap:Array Value} {vs:List Value} {v:Value} (ho:o.op=.call c) (hc:c.callee=.value f) (hf:ev env f=some (.func (.func g) first cap)) (hv:eU env c.args.toList=some vs)
  (rA:ig P g (first.toList++vs++cap.toList) ai H v H'):iY P nt ai o env H v H':=by
 have au:dJ (aL H.length) env->gO (aL H.length) (first.toList++vs++cap.toList):=by
  intro he u hu
  have h1:=(nk he hf).wG
  simp only [Zh] at hu
  rcases hu with (hu | hu) | hu
  .exact h1.1 u hu
  .exact N3 he hv u hu
  .exact h1.2 u hu
 refine ⟨fun he fy=>rA.lt (au he) fy,fun he fy=>rA.ab (au he) fy,fun ι a w hR he next Q hn=>?_⟩
 obtain ⟨Q_,aab,e1,h1,h2⟩:=(Qe he hf).nr
 have hargs:=N4 he hv
 unfold Oper.wp
 rw [Qs1 ho hc e1,rA.enter]
 simp only [Oper.upon]
 refine (rA.run ι w _ hR ?_).mono ?_
 .simp only [Array.toList_append,Array.toList_map]
  exact (h1.append hargs).append h2
 .rintro e w' ⟨ι',c',rfl,g1,g2,g3⟩
  exact hn ι' w' c' g1 g2 g3
theorem Fr.drew (ι:Io) (H:af) (w:World):Fr ι H w ι H w.drew:=(Fr.refl ι H w).bz rfl rfl rfl rfl
theorem Qol {ι:Io} {D:Nat->Prop} {w:World} (hR:Rel ι D H w) {size:Nat} {u e':TypeId} (hu:P.underlying u=some (.slice e')) {a:Option Addr} {n m:Nat} {l:List Value} (hl:Qf H size (.slice a n m)=some l) {c:Value} (hc:ay ι D (.slice a n m) c) :
  ∃ cs,aZ ι D l cs/\(∀ v∈l,az v=true)/\Src P size u c n cs w:=by
 obtain ⟨cs,h1,h2,h3,h4,a',cap,h5,h6⟩:=N1 (P:=P) hR hl hc
 obtain ⟨cs2,k1,k2,k3,k4,_⟩:=N1 (P:=P) (hR.bz (w':=w.drew) rfl) hl hc
 have E4:∀ x∈cs,x.oneCell'=true:=by
  intro x hx
  obtain ⟨i,hi,e⟩:=List.getElem_of_mem hx
  rw [<- e,Ra,(h2.2 i (by have:=h2.1;omega) hi).az]
  exact h3 _ (List.getElem_mem _)
 refine ⟨cs,h2,h3,⟨.inl ⟨e',hu⟩,fun w'=>by rw [h5];rfl,h4,?_,h1,E4⟩⟩
 rw [h5] at h4 ⊢
 cases a' with
 | none=>simp [Builtin.firstCells] at h4 ⊢;rw [h4]
 | some q =>
  simp only [Builtin.firstCells] at h4 ⊢
  have gG:∀ (k i:Nat) (acc:Array Value),(loadCellsFrom q i k acc).run P w.drew=(match (loadCellsFrom q i k acc).run P w with | .ok v _=>.ok v w.drew | .halt h _=>.halt h w.drew):=by
   intro k
   induction k with
   | zero=>intro i acc;simp [loadCellsFrom]
   | succ k ih =>
    intro i acc
    simp only [loadCellsFrom,Sem.run_bind,run_load]
    have e1:w.drew.cell? (q.add i)=w.cell? (q.add i):=rfl
    have e2:∀ b,w.drew.farLoad P (q.add i) b=w.farLoad P (q.add i) b:=fun b=>rfl
    rw [e1]
    cases bL:w.cell? (q.add i) with
    | some v=>simp only [Result.andThen_ok];exact ih _ _
    | none =>
     simp only
     rw [e2]
     cases aac:w.farLoad P (q.add i) (Mode.plain==Mode.atomic) with
     | ok x=>simp only [Result.andThen_ok];exact ih _ _
     | error h=>rfl
  have:=gG (n*size) 0 #[]
  unfold loadCells at h4 ⊢
  rw [this,h4]
end
structure nu (P:Program) (t u ty e:TypeId) (i:TypeInfo) (z:Value) (x:Value) (n:Nat) (cs:List Value) (w:World):Prop where
 len:cs.length=n*i.size
 room:∀ b off bC cw:Nat,bC+n<=cw->(∀ j,j < cs.length->(w.cell? ⟨b,off+bC*i.size+j,none⟩).isSome=true)->(∀ j,j < cs.length->w.frozen? ⟨b,off+bC*i.size+j,none⟩=false) ->
  (Builtin.append_ #[t,u] ty #[.slice (some ⟨b,off,none⟩) bC cw,x]).run P w=.ok (.slice (some ⟨b,off,none⟩) (bC+n) cw) (w.setCells b (off+bC*i.size) cs)
 grow:∀ (base:Option Addr) (bC cw:Nat) (olds:List Value),(Builtin.firstCells i.size bC (.slice base bC cw)).run P w.drew=.ok olds.toArray w.drew->cw < bC+n->((bC+n:Nat):Int)<=9223372036854775807 ->
  Builtin.nextslicecap (bC+n) cw*i.bytes<=281474976710656 ->
  (Builtin.append_ #[t,u] ty #[.slice base bC cw,x]).run P w=.ok (.slice (some ⟨w.heap.size,0,none⟩) (bC+n) (grownCap w (bC+n) cw e))
    (w.drew.alloc (.cells ((olds++cs).toArray++Builtin.zeroCells z.cells (grownCap w (bC+n) cw e - (bC+n))) e))
 nothing:n=0->∀ (base:Option Addr) (bC cw:Nat),bC<=cw->(Builtin.append_ #[t,u] ty #[.slice base bC cw,x]).run P w=.ok (.slice base bC cw) w
section
variable {P:Program} {nt ai:Nat} {o:Oper} {env:Env} {H H':af} {X:Cx} {β:Type} {K:Value->af->Option β} {r:β}
theorem nu.Dh {t u ty e:TypeId} {i:TypeInfo} {z x:Value} {n:Nat} {cs:List Value} {w:World} (ht:P.underlying t=some (.slice e)) (hi:P.info? e=some i) (hz:i.zero=some z) (h:Src P i.size u x n cs w):nu P t u ty e i z x n cs w:=by
 refine ⟨h.newsLen,fun b off bC cw h1 h2 h3=>run_append_room_src w t u ty e i ht hi b off bC cw x n cs h h1 h2 h3,
  fun base bC cw olds h1 h2 h3 h4=>run_append_grow_src w t u ty e i z ht hi hz base bC cw olds h1 x n cs h h2 h3 h4,fun hn base bC cw hle=>?_⟩
 subst hn
 have:cs=[]:=Z1 (by simpa using h.newsLen)
 subst this
 exact run_append_nothing w t u ty e i ht hi base bC cw hle x h
theorem Qeg {z:Value} (h:z.cells.toList.all Qu=true) (n:Nat):∀ v∈(List.replicate n z.cells.toList).flatten,v.oneCell'=true:=by
 intro v hv
 rw [Ra]
 exact It (Z3 (Bx h n) v hv)
theorem Yq (z:Array Value) (n:Nat):Builtin.zeroCells z n=(List.replicate n z.toList).flatten.toArray:=by
 apply Array.ext'
 have:=J_ z n
 simpa [Builtin.zeroCells] using this
theorem nu.By {t u ty e:TypeId} {i:TypeInfo} {z:Value} {k k':IntKind} {n:Nat} {w:World} (ht:P.underlying t=some (.slice e)) (hi:P.info? e=some i) (hz:i.zero=some z) (hu:P.underlying u=some (.int k)) (h1:n*i.bytes<=140737488355328) (hb:1<=i.bytes)
  (h4:z.cells.toList.all Qu=true) (h5:z.cells.size=i.size):nu P t u ty e i z (.int k' (n:Int)) n (List.replicate n z.cells.toList).flatten w:=by
 have hle:n<=140737488355328:=by
  have:n*1<=n*i.bytes:=Nat.mul_le_mul_left n hb
  omega
 have hw:IntKind.i64.wrap (n:Int)=n:=QZ n (by omega)
 have rB:¬ (281474976710656 < (n:Int)*(i.bytes:Int)):=by
  have:((n:Int)*(i.bytes:Int))=((n*i.bytes:Nat):Int):=by push_cast;rfl
  rw [this];omega
 have vE:¬ ((n:Int) < 0):=by omega
 have cD:((List.replicate n z.cells.toList).flatten).length=n*i.size:=by simp [h5]
 refine ⟨cD,fun b off bC cw g1 g2 g3=>?_,fun base bC cw olds g1 g2 g3 g4=>?_,fun hn base bC cw Rb=>?_⟩
 .have eP:=run_storeCells_cells (P:=P) b (off+bC*i.size) _ 0 w (by simpa using g2) (by simpa using g3) (Qeg h4 n)
  simp only [Nat.add_zero] at eP
  by_cases jT:n*i.size=0
  .have e0:(List.replicate n z.cells.toList).flatten=[]:=Z1 (by rw [cD];exact jT)
   rw [e0] at eP ⊢
   have E5:n=0\/i.size=0:=Nat.mul_eq_zero.1 jT
   simp [Builtin.append_,run_underlying ht,run_underlying hu,sizeOf,typeInfo,hi,asInt,asIntOf,hw,vE,rB,g1,jT,Addr.add_lit,eP]
  .have E5:¬ (n=0\/i.size=0):=fun h=>jT (Nat.mul_eq_zero.2 h)
   simp [Builtin.append_,run_underlying ht,run_underlying hu,sizeOf,typeInfo,hi,asInt,asIntOf,hw,vE,rB,g1,jT,zeroValue,hz,Yq,Addr.add_lit,eP]
 .have hn:¬ (bC+n<=cw):=by omega
  have Kc:¬ (9223372036854775807 < ((bC:Int)+(n:Int))):=by omega
  have Ke:¬ (281474976710656 < Builtin.nextslicecap (bC+n) cw*i.bytes):=by omega
  by_cases jT:n*i.size=0
  .have e0:(List.replicate n z.cells.toList).flatten=[]:=Z1 (by rw [cD];exact jT)
   rw [e0]
   have E5:n=0\/i.size=0:=Nat.mul_eq_zero.1 jT
   simp [Builtin.append_,run_underlying ht,run_underlying hu,sizeOf,typeInfo,hi,asInt,asIntOf,hw,vE,rB,hn,Kc,Ke,jT,zeroValue,hz,Question.forced,g1,newRow,grownCap]
  .have E5:¬ (n=0\/i.size=0):=fun h=>jT (Nat.mul_eq_zero.2 h)
   simp [Builtin.append_,run_underlying ht,run_underlying hu,sizeOf,typeInfo,hi,asInt,asIntOf,hw,vE,rB,hn,Kc,Ke,jT,zeroValue,hz,Question.forced,g1,newRow,grownCap,Yq]
 .subst hn
  have Rc:IntKind.i64.wrap 0=0:=by decide
  cases base<;>simp [Rc,Builtin.append_,run_underlying ht,run_underlying hu,sizeOf,typeInfo,hi,asInt,asIntOf,hw,vE,Rb,storeCells]
theorem Kg {c:Call} {t u:TypeId} {x y:Operand} (ho:o.op=.call c) (hb:c.callee=.builtin .append) (ht:c.argTypes = #[t,u]) (ha:c.args = #[x,y]) (a:Act) (w:World) :
  (execOp a.eval o).run P w=((Builtin.append_ #[t,u] o.type #[a.eval x,a.eval y]).run P w).andThen fun v w'=>.ok (.value v) w':=by
 obtain ⟨cs,cD⟩:=E1 (P:=P) ho hb a.eval w
 rw [cD,ht,ha]
 simp [builtin]
theorem Rd {c:Call} {t u e:TypeId} {x y:Operand} {i:TypeInfo} {z s:Value} {news:List Value} {n:Nat} (ho:o.op=.call c) (hb:c.callee=.builtin .append) (ht:c.argTypes = #[t,u]) (ha:c.args = #[x,y])
  (hu:P.underlying t=some (.slice e)) (hi:P.info? e=some i) (hz:i.zero=some z) (Bz:z.cells.size=i.size) (ga:1<=i.bytes) (hx:ev env x=some s)
  (wH:∀ (ι:Io) (a:Act) (w:World),Rel ι (aL H.length) H w->bt ι (aL H.length) nt env a->∃ cs,aZ ι (aL H.length) news cs/\(∀ v∈news,az v=true)/\nu P t u o.type e i z (a.eval y) n cs w)
  (au:dJ (aL H.length) env->Ql H.length H->gO (aL H.length) news) {K:Value->af->Option β} {r:β} (h:BA i.size i.bytes s news n H K=some r) :
  ∃ v H',K v H'=some r/\iY P nt ai o env H v H':=by
 have wI:∀ k:Nat,k*i.bytes<=Q7->k<=140737488355328:=by
  intro k hk
  have e1:k*1<=k*i.bytes:=Nat.mul_le_mul_left k ga
  have e2:k*i.bytes<=140737488355328:=hk
  omega
 have cx:∀ (w:World) (bC cw:Nat) (cs olds:List Value),olds.length=bC*i.size->cs.length=n*i.size ->
   ((olds++cs).toArray++Builtin.zeroCells z.cells (grownCap w (bC+n) cw e - (bC+n)))=((olds++cs)++(Builtin.zeroCells z.cells (grownCap w (bC+n) cw e - (bC+n))).toList).toArray /\
   grownCap w (bC+n) cw e*i.size<=((olds++cs)++(Builtin.zeroCells z.cells (grownCap w (bC+n) cw e - (bC+n))).toList).length:=by
  intro w bC cw cs olds h1 h2
  refine ⟨by apply Array.ext';simp,?_⟩
  have s_:=grownCap_ge w (bC+n) cw e
  simp only [Zf,Array.length_toList,size_zeroCells,Bz,h1,h2]
  rw [<- Nat.add_mul,<- Nat.add_mul]
  exact Zk _ (by omega)
 unfold BA at h
 replace h:=Q2 h;obtain ⟨⟨rv,rh⟩,gh,h⟩:=h
 replace h:=Yr h;obtain ⟨ra,rn,rc,Re,h⟩:=h
 simp only at Re h
 rw [<- Re] at h
 clear Re
 refine ⟨rv,rh,h,?_⟩
 clear h
 unfold rC at gh
 split at gh
 .split at gh
  .simp at gh;obtain ⟨rfl,rfl⟩:=gh
   refine ⟨fun _ _=>.dI,fun _ _=>Ab.refl _ _,fun ι a w hR he next Q hn=>?_⟩
   obtain ⟨cs,h1,bL,h2⟩:=wH ι a w hR he
   have ex:a.eval x=.slice none 0 0:=by
    have:=Qe he hx
    cases hq:a.eval x<;>rw [hq] at this<;>cases this;rfl
   have aT:(execOp a.eval o).run P w=.ok (.value (.slice none 0 0)) w:=by
    rw [Kg ho hb ht ha,ex,h2.nothing rfl none 0 0 (Zd _)];rfl
   exact oR aT (hn ι w _ hR .dI (Fr.refl ι H w))
  .rename_i m
   rcases jG gh with ⟨bh,gh⟩ | ⟨_,gh⟩
   .have bh:(m+1)*i.bytes<=Q7:=Zi bh
    simp at gh;obtain ⟨rfl,rfl⟩:=gh
    refine ⟨fun _ _=>.sl _ _ _ (by simp [aL,Qy]),fun he hc=>Rf _ (au he hc),fun ι a w hR he next Q hn=>?_⟩
    obtain ⟨cs,h1,bL,h2⟩:=wH ι a w hR he
    have ex:a.eval x=.slice none 0 0:=by
     have:=Qe he hx
     cases hq:a.eval x<;>rw [hq] at this<;>cases this;rfl
    have hN:=wI (m+1) bh
    have hg:=h2.grow none 0 0 [] (by simp [Builtin.firstCells]) (by omega) (by omega) (growslice_fits (by omega) (by rw [Zo];exact bh))
    obtain ⟨r1,r2⟩:=cx w 0 0 cs [] (by simp) h2.len
    rw [r1] at hg
    simp only [List.nil_append,Zo] at hg r2
    have aT:(execOp a.eval o).run P w=.ok (.value (.slice (some ⟨w.heap.size,0,none⟩) (m+1) (grownCap w (m+1) 0 e))) (w.drew.alloc (.cells (cs++(Builtin.zeroCells z.cells (grownCap w (m+1) 0 e - (m+1))).toList).toArray e)):=by
     rw [Kg ho hb ht ha,ex,hg];rfl
    obtain ⟨g1,g2⟩:=(hR.bz (w':=w.drew) rfl).push h1 bL (Builtin.zeroCells z.cells (grownCap w (m+1) 0 e - (m+1))).toList e (0,0) (oO.zero _)
    refine oR aT (hn _ _ _ g1 ?_ ((Fr.drew ι H w).trans g2))
    rw [Qy]
    exact (J9 (ι:=ι) (D:=aL H.length) H.length (by have:=grownCap_ge w (m+1) 0 e;omega) r2).mono (by intro b gP;simp [aL] at gP ⊢;omega) fun _ _=>rfl
   .simp at gh
 .rename_i p len c'
  replace gh:=Q2 gh;obtain ⟨k,hk,gh⟩:=gh
  rcases jG gh with ⟨cY,gh⟩ | ⟨_,gh⟩
  .simp only [Z8,Bool.not_eq_true'] at cY
   obtain ⟨⟨⟨bn,Rh⟩,oT⟩,bh⟩:=cY
   have Rh:=Z7 Rh
   have Ri:=Zi oT
   have bh:(len+n)*i.bytes<=Q7:=Zi bh
   simp at gh;obtain ⟨rfl,rfl⟩:=gh
   subst Rh
   obtain ⟨kc,kr⟩:=k
   simp only at bn Ri;subst bn
   generalize AO:kc.take (p.off+len*i.size)=km at *
   have oT:p.off+len*i.size=km.length:=by rw [<- AO];simp;omega
   have hlen:(H.set p.block none).length=H.length:=by simp
   have nv:(H.set p.block (some ⟨km,false,none⟩)).set p.block none=H.set p.block none:=by simp
   have ij:(H.set p.block (some ⟨km,false,none⟩)).length=H.length:=by simp
   have hN:=wI (len+n) bh
   have Rj:(km.drop p.off).length=len*i.size:=by simp;omega
   refine ⟨fun _ _=>.sl _ _ _ (by simp [aL,Qy]),fun he hc=>?_,fun ι a w hR he next Q hn=>?_⟩
   .refine (Qx0 ai H p.block).trans (Rf _ ?_)
    rw [hlen]
    intro v hv
    rcases List.mem_append.1 hv with hv | hv
    .exact hc _ (Qt hk) _ hk v (List.mem_of_mem_take (by rw [AO];exact List.mem_of_mem_drop hv))
    .exact au he hc v hv
   .obtain ⟨cs,h1,bL,h2⟩:=wH ι a w hR he
    have AL:cs.length=n*i.size:=h2.len
    obtain ⟨wJ,BB,Rk⟩:=hR.Kh hk rfl (p.off+len*i.size)
    simp only [AO] at wJ BB Rk
    have Rl:=BB.aI _ _ wJ
    have BC:Rel ι (aL (H.set p.block (some ⟨km,false,none⟩)).length) (H.set p.block (some ⟨km,false,none⟩)) w:=by rw [ij];exact BB
    have E6:Qf (H.set p.block (some ⟨km,false,none⟩)) i.size (.slice (some p) len i.size)=some (km.drop p.off):=by
     have h0:fJ (H.set p.block (some ⟨km,false,none⟩)) p (len*i.size)=Qx (H.set p.block (some ⟨km,false,none⟩)) p (len*i.size):=by
      cases hz:len*i.size with
      | zero =>
       have:Nat.ble (p.off+0) km.length=true:=Nat.ble_eq_true_of_le (by omega)
       simp only [fJ,Qx,wJ,Q1,this];simp
      | succ m=>rfl
     simp only [Qf,h0,Qx,wJ,Q1]
     have:Nat.ble (p.off+len*i.size) km.length=true:=Nat.ble_eq_true_of_le (by omega)
     rw [this]
     simp only [Option.some.injEq]
     rw [Zs (by simp;omega)]
    have Di:∀ (q:Addr) (cap:Nat),a.eval x=.slice (some q) len cap->cap < len+n->o.wp P a w next Q:=by
     intro q cap ex kO
     have hv:=Qe he hx
     rw [ex] at hv
     obtain ⟨olds,o1,o2,o3,o4,_⟩:=N1 (P:=P) (BB.bz (w':=w.drew) rfl) E6 hv
     have hg:=h2.grow (some q) len cap olds o4 kO (by omega) (growslice_fits kO bh)
     obtain ⟨r1,r2⟩:=cx w len cap cs olds o1 AL
     rw [r1] at hg
     have aT:(execOp a.eval o).run P w=.ok (.value (.slice (some ⟨w.heap.size,0,none⟩) (len+n) (grownCap w (len+n) cap e))) (w.drew.alloc (.cells ((olds++cs)++(Builtin.zeroCells z.cells (grownCap w (len+n) cap e - (len+n))).toList).toArray e)):=by
      rw [Kg ho hb ht ha,ex,hg];rfl
     have Ki:Rel ι (aL (H.set p.block none).length) (H.set p.block none) w.drew:=by rw [hlen];exact (hR.bz (w':=w.drew) rfl).kill p.block
     have hall:∀ v∈km.drop p.off++news,az v=true:=by
      intro v hv
      rcases List.mem_append.1 hv with hv | hv
      .exact o3 v hv
      .exact bL v hv
     obtain ⟨g1,g2⟩:=Ki.push (vs:=km.drop p.off++news) (cs:=olds++cs) (by rw [hlen];exact o2.append h1) hall (Builtin.zeroCells z.cells (grownCap w (len+n) cap e - (len+n))).toList e (0,0) (oO.zero _)
     have rz:Fr ι H w ι (H.set p.block none) w.drew:=⟨by simp,fun _ _=>rfl,rfl,rfl,rfl,Zd _,fun _ _ _=>rfl,fun b aI hb hr=>.inr ⟨b,aI,Kj hb,hr,rfl⟩,fun b aI hb _=>Kj hb⟩
     have iZ:(dj (H.set p.block none) (km.drop p.off++news)).length=H.length+1:=by rw [Qy,hlen]
     rw [hlen] at g1 g2
     refine oR aT (hn _ _ _ g1 ?_ (rz.trans g2))
     rw [iZ]
     exact (J9 (ι:=ι) (D:=aL H.length) H.length (by have:=grownCap_ge w (len+n) cap e;omega) r2).mono (by intro b gP;simp [aL] at gP ⊢;omega) fun _ _=>rfl
    have hv:=Qe he hx
    generalize hq:a.eval x=q at hv
    cases hv with
    | e_ _ _ _ cap hD Ys kO =>
     by_cases i_:len+n<=cap
     .have hmul:(len+n)*i.size<=cap*i.size:=Zk _ i_
      have cr:(ι p.block).off+km.length+cs.length<=(ι p.block).size:=by rw [AL,<- oT];rw [Nat.add_mul] at hmul;omega
      have E7:(ι p.block).off+p.off+len*i.size=(ι p.block).off+km.length:=by omega
      have hr:=h2.room (ι p.block).aI ((ι p.block).off+p.off) len cap i_ (fun j hj=>by
       obtain ⟨fc,ja⟩:=Rl.shape (by omega)
       exact Rm ja (by omega)) (fun j hj=>Rl.tc rfl _ (by omega) (by omega))
      rw [E7] at hr
      have aT:(execOp a.eval o).run P w=.ok (.value (.slice (some ⟨(ι p.block).aI,(ι p.block).off+p.off,none⟩) (len+n) cap)) (w.setCells (ι p.block).aI ((ι p.block).off+km.length) cs):=by
       rw [Kg ho hb ht ha,hq]
       show ((Builtin.append_ #[t,u] o.type #[.slice (some ⟨(ι p.block).aI,(ι p.block).off+p.off,none⟩) len cap,a.eval y]).run P w).andThen _=_
       rw [hr];rfl
      obtain ⟨g1,g2⟩:=BC.alias wJ rfl (off:=p.off) (by simp only;omega) (by rw [ij];exact h1) bL (by simp only;exact cr)
      simp only [nv,ij] at g1 g2
      replace g2:=Rk.trans g2
      have iZ:(dj (H.set p.block none) (km.drop p.off++news)).length=H.length+1:=by rw [Qy,hlen]
      rw [<- iZ] at g1
      refine oR aT (hn _ _ _ g1 ?_ g2)
      rw [iZ]
      have:=ay.e_ (ι:=ι.set H.length ⟨(ι p.block).aI,(ι p.block).off+p.off,(ι p.block).size⟩) (D:=aL (H.length+1)) ⟨H.length,0,none⟩ (len+n) i.size cap (by simp [aL]) i_ (by simp only [Io.aB];omega)
      simp only [Io.addr,Io.aB,Nat.add_zero] at this
      exact this
     .exact Di _ cap hq (by omega)
    | bD _ b _ hD =>
     by_cases vE:n=0
     .subst vE
      have Rn:cs=[]:=Z1 (by simpa using AL)
      subst Rn
      have aT:(execOp a.eval o).run P w=.ok (.value (.slice (some b) 0 0)) w:=by
       rw [Kg ho hb ht ha,hq,h2.nothing rfl (some b) 0 0 (Zd _)];rfl
      obtain ⟨g1,g2⟩:=BC.alias wJ rfl (off:=p.off) (by simp only;omega) (by rw [ij];exact h1) bL (by simpa using Rl.fit)
      simp only [nv,ij] at g1 g2
      replace g2:=Rk.trans g2
      have iZ:(dj (H.set p.block none) (km.drop p.off++news)).length=H.length+1:=by rw [Qy,hlen]
      rw [<- iZ] at g1
      refine oR aT (hn _ _ _ g1 ?_ g2)
      rw [iZ]
      exact .bD _ _ _ (by simp [aL])
     .exact Di b 0 hq (by omega)
  .simp at gh
 .simp at gh
end
section
variable {P:Program} {nt ai:Nat} {o:Oper} {env:Env} {H H':af} {X:Cx} {β:Type} {K:Value->af->Option β} {r:β}
theorem Yt {c:Call} {t u:TypeId} {x y:Operand} (ho:o.op=.call c) (hb:c.callee=.builtin .copy) (ht:c.argTypes = #[t,u]) (ha:c.args = #[x,y]) (a:Act) (w:World) :
  (execOp a.eval o).run P w=((Builtin.copy_ #[t,u] o.type #[a.eval x,a.eval y]).run P w).andThen fun v w'=>.ok (.value v) w':=by
 obtain ⟨cs,cD⟩:=E1 (P:=P) ho hb a.eval w
 rw [cD,ht,ha]
 simp [builtin]
theorem Qjg {a:Addr} {vs:List Value} (h:oS H ai a vs=some H'):H'.length=H.length:=by
 obtain ⟨k,hk,hx⟩:=Q2 h
 split at hx
 .simp at hx;subst hx;simp
 .simp at hx
theorem Rp {c:Call} {t u e:TypeId} {x y:Operand} {i:TypeInfo} {p:Addr} {n m q:Nat} {vs:List Value} (ho:o.op=.call c) (hb:c.callee=.builtin .copy) (ht:c.argTypes = #[t,u]) (ha:c.args = #[x,y])
  (hu:P.underlying t=some (.slice e)) (hi:P.info? e=some i) (hx:ev env x=some (.slice (some p) n m)) (hle:vs.length<=n*i.size)
  (wH:∀ (ι:Io) (a:Act) (w:World),Rel ι (aL H.length) H w->bt ι (aL H.length) nt env a->∃ cs sl,aZ ι (aL H.length) vs cs/\(Builtin.lenOf (a.eval y)).run P w=.ok sl w/\Nat.min sl n=q/\(Builtin.firstCells i.size q (a.eval y)).run P w=.ok cs.toArray w)
  (au:dJ (aL H.length) env->Ql H.length H->gO (aL H.length) vs) (hh:oS H ai p vs=some H'):iY P nt ai o env H (.int .i64 q) H':=by
 have hlen:=Qjg hh
 refine ⟨fun _ _=>.int _ _,fun he hc=>Yp hh (au he hc),fun ι a w hR he next Q hn=>?_⟩
 obtain ⟨cs,sl,h1,h2,h3,h4⟩:=wH ι a w hR he
 obtain ⟨g1,g2,g3⟩:=hR.store (P:=P) hh h1
 have hv:=Qe he hx
 have key:∀ (d:Addr) (cap:Nat),a.eval x=.slice (some d) n cap->(storeCells d cs).run P w=.ok () (w.setCells (ι p.block).aI ((ι p.block).off+p.off) cs) ->
   o.wp P a w next Q:=by
  intro d cap ex eP
  have aT:(execOp a.eval o).run P w=.ok (.value (.int .i64 q)) (w.setCells (ι p.block).aI ((ι p.block).off+p.off) cs):=by
   rw [Yt ho hb ht ha,ex]
   simp [Builtin.copy_,run_underlying hu,h2,h3,sizeOf,typeInfo,hi,h4,eP,goInt]
  rw [<- hlen] at g2
  exact oR aT (hn ι _ _ g2 (.int _ _) g3)
 generalize hq:a.eval x=xv at hv
 cases hv with
 | e_ _ _ _ cap hD hl hc=>exact key _ cap hq g1
 | bD _ b _ hD =>
  have Rq:vs=[]:=Z1 (by simpa using hle)
  subst Rq
  have cD:cs=[]:=Z1 (by have:=h1.1;simpa using this.symm)
  subst cD
  exact key b 0 hq rfl
theorem Yu {c:Call} {t u e:TypeId} {x y:Operand} {i:TypeInfo} {sv:Value} (ho:o.op=.call c) (hb:c.callee=.builtin .copy) (ht:c.argTypes = #[t,u]) (ha:c.args = #[x,y])
  (hu:P.underlying t=some (.slice e)) (hi:P.info? e=some i) (hx:ev env x=some (.slice none 0 0)) (hy:ev env y=some sv) (hs:(∃ a n m,sv=.slice a n m)\/∃ s,sv=.string s):iY P nt ai o env H (.int .i64 0) H:=by
 refine ⟨fun _ _=>.int _ _,fun he hc=>Ab.refl _ _,fun ι a w hR he next Q hn=>?_⟩
 have hv:=Qe he hx
 have hw:=Qe he hy
 have ex:a.eval x=.slice none 0 0:=by
  generalize a.eval x=xv at hv
  cases hv;rfl
 have hl:∃ sl cs,(Builtin.lenOf (a.eval y)).run P w=.ok sl w/\(Builtin.firstCells i.size 0 (a.eval y)).run P w=.ok cs w:=by
  generalize a.eval y=yv at hw
  rcases hs with ⟨p,n,m,rfl⟩ | ⟨s,rfl⟩
  .cases hw with
   | dI=>exact ⟨0,#[],rfl,by simp [Builtin.firstCells]⟩
   | e_ _ _ _ cap hD hl hc=>exact ⟨n,#[],rfl,by simp [Builtin.firstCells,loadCells,loadCellsFrom]⟩
   | bD _ b _ hD=>exact ⟨0,#[],rfl,by simp [Builtin.firstCells,loadCells,loadCellsFrom]⟩
  .cases hw;exact ⟨s.size,_,rfl,rfl⟩
 obtain ⟨sl,cs,h2,h4⟩:=hl
 have aT:(execOp a.eval o).run P w=.ok (.value (.int .i64 0)) w:=by
  rw [Yt ho hb ht ha,ex]
  simp [Builtin.copy_,run_underlying hu,h2,sizeOf,typeInfo,hi,h4,goInt]
 exact oR aT (hn ι _ _ hR (.int _ _) (Fr.refl _ _ _))
def jH (X:Cx) (o:Oper) (env:Env) (H:af) (v:Value) (H':af):Prop :=
 match gb X.P o.op with
 | 0=>H'=H/\bG X.P X.nt o env v
 | 1=>H'=H/\∃ raw,ko X.P X.nt o env H raw v
 | 2=>∃ vs mk,v=mk H.length/\H'=dj H vs/\fP X.P X.nt o env vs mk
 | _=>iY X.P X.nt X.ai o env H v H'
theorem iq {v:Value} (hc:gb X.P o.op=0) (h:bG X.P X.nt o env v):jH X o env H v H:=by unfold jH;rw [hc];exact ⟨rfl,h⟩
theorem Kk {raw v:Value} (hc:gb X.P o.op=1) (h:ko X.P X.nt o env H raw v):jH X o env H v H:=by unfold jH;rw [hc];exact ⟨rfl,raw,h⟩
theorem Kl {vs:List Value} {mk:Nat->Value} (hc:gb X.P o.op=2) (h:fP X.P X.nt o env vs mk):jH X o env H (mk H.length) (dj H vs):=by unfold jH;rw [hc];exact ⟨vs,mk,rfl,rfl,h⟩
theorem AP {v:Value} (hc:gb X.P o.op=3) (h:iY X.P X.nt X.ai o env H v H'):jH X o env H v H':=by unfold jH;rw [hc];exact h
theorem Rs {v:Value} {F:Bool->Option β} {r:β} (h:wK v F=some r):∃ b,v=.bool b/\F b=some r:=by
 unfold wK at h;split at h
 .exact ⟨_,rfl,h⟩
 .simp at h
def kR:Builtin->Nat
 | .append=>3
 | .copy=>3
 | _=>0
theorem Qjh {c:Call} {b:Builtin} (aK:o.op=.call c) (hb:c.callee=.builtin b):gb P o.op=kR b:=by
 rw [aK]
 obtain ⟨callee,args,ts⟩:=c
 simp only at hb
 subst hb
 cases b<;>rfl
theorem Qej {c:Call} {b:Builtin} {vs:List Value} (aK:o.op=.call c) (hb:c.callee=.builtin b) (hv:eU env c.args.toList=some vs) (h:oU X.P X.ai b c.argTypes.toList vs H K=some r) :
  ∃ v H',K v H'=some r/\jH X o env H v H':=by
 have cz:=Qjh (P:=X.P) aK hb
 generalize E8:c.argTypes.toList=ts at h
 unfold oU at h
 split at h
 .rename_i t a n m
  split at h
  .rename_i e hu;exact ⟨_,_,h,iq cz (Qmn aK hb E8 hv hu)⟩
  .simp at h
 .rename_i t s
  split at h
  .rename_i hu;exact ⟨_,_,h,iq cz (Qjc aK hb E8 hv hu)⟩
  .simp at h
 .rename_i t
  split at h
  .rename_i e hu;exact ⟨_,_,h,iq cz (Qjb aK hb E8 hv hu)⟩
  .simp at h
 .split at h
  .exact ⟨_,_,h,iq cz (Qrz aK hb hv)⟩
  .simp at h
 .split at h
  .exact ⟨_,_,h,iq cz (Qs0 aK hb hv)⟩
  .simp at h
 .rename_i t u s x
  replace h:=Q2 h
  obtain ⟨⟨e,size,bytes,z⟩,he,h⟩:=h
  obtain ⟨i,hu,hi,rfl,rfl,hz,E9,Bz,ga⟩:=Iu he
  obtain ⟨p,q,hargs,hp,hq⟩:=Ir hv
  have ht:=NY E8
  simp only at h
  split at h
  .rename_i e' a n m Km
   replace h:=Q2 h
   obtain ⟨news,Dj,h⟩:=h
   obtain ⟨v,H',h1,h2⟩:=Rd (ai:=X.ai) aK hb ht hargs hu hi hz Bz ga hp (fun ι act w hR hE=>by
    obtain ⟨cs,g1,g2,g3⟩:=Qol (P:=X.P) hR Km Dj (Qe hE hq)
    exact ⟨cs,g1,g2,nu.Dh hu hi hz g3⟩) (fun hE hc=>Qed Dj hc) h
   exact ⟨v,H',h1,AP cz h2⟩
  .rename_i s' Km
   split at h
   .rename_i Dk
    obtain ⟨v,H',h1,h2⟩:=Rd (ai:=X.ai) (nt:=X.nt) (news:=byteCells s') (n:=s'.size) aK hb ht hargs hu hi hz Bz ga hp (fun ι act w hR hE=>by
     have hs:=Src.ofString (P:=X.P) w Km s'
     rw [<- Dk] at hs
     rw [(Qe hE hq).bO]
     exact ⟨byteCells s',aZ.cq (Dg s') ι _,fun v hv=>It (Z3 (Dg s') v hv),nu.Dh hu hi hz hs⟩) (fun hE hc v hv=>sZ (Z3 (Dg s') v hv) _)
     (K:=K) (r:=r) (by rw [Dk];exact h)
    exact ⟨v,H',h1,AP cz h2⟩
   .simp at h
  .rename_i k k' l Km
   rcases jG h with ⟨hl,h⟩ | ⟨_,h⟩
   .simp only [Z8,Zj] at hl
    obtain ⟨wm,oy⟩:=hl
    obtain ⟨n,rfl⟩:=Int.eq_ofNat_of_zero_le wm
    simp only [Int.toNat_natCast] at h
    have gd:n*i.bytes<=140737488355328:=by
     have:((n:Int)*(i.bytes:Int))=((n*i.bytes:Nat):Int):=by push_cast;rfl
     rw [this] at oy
     have:Q7=140737488355328:=rfl
     omega
    obtain ⟨v,H',h1,h2⟩:=Rd (ai:=X.ai) (nt:=X.nt) aK hb ht hargs hu hi hz Bz ga hp (fun ι act w hR hE=>by
     rw [(Qe hE hq).aM]
     exact ⟨_,aZ.cq (Bx E9 n) ι _,fun v hv=>It (Z3 (Bx E9 n) v hv),nu.By hu hi hz Km gd ga E9 Bz⟩) (fun hE hc v hv=>sZ (Z3 (Bx E9 n) v hv) _) h
    exact ⟨v,H',h1,AP cz h2⟩
   .simp at h
  .simp at h
 .rename_i t u sa sn sc
  replace h:=Q2 h
  obtain ⟨⟨e,size,bytes,z⟩,he,h⟩:=h
  obtain ⟨i,hu,hi,rfl,rfl,hz,E9,Bz,ga⟩:=Iu he
  obtain ⟨p,q,hargs,hp,hq⟩:=Ir hv
  have ht:=NY E8
  exact ⟨_,_,h,AP cz (Yu aK hb ht hargs hu hi hp hq (.inl ⟨_,_,_,rfl⟩))⟩
 .rename_i t u ss
  replace h:=Q2 h
  obtain ⟨⟨e,size,bytes,z⟩,he,h⟩:=h
  obtain ⟨i,hu,hi,rfl,rfl,hz,E9,Bz,ga⟩:=Iu he
  obtain ⟨p,q,hargs,hp,hq⟩:=Ir hv
  have ht:=NY E8
  exact ⟨_,_,h,AP cz (Yu aK hb ht hargs hu hi hp hq (.inr ⟨_,rfl⟩))⟩
 .rename_i t u d src
  replace h:=Q2 h
  obtain ⟨⟨e,size,bytes,z⟩,he,h⟩:=h
  obtain ⟨i,hu,hi,rfl,rfl,hz,E9,Bz,ga⟩:=Iu he
  simp only at h
  replace h:=Yv h;obtain ⟨a,n,m,rfl,h⟩:=h
  obtain ⟨p,q,hargs,hp,hq⟩:=Ir hv
  have ht:=NY E8
  replace h:=Q2 h;obtain ⟨⟨cn,H'⟩,gk,h⟩:=h
  refine ⟨_,_,h,?_⟩
  unfold E_ at gk
  split at gk
  .replace gk:=Q2 gk;obtain ⟨H2,hh,gk⟩:=gk
   simp at gk;obtain ⟨rfl,rfl⟩:=gk
   refine AP cz (Rp (q:=0) aK hb ht hargs hu hi hp (by simp) (fun ι act w hR hE=>⟨[],0,aZ.nil ι _,?_,by simp,?_⟩) (fun _ _ v hv=>by simp at hv) hh)
   .have ex:act.eval q=.slice none 0 0:=by
     have:=Qe hE hq
     cases hw:act.eval q<;>rw [hw] at this<;>cases this;rfl
    rw [ex];rfl
   .have ex:act.eval q=.slice none 0 0:=by
     have:=Qe hE hq
     cases hw:act.eval q<;>rw [hw] at this<;>cases this;rfl
    rw [ex];simp [Builtin.firstCells]
  .rename_i b sl c'
   replace gk:=Q2 gk;obtain ⟨l,hl,gk⟩:=gk
   replace gk:=Q2 gk;obtain ⟨H2,hh,gk⟩:=gk
   simp at gk;obtain ⟨rfl,rfl⟩:=gk
   have ir:l.length=min sl n*i.size:=by
    cases hz:min sl n*i.size with
    | zero=>rw [hz] at hl;simp only [fJ,Option.some.injEq] at hl;subst hl;rfl
    | succ mm =>
     rw [hz] at hl
     obtain ⟨k,hk,hx⟩:=Q2 hl
     split at hx
     .rename_i hle;have:=Zi hle;simp at hx;subst hx;simp;omega
     .simp at hx
   refine AP cz (Rp (q:=min sl n) aK hb ht hargs hu hi hp (by rw [ir];exact Zk _ (Nat.min_le_right _ _)) (fun ι act w hR hE=>?_) (fun _ hc=>Yg hl hc) hh)
   obtain ⟨cs,g1,g2,g3,g4⟩:=hR.De hl
   have gQ:=Qe hE hq
   generalize hw:act.eval q=qv at gQ
   cases gQ with
   | e_ _ _ _ cap hD gd BD =>
    have aT:=run_loadCells_list (P:=X.P) w (ι.addr b) cs g3
    rw [g1] at aT
    exact ⟨cs,sl,g2,rfl,rfl,by simp only [Builtin.firstCells];exact aT⟩
   | bD _ b' _ hD =>
    have:cs=[]:=Z1 (by simpa using g1)
    subst this
    exact ⟨[],0,g2,rfl,rfl,by simp [Builtin.firstCells,loadCells,loadCellsFrom]⟩
  .rename_i s'
   split at gk
   .rename_i Dk
    replace gk:=Q2 gk;obtain ⟨H2,hh,gk⟩:=gk
    simp at gk;obtain ⟨rfl,rfl⟩:=gk
    have gP:(s'.data.toList.map fun b=>Value.int .u8 b.toNat)=byteCells s':=rfl
    rw [gP] at hh
    refine AP cz (Rp (q:=min s'.size n) aK hb ht hargs hu hi hp (by rw [Dk];simp;omega) (fun ι act w hR hE=>⟨(byteCells s').take n,s'.size,?_,?_,rfl,?_⟩) (fun _ _ v hv=>sZ (Z3 (Dg s') v (List.mem_of_mem_take hv)) _) hh)
    .refine aZ.cq ?_ ι _
     rw [List.all_eq_true]
     exact fun v hv=>Z3 (Dg s') v (List.mem_of_mem_take hv)
    .rw [(Qe hE hq).bO];rfl
    .rw [(Qe hE hq).bO]
     simp only [Builtin.firstCells,Sem.run_pure,byteCells]
     congr 1
     apply Array.ext'
     have e1:(s'.extract 0 (min s'.size n)).data.toList=s'.data.toList.take (min s'.size n):=by simp [ByteArray.data_extract]
     rw [Array.toList_map,e1,List.map_take]
     have e2:s'.size=(s'.data.toList.map fun b=>Value.int .u8 b.toNat).length:=by simp
     rw [e2,Nat.min_comm,<- List.take_take,List.take_length]
   .simp at gk
  .simp at gk
 .simp at h
theorem Rt (hX:oQ X.P X.call) (h:dr X o env H K=some r):∃ v H',K v H'=some r/\jH X o env H v H':=by
 have c0:∀ {op:Op},o.op=op->gb X.P op=0->gb X.P o.op=0:=fun e h=>by rw [e];exact h
 have c1:∀ {op:Op},o.op=op->gb X.P op=1->gb X.P o.op=1:=fun e h=>by rw [e];exact h
 have c2:∀ {op:Op},o.op=op->gb X.P op=2->gb X.P o.op=2:=fun e h=>by rw [e];exact h
 have c3:∀ {op:Op},o.op=op->gb X.P op=3->gb X.P o.op=3:=fun e h=>by rw [e];exact h
 unfold dr at h
 split at h
 .rename_i x aK
  replace h:=Q2 h;obtain ⟨v,hv,h⟩:=h
  exact ⟨v,H,h,iq (c0 aK rfl) (Qq5 aK hv)⟩
 .rename_i x aK
  replace h:=Q2 h;obtain ⟨v,hv,h⟩:=h
  exact ⟨v,H,h,iq (c0 aK rfl) (Qkb aK hv)⟩
 .rename_i c a b aK
  replace h:=Q2 h;obtain ⟨v,hv,h⟩:=h
  replace h:=Rs h;obtain ⟨t,rfl,h⟩:=h
  rcases jG h with ⟨rfl,h⟩ | ⟨rfl,h⟩
  .replace h:=Q2 h;obtain ⟨u,hu,h⟩:=h
   exact ⟨u,H,h,iq (c0 aK rfl) (Yw aK hv (by simpa using hu))⟩
  .replace h:=Q2 h;obtain ⟨u,hu,h⟩:=h
   exact ⟨u,H,h,iq (c0 aK rfl) (Yw aK hv (by simpa using hu))⟩
 .rename_i t aK
  replace h:=Q2 h;obtain ⟨z,hz,h⟩:=h
  split at h
  .rename_i hl
   exact ⟨_,_,h,Kl (c2 aK rfl) (Qjf aK hz hl)⟩
  .simp at h
 .rename_i t x aK
  replace h:=Q2 h;obtain ⟨v,hv,h⟩:=h
  split at h
  .rename_i hl
   exact ⟨_,_,h,Kl (c2 aK rfl) (Qoj aK hv hl)⟩
  .simp at h
 .rename_i t parts aK
  replace h:=Q2 h;obtain ⟨ps,hp,h⟩:=h
  replace h:=Q2 h;obtain ⟨cs,hc,h⟩:=h
  exact ⟨_,_,h,iq (c0 aK rfl) (Qmp aK hp hc)⟩
 .rename_i t len parts aK
  replace h:=Q2 h;obtain ⟨ps,hp,h⟩:=h
  replace h:=Q2 h;obtain ⟨⟨e,size,bytes,z⟩,he,h⟩:=h
  simp only at h
  split at h
  .rename_i h1
   replace h:=Q2 h;obtain ⟨cs,hc,h⟩:=h
   split at h
   .rename_i g1 g2
    exact ⟨_,_,h,Kl (c2 aK rfl) (Qa9 aK hp he h1 hc g1 (Z7 g2))⟩
   .simp at h
  .simp at h
 .rename_i t x aK
  split at h
  .rename_i v hg
   exact ⟨v,H,h,Kk (c1 aK rfl) (Qje aK hg)⟩
  replace h:=Q2 h;obtain ⟨v,hv,h⟩:=h
  replace h:=Iw h;obtain ⟨p,rfl,h⟩:=h
  replace h:=Q2 h;obtain ⟨i,hi,h⟩:=h
  split at h
  .rename_i fs hu
   replace h:=Q2 h;obtain ⟨l,hl,h⟩:=h
   split at h
   .exact ⟨_,_,Ko h,Kk (c1 aK rfl) (Yj aK hv hi hu (.inl ⟨_,rfl⟩) hl)⟩
   .simp at h
  .rename_i n e hu
   replace h:=Q2 h;obtain ⟨l,hl,h⟩:=h
   split at h
   .exact ⟨_,_,Ko h,Kk (c1 aK rfl) (Yj aK hv hi hu (.inr ⟨_,_,rfl⟩) hl)⟩
   .simp at h
  .rename_i d n1 n2 hu
   replace h:=Q2 h;obtain ⟨u,hl,h⟩:=h
   split at h
   .exact ⟨_,_,Ru h,Kk (c1 aK rfl) (Qoh aK hv hi hu ⟨fun fs e=>n1 fs (by rw [<- e]),fun n e' e=>n2 n e' (by rw [<- e])⟩ hl)⟩
   .simp at h
  .simp at h
 .rename_i t x y aK
  replace h:=Q2 h;obtain ⟨v,hv,h⟩:=h
  replace h:=Q2 h;obtain ⟨u,hu,h⟩:=h
  replace h:=Iw h;obtain ⟨p,rfl,h⟩:=h
  replace h:=Q2 h;obtain ⟨i,hi,h⟩:=h
  split at h
  .rename_i hs
   replace h:=Q2 h;obtain ⟨H',hh,h⟩:=h
   exact ⟨_,_,h,AP (c3 aK rfl) (Qok aK hv hu hi hs hh)⟩
  .simp at h
 .rename_i x aK
  replace h:=Q2 h;obtain ⟨v,hv,h⟩:=h
  split at h
  .exact ⟨_,_,h,iq (c0 aK rfl) (Q8d aK hv)⟩
  .replace h:=Iw h;obtain ⟨p,rfl,h⟩:=h
   exact ⟨_,_,h,iq (c0 aK rfl) (Q9e aK hv)⟩
 .rename_i op t x y t' aK
  replace h:=Q2 h;obtain ⟨v,hv,h⟩:=h
  replace h:=Q2 h;obtain ⟨u,hu,h⟩:=h
  obtain ⟨z,h1,h2⟩:=Qqb aK hv hu h
  exact ⟨_,_,h1,iq (c0 aK rfl) h2⟩
 .rename_i op t x aK
  replace h:=Q2 h;obtain ⟨v,hv,h⟩:=h
  obtain ⟨z,h1,h2⟩:=N5 h
  exact ⟨_,_,h2,iq (c0 aK rfl) (Qq6 aK hv h1)⟩
 .rename_i src dst x aK
  replace h:=Q2 h;obtain ⟨v,hv,h⟩:=h
  unfold Ix at h
  split at h
  .rename_i k0 k k' n h1 h2
   exact ⟨_,_,h,iq (c0 aK (by simp [gb,h1,h2])) (Qgd aK hv h1 h2)⟩
  .rename_i s h1 h2
   exact ⟨_,_,h,iq (c0 aK (by simp [gb,h1,h2])) (Qge aK hv h1 h2)⟩
  .rename_i e a n c h1 h2
   split at h
   .rename_i h3
    replace h:=Q2 h;obtain ⟨l,hl,h⟩:=h
    replace h:=Q2 h;obtain ⟨bs,hb,h⟩:=h
    exact ⟨_,_,h,Kk (c1 aK (by simp [gb,h1])) (Qcr aK hv h1 h2 h3 hl hb)⟩
   .simp at h
  .rename_i e s h1 h2
   split at h
   .rename_i h3
    exact ⟨_,_,h,Kl (c2 aK (by simp [gb,h1,h2])) (Qef aK hv h1 h2 h3)⟩
   .simp at h
  .simp at h
 .rename_i f first cap aK
  replace h:=Q2 h;obtain ⟨fs,hf,h⟩:=h
  replace h:=Q2 h;obtain ⟨cs,hc,h⟩:=h
  exact ⟨_,_,h,iq (c0 aK rfl) (Qfe aK hf hc)⟩
 .rename_i t l c aK
  replace h:=Q2 h;obtain ⟨v,hv,h⟩:=h
  replace h:=Q2 h;obtain ⟨u,hu,h⟩:=h
  replace h:=Rv h;obtain ⟨n,rfl,h⟩:=h
  replace h:=Rv h;obtain ⟨m,rfl,h⟩:=h
  replace h:=Q2 h;obtain ⟨⟨e,size,bytes,z⟩,he,h⟩:=h
  simp only at h
  rcases jG h with ⟨hc,h⟩ | ⟨_,h⟩
  .simp only [Z8] at hc
   exact ⟨_,_,h,Kl (c2 aK rfl) (Qay aK hv hu he (Zi hc.1) (Zi hc.2))⟩
  .simp at h
 .rename_i t x lo hi aK
  replace h:=Q2 h;obtain ⟨v,hv,h⟩:=h
  split at h
  .rename_i p n c
   split at h
   .rename_i e hu
    replace h:=Q2 h;obtain ⟨i,eT,h⟩:=h
    replace h:=N6 h;obtain ⟨hb,h,N7⟩:=h
    replace h:=N6 h;obtain ⟨lb,h,N8⟩:=h
    replace h:=Q2 h;obtain ⟨u,Dl,h⟩:=h
    replace h:=Yr h;obtain ⟨a',n',c',dy,h⟩:=h
    rw [<- dy] at h
    refine ⟨_,_,h,iq (c0 aK rfl) ?_⟩
    unfold iO at Dl
    split at Dl
    .rcases jG Dl with ⟨hc,kS⟩ | ⟨_,kS⟩
     .clear Dl
      simp only [Z8] at hc
      obtain ⟨⟨⟨q1,q2⟩,q3⟩,q4⟩:=hc
      have q3:=Z7 q3
      have q4:=Z7 q4
      subst q3;subst q4
      simp only [Option.some.injEq] at kS;rw [<- kS]
      exact Qe9 aK hv hu eT N7 N8 (Zi q1) (Zi q2)
     .simp at kS
    .rcases jG Dl with ⟨hc,kS⟩ | ⟨_,kS⟩
     .clear Dl
      simp only [Z8] at hc
      obtain ⟨⟨q1,q2⟩,q3⟩:=hc
      have q3:=Z7 q3
      simp only [Option.some.injEq] at kS;rw [<- kS]
      exact Qmm aK hv hu eT N7 N8 (Zi q1) (Zi q2) q3
     .simp at kS
   .simp at h
  .rename_i s
   split at h
   .rename_i hu
    replace h:=N6 h;obtain ⟨hb,h,N7⟩:=h
    replace h:=N6 h;obtain ⟨lb,h,N8⟩:=h
    rcases jG h with ⟨hc,h⟩ | ⟨_,h⟩
    .simp only [Z8] at hc
     exact ⟨_,_,h,iq (c0 aK rfl) (Qea aK hv hu N7 N8 (Zi hc.1) (Zi hc.2))⟩
    .simp at h
   .simp at h
  .simp at h
 .rename_i s x f aK
  replace h:=Q2 h;obtain ⟨v,hv,h⟩:=h
  replace h:=Iw h;obtain ⟨p,rfl,h⟩:=h
  split at h
  .rename_i fs hu
   replace h:=Q2 h;obtain ⟨fd,hf,h⟩:=h
   replace h:=Q2 h;obtain ⟨i,hi,h⟩:=h
   split at h
   .rename_i hz
    exact ⟨_,_,h,iq (c0 aK rfl) (Qcz aK hv hu hf hi hz)⟩
   .simp at h
  .simp at h
 .rename_i t x f aK
  replace h:=Q2 h;obtain ⟨v,hv,h⟩:=h
  split at h
  .rename_i cs
   split at h
   .rename_i fs hu
    replace h:=Q2 h;obtain ⟨fd,hf,h⟩:=h
    replace h:=Q2 h;obtain ⟨u,hp,h⟩:=h
    exact ⟨_,_,h,iq (c0 aK rfl) (Qnk aK hv hu hf hp)⟩
   .simp at h
  .simp at h
 .rename_i t x ix aK
  replace h:=Q2 h;obtain ⟨v,hv,h⟩:=h
  replace h:=Q2 h;obtain ⟨j,hj,h⟩:=h
  split at h
  .rename_i e hu
   replace h:=Yv h;obtain ⟨p,n,c,rfl,h⟩:=h
   replace h:=Q2 h;obtain ⟨i,hi,h⟩:=h
   replace h:=N9 h;obtain ⟨kd,k,rfl,h⟩:=h
   rcases jG h with ⟨hk,h⟩ | ⟨_,h⟩
   .have hk:k+1<=n:=by simpa [Nat.blt] using hk
    exact ⟨_,_,h,iq (c0 aK rfl) (Qd0 aK hv hj hu hi hk)⟩
   .simp at h
  .rename_i n e hu
   replace h:=Iw h;obtain ⟨p,rfl,h⟩:=h
   replace h:=Q2 h;obtain ⟨i,hi,h⟩:=h
   replace h:=N9 h;obtain ⟨kd,k,rfl,h⟩:=h
   rcases jG h with ⟨hk,h⟩ | ⟨_,h⟩
   .have hk:k+1<=n:=by simpa [Nat.blt] using hk
    exact ⟨_,_,h,iq (c0 aK rfl) (Qfg aK hv hj hu hi hk)⟩
   .simp at h
  .simp at h
 .rename_i t x ix aK
  replace h:=Q2 h;obtain ⟨v,hv,h⟩:=h
  replace h:=Q2 h;obtain ⟨j,hj,h⟩:=h
  split at h
  .rename_i s
   split at h
   .rename_i hu
    replace h:=N9 h;obtain ⟨kd,k,rfl,h⟩:=h
    replace h:=Q2 h;obtain ⟨b,hb,h⟩:=h
    exact ⟨_,_,h,iq (c0 aK rfl) (Qnl aK hv hj hu hb)⟩
   .simp at h
  .rename_i cs
   split at h
   .rename_i n e hu
    replace h:=Q2 h;obtain ⟨i,hi,h⟩:=h
    replace h:=N9 h;obtain ⟨kd,k,rfl,h⟩:=h
    rcases jG h with ⟨hk,h⟩ | ⟨_,h⟩
    .have hk:k+1<=n:=by simpa [Nat.blt] using hk
     replace h:=Q2 h;obtain ⟨u,hp,h⟩:=h
     exact ⟨_,_,h,iq (c0 aK rfl) (Qfh aK hv hj hu hi hk hp)⟩
    .simp at h
   .simp at h
  .simp at h
 .rename_i x i aK
  replace h:=Q2 h;obtain ⟨v,hv,h⟩:=h
  split at h
  .rename_i vs
   replace h:=Q2 h;obtain ⟨u,hu,h⟩:=h
   exact ⟨_,_,h,iq (c0 aK rfl) (Qhz aK hv hu)⟩
  .simp at h
 .rename_i c aK
  split at h
  .rename_i b hb
   replace h:=Q2 h;obtain ⟨vs,hv,h⟩:=h
   exact Qej aK hb hv h
  .rename_i f hf
   replace h:=Q2 h;obtain ⟨g,hg,h⟩:=h
   replace h:=Q2 h;obtain ⟨vs,hv,h⟩:=h
   have cz:gb X.P o.op=3:=by
    rw [aK]
    obtain ⟨callee,args,ts⟩:=c
    simp only at hf
    subst hf
    rfl
   split at h
   .rename_i n first cap
    replace h:=Q2 h;obtain ⟨⟨rv,rh⟩,hr,h⟩:=h
    have hk:K rv rh=some r:=by
     simp only at h
     split at h
     .exact Qt9 h
     .exact h
    exact ⟨_,_,hk,AP cz (Qs2 aK hf hg hv (hX _ _ _ _ _ _ hr))⟩
   .simp at h
  .simp at h
 .simp at h
end
end Go.Ev
open Go.MapKept
namespace Go.Ev
def ML (l:List MapEntry) (es:List (Int×Int)):Prop:=l.map (fun e=>(e.key,e.val))=es.map fun p=>(Value.int .i64 p.1,Value.int .i64 p.2)
theorem Rw (k:Int):∀ (l:List MapEntry) (es:List (Int×Int)) (i:Nat),ML l es ->
  (eA es k=none/\Instr.findNow (.int .i64) (.int .i64 k) l i=some none/\∀ v,gR es k v=es++[(k,v)]) \/
  ∃ j v0 e,eA es k=some v0/\Instr.findNow (.int .i64) (.int .i64 k) l i=some (some (i+j,.int .i64 v0))/\l[j]? = some e/\e.key=.int .i64 k /\
   ∀ v,ML (l.modify j fun e=>{ e with key:=.int .i64 k,val:=.int .i64 v }) (gR es k v)
 | [],es,i,h=>by
  have:es=[]:=by simpa [ML] using h
  subst this
  exact .inl ⟨rfl,rfl,fun v=>rfl⟩
 | e::l,[],i,h=>by simp [ML] at h
 | e::l,(a,u)::es,i,h=>by
  unfold ML at h
  rw [List.map_cons,List.map_cons,List.cons.injEq,Prod.mk.injEq] at h
  obtain ⟨⟨h1,h2⟩,h3⟩:=h
  cases hb:k==a with
  | true =>
   have Rx:k=a:=by simpa using hb
   subst Rx
   refine .inr ⟨0,u,e,by simp [eA],by simp [Instr.findNow,Instr.sameNow,h1,h2],rfl,h1,fun v=>?_⟩
   unfold ML
   simp only [gR,hb]
   simp [h3]
  | false =>
   have hs:Instr.sameNow (.int .i64) (.int .i64 k) e.key=some false:=by simp [Instr.sameNow,h1];simpa using hb
   rcases Rw k l es (i+1) h3 with ⟨g1,g2,g3⟩ | ⟨j,v0,e',g1,g2,g3,g4,g5⟩
   .exact .inl ⟨by simp only [eA,hb,g1],by simp only [Instr.findNow,hs,g2],fun v=>by simp only [gR,hb,g3 v];rfl⟩
   .refine .inr ⟨j+1,v0,e',by simp only [eA,hb,g1],by simp only [Instr.findNow,hs,g2];congr 3;omega,by simpa using g3,g4,fun v=>?_⟩
    have:=g5 v
    unfold ML at this ⊢
    simp only [gR,hb,List.modify_succ_cons,List.map_cons,this,h1,h2]
theorem Yx {P:Program} {t:TypeId} (h:Dm P t=true) :
  ∃ k e i,P.underlying t=some (.map k e)/\P.underlying k=some (.int .i64)/\P.underlying e=some (.int .i64)/\P.info? e=some i/\i.zero=some (.int .i64 0):=by
 unfold Dm at h
 split at h
 .rename_i k e hu
  split at h
  .rename_i z h1 h2 h3
   obtain ⟨i,hi,hz⟩:=Q2 h3
   have:z=0:=by simpa using h
   subst this
   exact ⟨k,e,i,hu,h1,h2,hi,hz⟩
  .simp at h
 .simp at h
theorem Iy (H:af):(rD H).length=H.length+1:=by simp [rD]
theorem Yy (H:af):ah (rD H) H.length=some ⟨[],false,some []⟩:=Ry H _
theorem Yz {H:af} {b:Nat} (hb:b < H.length):ah (rD H) b=ah H b:=Fa hb
theorem Rel.Fb {ι:Io} {D:Nat->Prop} {H:af} {w w':World} (h:Rel ι D H w) {b:Nat} {k:bx} (hk:ah H b=some k) (bn:k.ro=false) (hs:(ι b).size=0) {es:List (Int×Int)} (h1:w'.heap.size=w.heap.size)
  (h2:∀ q,q≠(ι b).aI->w'.heap[q]? = w.heap[q]?) (h3:BE w' (ι b).aI es) (e1:w'.os=w.os) (e2:w'.tape=w.tape) (e3:w'.output=w.output) :
  Rel ι D (H.set b (some ⟨[],false,some es⟩)) w'/\Fr ι H w ι (H.set b (some ⟨[],false,some es⟩)) w':=by
 have au:=Qt hk
 have hb:=h.aI b k hk
 have bg:∀ {c:Nat} {q:bx},ah (H.set b (some ⟨[],false,some es⟩)) c=some q->(c=b/\q=⟨[],false,some es⟩)\/(c≠b/\ah H c=some q):=by
  intro c q hq
  by_cases e:b=c
  .subst e;rw [td au] at hq;injection hq with hq;exact .inl ⟨rfl,hq.symm⟩
  .rw [Qm e] at hq;exact .inr ⟨fun x=>e x.symm,hq⟩
 refine ⟨⟨fun c q hq=>?_,fun c c' q q' g1 g2 aV hr=>?_,fun c q hq hr=>?_,h.gw.cv (by omega) (fun q hq=>h2 q (by have:=h.iu b k hk bn;omega))⟩,⟨by simp,fun _ _=>rfl,e1,e2,e3,by omega,fun q hq hn=>h2 q (Ne.symm (hn b k hk bn)),fun c q hq hr=>?_,fun c q hq hr=>?_⟩⟩
 .rcases bg hq with ⟨rfl,rfl⟩ | ⟨g1,g2⟩
  .have:=hb.fit
   exact ⟨by have:=hb.lt;omega,fun h0=>by omega,fun es' he=>by simp at he;subst he;exact ⟨rfl,hs,h3⟩,by simp;omega,fun i hi=>absurd hi (by simp),fun _ i q1 q2=>by omega⟩
  .exact (h.aI c q g2).bw (h2 _ (h.inj c b q k g2 hk g1 (.inr bn))) rfl (fun _ _ _ x=>x)
 .rcases bg g1 with ⟨rfl,rfl⟩ | ⟨p1,p2⟩<;>rcases bg g2 with ⟨rfl,rfl⟩ | ⟨q1,q2⟩
  .exact absurd rfl aV
  .exact h.inj c c' k q' hk q2 aV (.inl bn)
  .exact h.inj c c' q k p2 hk aV (.inr bn)
  .exact h.inj c c' q q' p2 q2 aV hr
 .rcases bg hq with ⟨rfl,rfl⟩ | ⟨_,g2⟩
  .exact h.iu _ k hk bn
  .exact h.iu c q g2 hr
 .rcases bg hq with ⟨rfl,rfl⟩ | ⟨g1,g2⟩
  .exact .inr ⟨c,k,hk,bn,rfl⟩
  .exact .inr ⟨c,q,g2,hr,rfl⟩
 .rcases bg hq with ⟨rfl,rfl⟩ | ⟨g1,g2⟩
  .simp at hr
  .exact g2
theorem Rel.Fc {ι:Io} {H:af} {w:World} (h:Rel ι (aL H.length) H w) :
  Rel (ι.set H.length ⟨w.heap.size,0,0⟩) (aL (rD H).length) (rD H) (w.alloc (.map #[] 0)) /\
  Fr ι H w (ι.set H.length ⟨w.heap.size,0,0⟩) (rD H) (w.alloc (.map #[] 0)):=by
 have hlen:(rD H).length=H.length+1:=Iy H
 have bg:∀ {c:Nat} {q:bx},ah (rD H) c=some q->(c < H.length/\ah H c=some q)\/(c=H.length/\q=⟨[],false,some []⟩):=by
  intro c q hq
  have au:=Qt hq
  rw [hlen] at au
  by_cases e:c=H.length
  .subst e;rw [Yy] at hq;exact .inr ⟨rfl,(Option.some.inj hq).symm⟩
  .rw [Yz (by omega)] at hq;exact .inl ⟨by omega,hq⟩
 have oV:∀ {v c:Value},ay ι (aL H.length) v c->ay (ι.set H.length ⟨w.heap.size,0,0⟩) (aL (rD H).length) v c :=
  fun hr=>hr.mono (aL.mono (by omega)) fun c hc=>Io.aS _ _ (by simp [aL] at hc;omega)
 refine ⟨⟨fun c q hq=>?_,fun c c' q q' g1 g2 aV hr=>?_,fun c q hq hr=>?_,h.gw.cv (by simp) (fun q hq=>Fe _ _ (by have:=h.gw.1;omega))⟩,⟨by omega,fun c hc=>Io.aS _ _ (by omega),rfl,rfl,rfl,by simp,fun q hq _=>Fe _ _ hq,fun c q hq hr=>?_,fun c q hq hr=>?_⟩⟩
 .rcases bg hq with ⟨g1,g2⟩ | ⟨rfl,rfl⟩
  .exact (h.aI c q g2).bw (Fe _ _ (h.lt g2)) (Io.aS _ _ (by omega)) (fun i hi c hr=>oV hr)
  .refine ⟨by rw [Io.aB];simp,fun h0=>by rw [Io.aB] at h0;simp at h0,fun es' he=>?_,by rw [Io.aB];simp,fun i hi=>absurd hi (by simp),fun _ i q1 q2=>by rw [Io.aB] at q2;simp at q2⟩
   simp at he;subst he
   exact ⟨rfl,by rw [Io.aB],by rw [Io.aB];exact ⟨#[],0,N_ _ _,rfl⟩⟩
 .rcases bg g1 with ⟨p1,p2⟩ | ⟨rfl,rfl⟩<;>rcases bg g2 with ⟨q1,q2⟩ | ⟨rfl,rfl⟩
  .rw [Io.aS _ _ (by omega),Io.aS _ _ (by omega)];exact h.inj c c' q q' p2 q2 aV hr
  .rw [Io.aS _ _ (by omega),Io.aB];have:=h.lt p2;simp only;omega
  .rw [Io.aB,Io.aS _ _ (by omega)];have:=h.lt q2;simp only;omega
  .exact absurd rfl aV
 .rcases bg hq with ⟨g1,g2⟩ | ⟨rfl,rfl⟩
  .rw [Io.aS _ _ (by omega)];exact h.iu c q g2 hr
  .rw [Io.aB];exact h.gw.1
 .rcases bg hq with ⟨g1,g2⟩ | ⟨rfl,rfl⟩
  .exact .inr ⟨c,q,g2,hr,by rw [Io.aS _ _ (by omega)]⟩
  .exact .inl (by rw [Io.aB];exact Zd _)
 .rcases bg hq with ⟨g1,g2⟩ | ⟨rfl,rfl⟩
  .exact g2
  .simp at hr
section
variable {P:Program} {nt ai:Nat} {o:Oper} {env:Env} {H H':af} {X:Cx} {β:Type} {K:Value->af->Option β} {r:β}
theorem YA {b:Nat} {es:List (Int×Int)} (h:Ff H b=some es):∃ k,ah H b=some k/\k.ro=false/\k.mp=some es:=by
 obtain ⟨k,hk,h⟩:=Q2 h
 split at h
 .exact ⟨k,hk,by assumption,h⟩
 .simp at h
theorem YB {v:Value} {F:Nat->Option β} (h:Iz v F=some r):∃ b,v=.map (some b)/\F b=some r:=by
 unfold Iz at h
 split at h
 .exact ⟨_,rfl,h⟩
 .simp at h
theorem Rz {v:Value} {F:Int->Option β} (h:Fg v F=some r):∃ n,v=.int .i64 n/\F n=some r:=by
 unfold Fg at h
 split at h
 .exact ⟨_,rfl,h⟩
 .simp at h
theorem ay.rE {ι:Io} {D:Nat->Prop} {b:Nat} {c:Value} (h:ay ι D (.map (some b)) c):c=.map (some (ι b).aI):=by cases h;rfl
theorem Qji {t:TypeId} (ho:o.op=.makeMap t none):iY P nt ai o env H (.map (some H.length)) (rD H):=by
 refine ⟨fun _ _=>.map _ (by rw [Iy];simp [aL]),fun _ _=>?_,fun ι a w hR he next Q hn=>?_⟩
 .have hc:∀ {c:Nat} {q:bx},ah (rD H) c=some q->∀ v∈q.cells,ah H c=some q:=by
   intro c q hq v hv
   by_cases e:c < H.length
   .rw [Yz e] at hq;exact hq
   .have au:=Qt hq
    rw [Iy] at au
    have e:c=H.length:=by omega
    subst e
    rw [Yy] at hq
    obtain rfl:=Option.some.inj hq
    simp at hv
  exact ⟨by rw [Iy];omega,fun h c fy q hq v hv=>(h c (Qt (hc hq v hv)) q (hc hq v hv) v hv).mono (aL.mono (by rw [Iy];omega)),fun m _ _ h c fy q hq v hv=>h c fy q (hc hq v hv) v hv⟩
 .obtain ⟨g1,g2⟩:=hR.Fc
  have aT:(execOp a.eval o).run P w=.ok (.value (.map (some w.heap.size))) (w.alloc (.map #[] 0)):=by
   simp only [execOp,ho,Option.map_none,Sem.run_bind,Instr.makeMap,Sem.run_pure,run_newObj,Result.andThen_ok]
   rfl
  refine oR aT (hn _ _ _ g1 ?_ g2)
  have:=ay.map (ι:=ι.set H.length ⟨w.heap.size,0,0⟩) (D:=aL (rD H).length) H.length (by rw [Iy];simp [aL])
  rw [Io.aB] at this
  exact this
theorem Qel {t:TypeId} {m x y:Operand} {b:Nat} {k v:Int} {es:List (Int×Int)} (ho:o.op=.mapUpdate t m x y) (ht:Dm P t=true) (hm:ev env m=some (.map (some b))) (hx:ev env x=some (.int .i64 k)) (hy:ev env y=some (.int .i64 v))
  (hb:Ff H b=some es):iY P nt ai o env H undef (H.set b (some ⟨[],false,some (gR es k v)⟩)):=by
 obtain ⟨kb,hk,bn,Fh⟩:=YA hb
 have au:=Qt hk
 obtain ⟨kt,et,i,u1,u2,u3,u4,u5⟩:=Yx ht
 refine ⟨fun _ _=>Kb _,fun _ _=>?_,fun ι a w hR he next Q hn=>?_⟩
 .have hc:∀ {c:Nat} {q:bx},ah (H.set b (some ⟨[],false,some (gR es k v)⟩)) c=some q->∀ v∈q.cells,ah H c=some q:=by
   intro c q hq v hv
   by_cases e:b=c
   .subst e
    rw [td au] at hq
    obtain rfl:=Option.some.inj hq
    simp at hv
   .rw [Qm e] at hq;exact hq
  exact ⟨by simp,fun h c fy q hq v hv=>by rw [List.length_set];exact h c (Qt (hc hq v hv)) q (hc hq v hv) v hv,fun m _ _ h c fy q hq v hv=>h c fy q (hc hq v hv) v hv⟩
 .obtain ⟨fe,rF,kT,clock,nx,Oa⟩:=(hR.aI b kb hk).map es Fh
  have ex:=(Qe he hm).rE
  have ek:=(Qe he hx).aM
  have ey:=(Qe he hy).aM
  have th:IsKey (.int .i64) (.int .i64 k):=by simp [IsKey]
  have main:∀ jb gS,ML jb.toList (gR es k v)->(Instr.mapUpdate t (.map (some (ι b).aI)) (.int .i64 k) (.int .i64 v)).run P w=.ok () { w with heap:=w.heap.setIfInBounds (ι b).aI (.map jb gS) }->o.wp P a w next Q:=by
   intro jb gS h1 aT
   obtain ⟨q1,q2⟩:=MapKept.heap_set (o':=.map jb gS) nx
   obtain ⟨g1,g2⟩:=hR.Fb (w':={ w with heap:=w.heap.setIfInBounds (ι b).aI (.map jb gS) }) hk bn rF (es:=gR es k v) (by simp) q2 ⟨jb,gS,q1,h1⟩ rfl rfl rfl
   have Kp:(execOp a.eval o).run P w=.ok .skip { w with heap:=w.heap.setIfInBounds (ι b).aI (.map jb gS) }:=by
    simp only [execOp,ho,ex,ek,ey,Sem.run_bind,aT,Result.andThen_ok,Sem.run_pure]
   unfold Oper.wp;rw [Kp]
   have hl:(H.set b (some (⟨[],false,some (gR es k v)⟩:bx))).length=H.length:=by simp
   rw [<- hl] at g1
   exact hn ι _ undef g1 (Iv _ _) g2
  rcases Rw k kT.toList es 0 Oa with ⟨f1,f2,f3⟩ | ⟨j,v0,e,f1,f2,f3,f4,f5⟩
  .refine main (kT.push { key:=.int .i64 k,val:=.int .i64 v,born:=clock }) (clock+1) ?_ ?_
   .rw [f3 v];unfold ML;simp;simpa using Oa
   .simp [Instr.mapUpdate,run_underlying u1,MapKept.run_getObj_map nx,MapKept.run_checkKey u2 th,MapKept.run_findKey u2 f2,MapKept.run_setObj_map _ nx,Result.andThen]
  .refine main (kT.modify j fun e=>{ e with key:=.int .i64 k,val:=.int .i64 v }) clock ?_ ?_
   .have:=f5 v
    rwa [<- Array.toList_modify] at this
   .have hj:kT[j]? = some e:=by rw [<- Array.getElem?_toList];exact f3
    rw [Zo] at f2
    simp [Instr.mapUpdate,run_underlying u1,MapKept.run_getObj_map nx,MapKept.run_checkKey u2 th,MapKept.run_findKey u2 f2,hj,f4,MapKept.run_keyThatStays th,MapKept.run_setObj_map _ nx,Result.andThen]
theorem Qms {t:TypeId} {m x:Operand} {ok:Bool} {b:Nat} {k:Int} {es:List (Int×Int)} (ho:o.op=.lookup t m x ok) (ht:Dm P t=true) (hm:ev env m=some (.map (some b))) (hx:ev env x=some (.int .i64 k))
  (hb:Ff H b=some es):iY P nt ai o env H (Fi ok (eA es k)) H:=by
 obtain ⟨kb,hk,bn,Fh⟩:=YA hb
 obtain ⟨kt,et,i,u1,u2,u3,u4,u5⟩:=Yx ht
 have wL:∀ (ι:Io) (D:Nat->Prop) (ok:Bool) (x:Option Int),ay ι D (Fi ok x) (Fi ok x):=by
  intro ι D ok x
  cases ok with
  | true =>
   refine .tuple _ _ rfl fun i h1 h2=>?_
   simp at h1
   rcases (show i=0\/i=1 by omega) with rfl | rfl
   .exact .int _ _
   .exact .bool _
  | false=>exact .int _ _
 refine ⟨fun _ _=>(wL (fun _=>⟨0,0,0⟩) _ _ _).lt,fun _ _=>Ab.refl _ _,fun ι a w hR he next Q hn=>?_⟩
 obtain ⟨fe,rF,kT,clock,nx,Oa⟩:=(hR.aI b kb hk).map es Fh
 have ex:=(Qe he hm).rE
 have ek:=(Qe he hx).aM
 have th:IsKey (.int .i64) (.int .i64 k):=by simp [IsKey]
 have hzero:(zeroValue et).run P w=.ok (.int .i64 0) w:=by
  simp only [zeroValue,typeInfo,Sem.run_bind,run_program,Result.andThen_ok,u4,Sem.run_pure,u5]
 have aT:(execOp a.eval o).run P w=.ok (.value (Fi ok (eA es k))) w:=by
  rcases Rw k kT.toList es 0 Oa with ⟨f1,f2,f3⟩ | ⟨j,v0,e,f1,f2,f3,f4,f5⟩
  .rw [f1]
   cases ok<;>simp [execOp,ho,ex,ek,Instr.lookup,run_underlying u1,MapKept.run_getObj_map nx,MapKept.run_checkKey u2 th,MapKept.run_findKey u2 f2,hzero,Fi,Result.andThen]
  .rw [f1]
   cases ok<;>simp [execOp,ho,ex,ek,Instr.lookup,run_underlying u1,MapKept.run_getObj_map nx,MapKept.run_checkKey u2 th,MapKept.run_findKey u2 f2,Fi,Result.andThen]
 exact oR aT (hn ι w _ hR (wL ι _ _ _) (Fr.refl ι H w))
def Fj (X:Cx) (o:Oper) (env:Env) (H:af) (v:Value) (H':af):Prop:=jH X o env H v H'\/iY X.P X.nt X.ai o env H v H'
theorem YC (hX:oQ X.P X.call) (h:BF X o env H K=some r):∃ v H',K v H'=some r/\Fj X o env H v H':=by
 unfold BF at h
 split at h
 .rename_i t ho
  exact ⟨_,_,h,.inr (Qji ho)⟩
 .rename_i t m k v ho
  split at h
  .rename_i ht
   replace h:=Q2 h;obtain ⟨mv,hm,h⟩:=h
   replace h:=Q2 h;obtain ⟨kv,hk,h⟩:=h
   replace h:=Q2 h;obtain ⟨vv,hv,h⟩:=h
   replace h:=YB h;obtain ⟨b,rfl,h⟩:=h
   replace h:=Rz h;obtain ⟨a,rfl,h⟩:=h
   replace h:=Rz h;obtain ⟨u,rfl,h⟩:=h
   replace h:=Q2 h;obtain ⟨es,hb,h⟩:=h
   exact ⟨_,_,h,.inr (Qel ho ht hm hk hv hb)⟩
  .simp at h
 .rename_i t m k ok ho
  split at h
  .rename_i ht
   replace h:=Q2 h;obtain ⟨mv,hm,h⟩:=h
   replace h:=Q2 h;obtain ⟨kv,hk,h⟩:=h
   replace h:=YB h;obtain ⟨b,rfl,h⟩:=h
   replace h:=Rz h;obtain ⟨a,rfl,h⟩:=h
   replace h:=Q2 h;obtain ⟨es,hb,h⟩:=h
   exact ⟨_,_,h,.inr (Qms ho ht hm hk hb)⟩
  .simp at h
 .obtain ⟨v,H',h1,h2⟩:=Rt hX h
  exact ⟨v,H',h1,.inl h2⟩
end
section
variable {o:Oper} {env:Env} {H H':af} {X:Cx} {β:Type} {r:β}
theorem Rel.closed {ι:Io} {w:World} (h:Rel ι (aL H.length) H w):Ql H.length H:=by
 intro b hb k hk v hv
 obtain ⟨i,hi,e⟩:=List.getElem_of_mem hv
 obtain ⟨c,h1,h2,h3⟩:=(h.aI b k hk).cell i hi
 exact e▸h2.lt
theorem Ob {v:Value} (h:jH X o env H v H') (he:dJ (aL H.length) env) (hc:Ql H.length H):Ab X.ai H H'/\bK (aL H'.length) v:=by
 unfold jH at h
 split at h
 .obtain ⟨rfl,h⟩:=h;exact ⟨Ab.refl _ _,h.lt _ he⟩
 .obtain ⟨rfl,raw,h⟩:=h;exact ⟨Ab.refl _ _,h.lt he hc⟩
 .obtain ⟨vs,mk,rfl,rfl,h⟩:=h
  exact ⟨Rf _ (h.lt _ he),h.ltv _ _ (by simp [aL,Qy])⟩
 .exact ⟨h.ab he hc,h.lt he hc⟩
theorem Qvu {v:Value} (h:jH X o env H v H') {ι:Io} {a:Act} {w:World} (hR:Rel ι (aL H.length) H w) (hE:bt ι (aL H.length) X.nt env a) {next:Act->World->Prop} {Q:Exit->Act->World->Prop}
  (hn:∀ ι' w' c,Rel ι' (aL H'.length) H' w'->ay ι' (aL H'.length) v c->Fr ι H w ι' H' w'->next (a.put o.dst c) w'):o.wp X.P a w next Q:=by
 unfold jH at h
 split at h
 .obtain ⟨rfl,h⟩:=h
  obtain ⟨c,h1,h2⟩:=h.run ι _ a w hE
  exact oR h1 (hn ι w c hR h2 (Fr.refl _ _ _))
 .obtain ⟨rfl,raw,h⟩:=h
  obtain ⟨c,h1,h2⟩:=h.run ι _ a w H' h.rd hR hE
  exact oR h1 (hn ι w c hR h2 (Fr.refl _ _ _))
 .obtain ⟨vs,mk,rfl,rfl,h⟩:=h
  obtain ⟨cs,rest,fc,fz,w0,c,h1,h2,e1,e2,e3,e4,h3,h4⟩:=h.run ι _ a w hE
  obtain ⟨g1,g2⟩:=(hR.bz e1).push h1 h.cells rest fc fz h2
  have hw:w0.heap.size=w.heap.size:=by rw [e1]
  have kU:=h4 H.length
  rw [<- hw] at kU
  refine oR h3 (hn _ _ c g1 ?_ (((Fr.refl ι H w).bz e1 e2 e3 e4).trans g2))
  rw [Qy]
  exact kU.mono (by intro b hb;simp [aL] at hb ⊢;omega) fun _ _=>rfl
 .exact h.run ι a w hR hE next Q hn
theorem YD {v:Value} (h:Fj X o env H v H') (he:dJ (aL H.length) env) (hc:Ql H.length H):Ab X.ai H H'/\bK (aL H'.length) v:=by
 rcases h with h | h
 .exact Ob h he hc
 .exact ⟨h.ab he hc,h.lt he hc⟩
theorem Qs3 {v:Value} (h:Fj X o env H v H') {ι:Io} {a:Act} {w:World} (hR:Rel ι (aL H.length) H w) (hE:bt ι (aL H.length) X.nt env a) {next:Act->World->Prop} {Q:Exit->Act->World->Prop}
  (hn:∀ ι' w' c,Rel ι' (aL H'.length) H' w'->ay ι' (aL H'.length) v c->Fr ι H w ι' H' w'->next (a.put o.dst c) w'):o.wp X.P a w next Q:=by
 rcases h with h | h
 .exact Qvu h hR hE hn
 .exact h.run ι a w hR hE next Q hn
theorem Dn {nt:Nat} {dst:Option Tmp} {v:Value} {K:Env->Option β} (h:Dp nt dst v env K=some r):∃ ak,K ak=some r/\((dst=none/\ak=env)\/∃ d,dst=some d/\d < nt/\ak=(d,v)::env):=by
 unfold Dp at h
 split at h
 .exact ⟨env,h,.inl ⟨rfl,rfl⟩⟩
 .rename_i d
  split at h
  .rename_i hd
   have oz:d+1<=nt:=by simpa [Nat.blt] using hd
   exact ⟨_,h,.inr ⟨d,rfl,oz,rfl⟩⟩
  .simp at h
theorem YE {ι:Io} {D:Nat->Prop} {nt:Nat} {ak:Env} {a:Act} {dst:Option Tmp} {v c:Value} (hE:bt ι D nt env a) (hv:ay ι D v c) (h:(dst=none/\ak=env)\/∃ d,dst=some d/\d < nt/\ak=(d,v)::env):bt ι D nt ak (a.put dst c):=by
 rcases h with ⟨rfl,rfl⟩ | ⟨d,rfl,hd,rfl⟩
 .exact hE
 .exact hE.put hd hv
theorem Kq {D:Nat->Prop} {nt:Nat} {ak:Env} {dst:Option Tmp} {v:Value} (hE:dJ D env) (hv:bK D v) (h:(dst=none/\ak=env)\/∃ d,dst=some d/\d < nt/\ak=(d,v)::env):dJ D ak:=by
 rcases h with ⟨rfl,rfl⟩ | ⟨d,rfl,hd,rfl⟩
 .exact hE
 .exact hE.put hv
structure Kr (nt:Nat) (ops:Array Oper) (o:Oper) (env:Env) (t:Bool) (ak:Env):Prop where
 run:∀ (ι:Io) (D:Nat->Prop) (a:Act),bt ι D nt env a->bt ι D nt ak a/\Region.wanted o (yielded ops a.tmps)=t
 lt:∀ D:Nat->Prop,dJ D env->dJ D ak
theorem RA {nt:Nat} {ops:Array Oper} {K:Bool->Env->Option β} (h:Dq ops o env K=some r):∃ t ak,K t ak=some r/\Kr nt ops o env t ak:=by
 unfold Dq at h
 split at h
 .rename_i hg
  exact ⟨true,env,h,fun ι D a hE=>⟨hE,by simp [Region.wanted,hg]⟩,fun D hE=>hE⟩
 .rename_i j want hg
  split at h
  .rename_i d hd
   replace h:=Q2 h;obtain ⟨v,hv,h⟩:=h
   have hy:∀ (ι:Io) (D:Nat->Prop) (a:Act),bt ι D nt env a->yielded ops a.tmps j=match v with | .bool b=>some b | _=>none:=by
    intro ι D a hE
    have hr:=hE.get d v hv
    unfold yielded
    rw [hd]
    simp only [Option.bind_some]
    by_cases au:d < a.tmps.size
    .rw [Array.getElem?_eq_getElem au]
     have e:a.tmps.getD d undef=a.tmps[d]:=by simp [Array.getD,au]
     rw [e] at hr
     generalize a.tmps[d]=c at hr ⊢
     cases hr<;>rfl
    .rw [Array.getElem?_eq_none (Nat.le_of_not_lt au)]
     have e:a.tmps.getD d undef=undef:=by simp [Array.getD,au]
     rw [e] at hr
     cases hr<;>rfl
   split at h
   .rename_i b
    rcases jG h with ⟨rfl,h⟩ | ⟨rfl,h⟩
    .refine ⟨_,_,h,fun ι D a hE=>⟨hE.lit hv,?_⟩,fun D hE=>hE.put (.bool _)⟩
     simp only [Region.wanted,hg,hy ι D a hE]
     cases want<;>rfl
    .refine ⟨_,_,h,fun ι D a hE=>⟨hE.lit hv,?_⟩,fun D hE=>hE.put (.bool _)⟩
     simp only [Region.wanted,hg,hy ι D a hE]
     cases want<;>rfl
   .rename_i RB
    refine ⟨_,_,h,fun ι D a hE=>⟨hE,?_⟩,fun D hE=>hE⟩
    simp only [Region.wanted,hg,hy ι D a hE]
    cases v<;>first | rfl | exact absurd rfl (RB _)
  .simp at h
def Ks:eE->Exit
 | .normal=>.normal
 | .exit id=>.exit id
 | .ret=>.ret
def Kt (X:Cx) (ι₀:Io) (H₀:af) (w₀:World) (K:eE->Env->af->Option β) (r:β) (ex:Exit) (a:Act) (w:World):Prop :=
 ∃ vF env ι H,Ks vF=ex/\Rel ι (aL H.length) H w/\bt ι (aL H.length) X.nt env a/\Fr ι₀ H₀ w₀ ι H w/\Ab X.ai H₀ H/\a.defers=[]/\K vF env H=some r
theorem Kt.later {ι₀ ι:Io} {H₀:af} {w₀ w:World} {K:eE->Env->af->Option β} {ex:Exit} {a:Act} {w':World} (h:Kt X ι H w K r ex a w') (hf:Fr ι₀ H₀ w₀ ι H w) (ha:Ab X.ai H₀ H):Kt X ι₀ H₀ w₀ K r ex a w':=by
 obtain ⟨vF,env,ι',H',h1,h2,h3,h4,h5,h6,h7⟩:=h
 exact ⟨vF,env,ι',H',h1,h2,h3,hf.trans h4,ha.trans h5,h6,h7⟩
theorem IA (a:Act) (dst:Option Tmp) (c:Value):(a.put dst c).defers=a.defers:=by cases dst<;>rfl
theorem RC (hX:oQ X.P X.call) {ops:Array Oper} {K:Env->af->Option β} {Q:Exit->Act->World->Prop}:∀ (l:List Oper) (i:Nat) (env:Env) (H:af),(∀ k,l[k]? = ops[i+k]?)->i+l.length=ops.size->BG X ops l env H K=some r ->
  ∀ (ι:Io) (a:Act) (w:World),Rel ι (aL H.length) H w->bt ι (aL H.length) X.nt env a->a.defers=[] ->
  (∀ ak ι' H' a' w',Rel ι' (aL H'.length) H' w'->bt ι' (aL H'.length) X.nt ak a'->Fr ι H w ι' H' w'->Ab X.ai H H'->a'.defers=[]->K ak H'=some r->Q .normal a' w') ->
  wpOps X.P ops Q (List.range' i l.length) a w
 | [],i,env,H,hl,hs,h,ι,a,w,hR,hE,hd,hQ=>hQ env ι H a w hR hE (Fr.refl _ _ _) (Ab.refl _ _) hd h
 | o::l,i,env,H,hl,hs,h,ι,a,w,hR,hE,hd,hQ=>by
  have ho:ops[i]? = some o:=by have:=hl 0;simpa using this.symm
  have jF:∀ k,l[k]? = ops[i+1+k]?:=fun k=>by have:=hl (k+1);rw [show i+1+k=i+(k+1) by omega];simpa using this
  rw [Z9,List.range'_succ]
  simp only [wpOps,ho]
  unfold BG at h
  obtain ⟨t,fQ,h,hw⟩:=RA (nt:=X.nt) h
  obtain ⟨vG,YF⟩:=hw.run ι _ a hE
  cases t with
  | true =>
   rw [if_pos YF]
   left
   simp only at h
   obtain ⟨v,H',h,hF⟩:=YC hX h
   obtain ⟨kV,IB⟩:=YD hF vG.lt hR.closed
   refine Qs3 hF hR vG fun ι' w' c RD gQ hf=>?_
   obtain ⟨b_,h,hp⟩:=Dn h
   have hE2:bt ι' (aL H'.length) X.nt fQ a:=vG.mono (aL.mono hf.len) hf.io
   refine RC hX l (i+1) b_ H' jF (by simp at hs;omega) h ι' _ w' RD (YE hE2 gQ hp) (by rw [IA];exact hd) ?_
   intro ak ι2 H2 a2 w2 g1 g2 g3 g4 g5 g6
   exact hQ ak ι2 H2 a2 w2 g1 g2 (hf.trans g3) (kV.trans g4) g5 g6
  | false =>
   rw [if_neg (by rw [YF];simp)]
   simp only at h
   obtain ⟨b_,h,hp⟩:=Dn h
   refine RC hX l (i+1) b_ H jF (by simp at hs;omega) h ι _ w hR (YE vG (Iv _ _) hp) (by rw [IA];exact hd) ?_
   intro ak ι2 H2 a2 w2 g1 g2 g3 g4 g5 g6
   exact hQ ak ι2 H2 a2 w2 g1 g2 g3 g4 g5 g6
theorem RE (hX:oQ X.P X.call) {ops:Array Oper} {K:Env->af->Option β}:∀ (l:List Oper) (env:Env) (H:af),BG X ops l env H K=some r->dJ (aL H.length) env->Ql H.length H ->
  ∃ ak H',K ak H'=some r/\dJ (aL H'.length) ak/\Ql H'.length H'/\Ab X.ai H H'
 | [],env,H,h,hE,hc=>⟨env,H,h,hE,hc,Ab.refl _ _⟩
 | o::l,env,H,h,hE,hc=>by
  unfold BG at h
  obtain ⟨t,fQ,h,hw⟩:=RA (nt:=X.nt) h
  have vG:=hw.lt _ hE
  cases t with
  | true =>
   simp only at h
   obtain ⟨v,H',h,hF⟩:=YC hX h
   obtain ⟨kV,IB⟩:=YD hF vG hc
   obtain ⟨b_,h,hp⟩:=Dn h
   obtain ⟨ak,H2,g1,g2,g3,g4⟩:=RE hX l b_ H' h (Kq (vG.mono (aL.mono kV.len)) IB hp) (kV.all hc)
   exact ⟨ak,H2,g1,g2,g3,kV.trans g4⟩
  | false =>
   simp only at h
   obtain ⟨b_,h,hp⟩:=Dn h
   exact RE hX l b_ H h (Kq vG (Kb _) hp) hc
end
end Go.Ev
