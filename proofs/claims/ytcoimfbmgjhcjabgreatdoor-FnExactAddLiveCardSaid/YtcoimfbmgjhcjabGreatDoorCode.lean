/-
  Parts of slices and strings, conversions, built-in functions that compute, structs put together: they agree with the model's run. And what stood behind it in 6 texts.
  Conditions: said at the theorems.
-/
import Derived.Test.YtcoimfbmgjhcjabGreatDoorOpB
import Derived.Deep.AppendSrc
import Derived.Deep.Upon
import Derived.Laws.BytesString
import Derived.Laws.BitsLemmas
import Derived.MapKept
set_option linter.unusedVariables false
set_option linter.unusedSimpArgs false
namespace Go.Ev
section
variable {P:Program} {nt:Nat} {o:Oper} {env:Env} {H:af} {X:Cx} {β:Type} {K:Value->af->Option β} {r:β}
theorem Qcs (w:World) (k:IntKind) (i y:Nat) (code:BoundsCode) (h:i<=y):(Instr.sliceBound (.int k (i:Int)) y code).run P w=.ok i w:=by
 simp [Instr.sliceBound,asIntOf,h]
theorem Rx (w:World) (isS:Bool) (len cap l h:Nat) (lo hi:Option Value) (hl:l<=h) (hh:h<=cap) (elo:(lo=none/\l=0)\/lo=some (.int .i64 (l:Int))) (ehi:(hi=none/\h=len)\/hi=some (.int .i64 (h:Int))) :
  (Instr.sliceBounds isS len cap lo hi none).run P w=.ok (l,h,cap) w:=by
 rcases elo with ⟨rfl,rfl⟩ | rfl<;>rcases ehi with ⟨rfl,rfl⟩ | rfl<;>simp [Instr.sliceBounds,Qcs,hl,hh]
theorem IX {ι:Io} {D:Nat->Prop} {a:Act} (he:bt ι D nt env a) {x:Option Operand} {d n:Nat} (h:(x=none/\n=d)\/∃ y,x=some y/\ev env y=some (.int .i64 (n:Int))) :
  (x.map a.eval=none/\n=d)\/x.map a.eval=some (.int .i64 (n:Int)):=by
 rcases h with ⟨rfl,rfl⟩ | ⟨y,rfl,hy⟩
 .exact .inl ⟨rfl,rfl⟩
 .exact .inr (by simp [(Qe he hy).aM])
theorem YV {t e:TypeId} (hu:P.underlying t=some (.slice e)) (x:Value) (lo hi mx:Option Value) (w:World):(Instr.sliceAt t x lo hi mx).run P w=(Instr.slice t x lo hi mx).run P w:=by
 simp [Instr.sliceAt,run_underlying hu]
theorem Qct {t:TypeId} (hu:P.underlying t=some .string) (x:Value) (lo hi mx:Option Value) (w:World):(Instr.sliceAt t x lo hi mx).run P w=(Instr.slice t x lo hi mx).run P w:=by
 simp [Instr.sliceAt,run_underlying hu]
theorem Qed {t e:TypeId} {x:Operand} {lo hi:Option Operand} {l h:Nat} {i:TypeInfo} (ho:o.op=.slice t x lo hi none) (hx:ev env x=some (.slice none 0 0)) (hu:P.underlying t=some (.slice e)) (eW:P.info? e=some i)
  (h1:(hi=none/\h=0)\/∃ y,hi=some y/\ev env y=some (.int .i64 (h:Int))) (h2:(lo=none/\l=0)\/∃ y,lo=some y/\ev env y=some (.int .i64 (l:Int))) (hl:l<=h) (hn:h<=0) :
  bG P nt o env (.slice none 0 0):=by
 refine ⟨fun ι D a w he=>?_,fun D h=>.dL⟩
 have ex:a.eval x=.slice none 0 0:=by
  have:=Qe he hx
  cases hq:a.eval x<;>rw [hq] at this<;>cases this;rfl
 refine ⟨.slice none 0 0,?_,.dL⟩
 have hb:=Rx (P:=P) w true 0 0 l h (lo.map a.eval) (hi.map a.eval) hl hn (IX he h2) (IX he h1)
 have hh:h=0:=by omega
 have wP:l=0:=by omega
 have aT:(Instr.slice t (.slice none 0 0) (lo.map a.eval) (hi.map a.eval) none).run P w=.ok (.slice none 0 0) w:=by
  simp only [Instr.slice,Sem.run_bind,run_underlying hu,Result.andThen_ok,hb]
  simp [sizeOf,typeInfo,eW,hh,wP]
 simp only [execOp,ho,ex,Sem.run_bind,YV hu,Option.map_none,aT,Result.andThen_ok,Sem.run_pure]
theorem Qmr {t e:TypeId} {x:Operand} {lo hi:Option Operand} {p:Addr} {n c l h:Nat} {i:TypeInfo} (ho:o.op=.slice t x lo hi none) (hx:ev env x=some (.slice (some p) n c)) (hu:P.underlying t=some (.slice e)) (eW:P.info? e=some i)
  (h1:(hi=none/\h=n)\/∃ y,hi=some y/\ev env y=some (.int .i64 (h:Int))) (h2:(lo=none/\l=0)\/∃ y,lo=some y/\ev env y=some (.int .i64 (l:Int))) (hl:l<=h) (hn:h<=n) (hc:c=i.size) :
  bG P nt o env (.slice (some ⟨p.block,p.off+l*i.size,none⟩) (h - l) c):=by
 subst hc
 refine ⟨fun ι D a w he=>?_,fun D h=>.sl _ _ _ (nA h hx).wQ⟩
 have hv:=Qe he hx
 have key:∀ (q:Addr) (cap:Nat),a.eval x=.slice (some q) n cap->h<=cap->(execOp a.eval o).run P w=.ok (.value (.slice (some (if cap=l then q else q.add (l*i.size))) (h - l) (cap - l))) w:=by
  intro q cap ex kV
  have hb:=Rx (P:=P) w true n cap l h (lo.map a.eval) (hi.map a.eval) hl kV (IX he h2) (IX he h1)
  have aT:(Instr.slice t (.slice (some q) n cap) (lo.map a.eval) (hi.map a.eval) none).run P w=.ok (.slice (some (if cap=l then q else q.add (l*i.size))) (h - l) (cap - l)) w:=by
   simp only [Instr.slice,Sem.run_bind,run_underlying hu,Result.andThen_ok,hb]
   simp [sizeOf,typeInfo,eW]
   split<;>rfl
  simp only [execOp,ho,ex,Sem.run_bind,YV hu,Option.map_none,aT,Result.andThen_ok,Sem.run_pure]
 generalize hq:a.eval x=q at hv
 cases hv with
 | fj _ _ _ cap hD Bd kV =>
  refine ⟨_,key _ cap hq (by omega),?_⟩
  by_cases e:cap=l
  .rw [if_pos e]
   have e1:h - l=0:=by omega
   have e2:cap - l=0:=by omega
   rw [e1,e2];exact .bD _ _ _ hD
  .rw [if_neg e]
   have ha:(ι.addr p).add (l*i.size)=ι.addr ⟨p.block,p.off+l*i.size,none⟩:=by
    rw [KB];simp only [Io.addr,Nat.add_assoc]
   rw [ha]
   refine .fj ⟨p.block,p.off+l*i.size,none⟩ _ _ _ hD (by omega) ?_
   simp only
   have:(cap - l)*i.size+l*i.size=cap*i.size:=by rw [<- Nat.add_mul];congr 1;omega
   omega
 | bD _ b _ hD =>
  refine ⟨_,key _ 0 hq (by omega),?_⟩
  have e1:l=0:=by omega
  subst e1
  rw [if_pos rfl]
  have e2:h - 0=0:=by omega
  rw [e2];exact .bD _ _ _ hD
theorem Qee {t:TypeId} {x:Operand} {lo hi:Option Operand} {s:ByteArray} {l h:Nat} (ho:o.op=.slice t x lo hi none) (hx:ev env x=some (.string s)) (hu:P.underlying t=some .string)
  (h1:(hi=none/\h=s.size)\/∃ y,hi=some y/\ev env y=some (.int .i64 (h:Int))) (h2:(lo=none/\l=0)\/∃ y,lo=some y/\ev env y=some (.int .i64 (l:Int))) (hl:l<=h) (hn:h<=s.size) :
  bG P nt o env (.string (s.extract l h)):=by
 refine ⟨fun ι D a w he=>⟨_,?_,.str _⟩,fun D h=>.str _⟩
 have ex:=(Qe he hx).bR
 have hb:=Rx (P:=P) w false s.size s.size l h (lo.map a.eval) (hi.map a.eval) hl hn (IX he h2) (IX he h1)
 have aT:(Instr.slice t (.string s) (lo.map a.eval) (hi.map a.eval) none).run P w=.ok (.string (s.extract l h)) w:=by
  simp only [Instr.slice,Sem.run_bind,run_underlying hu,Result.andThen_ok,Option.isSome_none,Bool.false_eq_true,if_false,Sem.run_pure,hb]
 simp only [execOp,ho,ex,Sem.run_bind,Qct hu,Option.map_none,aT,Result.andThen_ok,Sem.run_pure]
theorem Qgi {src dst:TypeId} {x:Operand} {k0 k k':IntKind} {n:Int} (ho:o.op=.convert src dst x) (hx:ev env x=some (.int k' n)) (h1:P.underlying src=some (.int k0)) (h2:P.underlying dst=some (.int k)):bG P nt o env (.int k (k.wrap n)):=by
 refine ⟨fun ι D a w he=>⟨_,?_,.int _ _⟩,fun D h=>.int _ _⟩
 simp [execOp,ho,(Qe he hx).aM,convert,run_underlying h1,run_underlying h2,Conv.intToInt]
theorem Qgj {src dst:TypeId} {x:Operand} {s:ByteArray} (ho:o.op=.convert src dst x) (hx:ev env x=some (.string s)) (h1:P.underlying src=some .string) (h2:P.underlying dst=some .string):bG P nt o env (.string s):=by
 refine ⟨fun ι D a w he=>⟨_,?_,.str _⟩,fun D h=>.str _⟩
 simp [execOp,ho,(Qe he hx).bR,convert,run_underlying h1,run_underlying h2]
theorem Fq {c:Call} {b:Builtin} (ho:o.op=.call c) (hb:c.callee=.builtin b) (ρ:Operand->Value) (w:World) :
  ∃ consts,(execOp ρ o).run P w=(builtin b c.argTypes o.type consts (c.args.map ρ)).run P w:=by
 simp only [execOp,ho,resolve,hb,invoke,Sem.run_bind,Sem.run_pure,Result.andThen_ok]
 exact ⟨_,rfl⟩
theorem Ry {c:Call} {v:Value} (h:eX env c.args.toList=some [v]):∃ x,c.args = #[x]/\ev env x=some v:=by
 generalize c.args=A at h ⊢
 obtain ⟨args⟩:=A
 match args,h with
 | [],h=>simp [eX] at h
 | [x],h =>
  simp only [eX] at h
  obtain ⟨u,hu,h⟩:=Q2 h
  simp [Q1] at h
  exact ⟨x,rfl,h▸hu⟩
 | x::y::r,h =>
  simp only [eX] at h
  obtain ⟨u,hu,h⟩:=Q2 h
  obtain ⟨l,hl,h⟩:=Q2 h
  obtain ⟨u',dB,hl⟩:=Q2 hl
  obtain ⟨l',jH,hl⟩:=Q2 hl
  simp at h hl
  rw [<- hl] at h
  simp at h
theorem IY {c:Call} {v v':Value} (h:eX env c.args.toList=some [v,v']):∃ x y,c.args = #[x,y]/\ev env x=some v/\ev env y=some v':=by
 generalize c.args=A at h ⊢
 obtain ⟨args⟩:=A
 match args,h with
 | [],h=>simp [eX] at h
 | x::r,h =>
  simp only [eX] at h
  obtain ⟨u,hu,h⟩:=Q2 h
  obtain ⟨l,hl,h⟩:=Q2 h
  simp at h
  obtain ⟨h1,h2⟩:=h
  subst h1
  match r,hl with
  | [],hl=>simp [eX] at hl;rw [<- hl] at h2;simp at h2
  | [y],hl =>
   simp only [eX] at hl
   obtain ⟨u',dB,hl⟩:=Q2 hl
   simp [Q1] at hl
   rw [<- hl] at h2
   simp at h2
   exact ⟨x,y,rfl,hu,h2▸dB⟩
  | y::z::q,hl =>
   simp only [eX] at hl
   obtain ⟨u',dB,hl⟩:=Q2 hl
   obtain ⟨l',jH,hl⟩:=Q2 hl
   obtain ⟨u2,iN,jH⟩:=Q2 jH
   obtain ⟨l2,gr,jH⟩:=Q2 jH
   simp at hl jH
   rw [<- hl,<- jH] at h2
   simp at h2
theorem Rz {c:Call} {t:TypeId} (h:c.argTypes.toList=[t]):c.argTypes = #[t]:=by
 generalize c.argTypes=A at h ⊢;obtain ⟨l⟩:=A;simp at h;rw [h]
theorem Ox {c:Call} {t u:TypeId} (h:c.argTypes.toList=[t,u]):c.argTypes = #[t,u]:=by
 generalize c.argTypes=A at h ⊢;obtain ⟨l⟩:=A;simp at h;rw [h]
theorem Qms {c:Call} {t e:TypeId} {a:Option Addr} {n m:Nat} (ho:o.op=.call c) (hb:c.callee=.builtin .len) (ht:c.argTypes.toList=[t]) (hv:eX env c.args.toList=some [.slice a n m]) (hu:P.underlying t=some (.slice e)) :
  bG P nt o env (.int .i64 n):=by
 refine ⟨fun ι D act w he=>⟨_,?_,.int _ _⟩,fun D h=>.int _ _⟩
 obtain ⟨x,hx,wR⟩:=Ry hv
 obtain ⟨a',cap,e',_,_⟩:=(Qe he wR).oU
 obtain ⟨cs,cD⟩:=Fq (P:=P) ho hb act.eval w
 rw [cD,Rz ht,hx]
 simp [builtin,Builtin.len_,e',run_underlying hu,goInt]
theorem Qjb {c:Call} {t e:TypeId} (ho:o.op=.call c) (hb:c.callee=.builtin .cap) (ht:c.argTypes.toList=[t]) (hv:eX env c.args.toList=some [.slice none 0 0]) (hu:P.underlying t=some (.slice e)) :
  bG P nt o env (.int .i64 0):=by
 refine ⟨fun ι D act w he=>⟨_,?_,.int _ _⟩,fun D h=>.int _ _⟩
 obtain ⟨x,hx,wR⟩:=Ry hv
 have e':act.eval x=.slice none 0 0:=by
  have:=Qe he wR
  cases hq:act.eval x<;>rw [hq] at this<;>cases this;rfl
 obtain ⟨cs,cD⟩:=Fq (P:=P) ho hb act.eval w
 rw [cD,Rz ht,hx]
 simp [builtin,Builtin.cap_,e',run_underlying hu,goInt]
theorem Qjc {c:Call} {t:TypeId} {s:ByteArray} (ho:o.op=.call c) (hb:c.callee=.builtin .len) (ht:c.argTypes.toList=[t]) (hv:eX env c.args.toList=some [.string s]) (hu:P.underlying t=some .string) :
  bG P nt o env (.int .i64 s.size):=by
 refine ⟨fun ι D act w he=>⟨_,?_,.int _ _⟩,fun D h=>.int _ _⟩
 obtain ⟨x,hx,wR⟩:=Ry hv
 obtain ⟨cs,cD⟩:=Fq (P:=P) ho hb act.eval w
 rw [cD,Rz ht,hx]
 simp [builtin,Builtin.len_,(Qe he wR).bR,run_underlying hu,goInt]
theorem Qs5 {c:Call} {k k':IntKind} {x y:Int} (ho:o.op=.call c) (hb:c.callee=.builtin .min) (hv:eX env c.args.toList=some [.int k x,.int k' y]):bG P nt o env (.int k (if y < x then y else x)):=by
 refine ⟨fun ι D act w he=>⟨_,?_,.int _ _⟩,fun D h=>.int _ _⟩
 obtain ⟨p,q,hx,h1,h2⟩:=IY hv
 obtain ⟨cs,cD⟩:=Fq (P:=P) ho hb act.eval w
 rw [cD,hx]
 simp [builtin,(Qe he h1).aM,(Qe he h2).aM,run_min_int2]
theorem Qs6 {c:Call} {k k':IntKind} {x y:Int} (ho:o.op=.call c) (hb:c.callee=.builtin .max) (hv:eX env c.args.toList=some [.int k x,.int k' y]):bG P nt o env (.int k (if y > x then y else x)):=by
 refine ⟨fun ι D act w he=>⟨_,?_,.int _ _⟩,fun D h=>.int _ _⟩
 obtain ⟨p,q,hx,h1,h2⟩:=IY hv
 obtain ⟨cs,cD⟩:=Fq (P:=P) ho hb act.eval w
 rw [cD,hx]
 simp [builtin,(Qe he h1).aM,(Qe he h2).aM,run_max_int2]
def Fs (ι:Io) (D:Nat->Prop):List (Nat×Value)->List (Nat×Value)->Prop
 | [],[]=>True
 | x::r,y::q=>x.1=y.1/\ay ι D x.2 y.2/\Fs ι D r q
 | _,_=>False
theorem RA {ι:Io} {D:Nat->Prop} {a:Act} (he:bt ι D nt env a):∀ {xs:List (Nat×Operand)} {ps:List (Nat×Value)},oD env xs=some ps->Fs ι D ps (xs.map fun (i,x)=>(i,a.eval x))
 | [],ps,h=>by simp [oD] at h;subst h;trivial
 | (i,x)::r,ps,h=>by
  simp only [oD] at h
  obtain ⟨v,hv,h⟩:=Q2 h
  obtain ⟨l,hl,h⟩:=Q2 h
  simp at h;subst h
  exact ⟨rfl,Qe he hv,RA he hl⟩
theorem RB {D:Nat->Prop} (he:dM D env):∀ {xs:List (Nat×Operand)} {ps:List (Nat×Value)},oD env xs=some ps->∀ p∈ps,bK D p.2
 | [],ps,h=>by simp [oD] at h;subst h;simp
 | (i,x)::r,ps,h=>by
  simp only [oD] at h
  obtain ⟨v,hv,h⟩:=Q2 h
  obtain ⟨l,hl,h⟩:=Q2 h
  simp at h;subst h
  intro p hp
  rcases Z2 hp with rfl | hp
  .exact nA he hv
  .exact RB he hl p hp
theorem ay.cells {ι:Io} {D:Nat->Prop} {v c:Value} (h:ay ι D v c):aZ ι D v.cells.toList c.cells.toList:=by
 cases hv:Ev.az v with
 | true =>
  have hc:=h.az
  have e1:v.cells = #[v]:=by cases v<;>first | rfl | simp [Ev.az] at hv
  have e2:c.cells = #[c]:=by rw [hv] at hc;cases c<;>first | rfl | simp [Ev.az] at hc
  rw [e1,e2];exact aZ.cons h (aZ.nil ι D)
 | false =>
  cases h<;>first | (simp [Ev.az] at hv;done) | skip
  case agg xs ys hl h=>exact ⟨hl,h⟩
  case tuple xs ys hl h=>exact aZ.cons (.tuple xs ys hl h) (aZ.nil ι D)
theorem bK.cells {D:Nat->Prop} {v:Value} (h:bK D v):gT D v.cells.toList:=by
 cases v
 case agg xs=>exact h.kW
 all_goals
  intro u hu
  simp [Value.cells] at hu
  subst hu;exact h
theorem aZ.set {ι:Io} {D:Nat->Prop} {xs ys:Array Value} (h:aZ ι D xs.toList ys.toList) {v c:Value} (hv:ay ι D v c) (i:Nat):aZ ι D (xs.setIfInBounds i v).toList (ys.setIfInBounds i c).toList:=by
 simp only [Array.toList_setIfInBounds]
 refine ⟨by simp [h.1],fun j h1 h2=>?_⟩
 simp only [List.getElem_set]
 split
 .exact hv
 .exact h.2 j _ _
theorem YW {ι:Io} {D:Nat->Prop} (off:Nat):∀ (l l':List Value) (n:Nat) (A A':Array Value),aZ ι D l l'->aZ ι D A.toList A'.toList ->
  aZ ι D ((l.zipIdx n).foldl (fun cs (c,j)=>cs.setIfInBounds (off+j) c) A).toList ((l'.zipIdx n).foldl (fun cs (c,j)=>cs.setIfInBounds (off+j) c) A').toList
 | [],[],n,A,A',_,hA=>by simpa using hA
 | [],_::_,_,_,_,h,_=>absurd h.1 (by simp)
 | _::_,[],_,_,_,h,_=>absurd h.1 (by simp)
 | v::l,c::l',n,A,A',h,hA=>by
  simp only [List.zipIdx_cons,List.foldl_cons]
  exact YW off l l' (n+1) _ _ h.tail (hA.set h.head _)
theorem RC {ι:Io} {D:Nat->Prop} (place:Nat->Option (Nat×Nat)):∀ (ps qs:List (Nat×Value)) (A A' cs:Array Value),Fs ι D ps qs->aZ ι D A.toList A'.toList->Instr.fill place A ps=some cs->∃ tv,Instr.fill place A' qs=some tv/\aZ ι D cs.toList tv.toList
 | [],[],A,A',cs,_,hA,h=>by simp [Instr.fill] at h;subst h;exact ⟨A',rfl,hA⟩
 | [],_::_,_,_,_,h,_,_=>h.elim
 | _::_,[],_,_,_,h,_,_=>h.elim
 | (i,v)::ps,(j,c)::qs,A,A',cs,⟨e,hv,hp⟩,hA,h=>by
  simp only at e hv
  subst e
  simp only [Instr.fill] at h ⊢
  cases iO:place i with
  | none=>rw [iO] at h;simp at h
  | some os =>
   obtain ⟨off,size⟩:=os
   rw [iO] at h
   simp only at h ⊢
   have cD:c.cells.size=v.cells.size:=by have:=hv.cells.1;simpa using this.symm
   have hAs:A'.size=A.size:=by have:=hA.1;simpa using this.symm
   rw [cD,hAs]
   split at h
   .simp at h
   .rename_i hn
    rw [if_neg hn]
    refine RC place ps qs _ _ cs hp ?_ h
    have:=YW (ι:=ι) (D:=D) off v.cells.toList c.cells.toList 0 A A' hv.cells hA
    rw [<- Array.foldl_toList,<- Array.foldl_toList]
    simpa using this
theorem YX {D:Nat->Prop} (off:Nat):∀ (l:List Value) (n:Nat) (A:Array Value),gT D l->gT D A.toList->gT D ((l.zipIdx n).foldl (fun cs (c,j)=>cs.setIfInBounds (off+j) c) A).toList
 | [],n,A,_,hA=>by simpa using hA
 | v::l,n,A,h,hA=>by
  simp only [List.zipIdx_cons,List.foldl_cons]
  refine YX off l (n+1) _ (fun u hu=>h u (List.mem_cons_of_mem _ hu)) ?_
  intro u hu
  simp only [Array.toList_setIfInBounds] at hu
  rcases List.mem_or_eq_of_mem_set hu with hu | rfl
  .exact hA u hu
  .exact h _ (List.mem_cons_self ..)
theorem RD {D:Nat->Prop} (place:Nat->Option (Nat×Nat)):∀ (ps:List (Nat×Value)) (A cs:Array Value),(∀ p∈ps,bK D p.2)->gT D A.toList->Instr.fill place A ps=some cs->gT D cs.toList
 | [],A,cs,_,hA,h=>by simp [Instr.fill] at h;subst h;exact hA
 | (i,v)::ps,A,cs,hp,hA,h=>by
  simp only [Instr.fill] at h
  cases iO:place i with
  | none=>rw [iO] at h;simp at h
  | some os =>
   obtain ⟨off,size⟩:=os
   rw [iO] at h
   simp only at h
   split at h
   .simp at h
   .refine RD place ps _ cs (fun p h=>hp p (List.mem_cons_of_mem _ h)) ?_ h
    have:=YX (D:=D) off v.cells.toList 0 A (hp _ (List.mem_cons_self ..)).cells hA
    rw [<- Array.foldl_toList]
    simpa using this
theorem Qmt {t:TypeId} {ps:List (Nat×Value)} {cs:Array Value} (h:P.built t ps=some cs):∃ z place,Be P t=some z/\(∀ qs,P.built t qs=Instr.fill place z.cells qs):=by
 unfold Program.built at h
 cases BY:P.info? t with
 | none=>simp [BY] at h
 | some it =>
  cases hu:P.underlying t with
  | none=>simp [BY,hu] at h
  | some d =>
   cases hz:it.zero with
   | none=>cases d<;>simp [BY,hu,hz] at h
   | some z =>
    have YY:Be P t=some z:=by simp [Be,BY,Q1,hz]
    cases d<;>try (simp [BY,hu] at h;done)
    case array n e =>
     cases Oy:P.info? e with
     | none=>simp [BY,hu,hz,Oy] at h
     | some ie=>exact ⟨z,fun i=>some (i*ie.size,ie.size),YY,fun qs=>by simp only [Program.built,BY,hu,hz,Oy]⟩
    case struct fields =>
     cases hp:fields.toList.mapM (fun f=>(P.info? f.type).map fun i=>(f.offset,i.size)) with
     | none=>simp [BY,hu,hz,hp] at h
     | some places=>exact ⟨z,fun x=>places.toArray[x]?,YY,fun qs=>by simp only [Program.built,BY,hu,hz,hp]⟩
theorem Qmu {t:TypeId} {parts:Array (Nat×Operand)} {ps:List (Nat×Value)} {cs:Array Value} (ho:o.op=.build t parts) (hp:oD env parts.toList=some ps) (hf:Ft P t ps=some cs):bG P nt o env (.agg cs):=by
 unfold Ft at hf
 obtain ⟨z,hz,hf⟩:=Q2 hf
 split at hf
 .rename_i DD
  obtain ⟨z',place,aX,hb⟩:=Qmt hf
  rw [hz] at aX;simp at aX;subst aX
  refine ⟨fun ι D a w he=>?_,fun D he=>?_⟩
  .rw [hb] at hf
   obtain ⟨tv,h1,h2⟩:=RC place _ _ _ _ cs (RA he hp) (aZ.cr DD ι D) hf
   refine ⟨.agg tv,?_,h2.b_⟩
   have aT:=run_build (P:=P) w t (parts.map fun (i,x)=>(i,a.eval x)) tv (by rw [hb,<- h1];congr 1;simp)
   simp only [execOp,ho,Sem.run_bind,aT,Result.andThen_ok,Sem.run_pure]
  .rw [hb] at hf
   exact bK.b_ (RD place _ _ cs (RB he hp) (fun v hv=>tw (Z3 DD v hv) D) hf)
 .simp at hf
end
structure kA (P:Program) (nt:Nat) (o:Oper) (env:Env) (H:af) (raw v:Value):Prop where
 rd:c_ P o.op env H=some raw
 run:∀ (ι:Io) (D:Nat->Prop) (a:Act) (w:World) (G:af),c_ P o.op env G=some raw->Rel ι D G w->bt ι D nt env a->∃ c,(execOp a.eval o).run P w=.ok (.value c) w/\ay ι D v c
 lt:dM (aL H.length) env->Qm H.length H->bK (aL H.length) v
structure fV (P:Program) (nt:Nat) (o:Oper) (env:Env) (vs:List Value) (mk:Nat->Value):Prop where
 cells:∀ v∈vs,az v=true
 run:∀ (ι:Io) (D:Nat->Prop) (a:Act) (w:World),bt ι D nt env a->∃ (cs rest:List Value) (fm:TypeId) (fz:Nat×Nat) (w0:World) (c:Value),aZ ι D vs cs/\oV fz (cs++rest).length/\w0.heap=w.heap/\w0.os=w.os/\w0.tape=w.tape/\w0.output=w.output /\
  (execOp a.eval o).run P w=.ok (.value c) (w0.alloc (.cells (cs++rest).toArray fm fz))/\∀ id,ay (ι.set id ⟨w.heap.size,0,(cs++rest).length⟩) (fun b=>D b\/b=id) (mk id) c
 lt:∀ D:Nat->Prop,dM D env->gT D vs
 ltv:∀ (D:Nat->Prop) id,D id->bK D (mk id)
 aJ:∀ id,IZ (mk id)=some id
section
variable {P:Program} {nt:Nat} {o:Oper} {env:Env} {H:af} {X:Cx} {β:Type} {K:Value->af->Option β} {r:β}
theorem Oz {a:Addr} {n:Nat} {l:List Value} (h:Qx H a n=some l) (hc:Qm H.length H):gT (aL H.length) l:=by
 obtain ⟨k,hk,h⟩:=Q2 h
 split at h
 .simp at h;subst h
  intro v hv
  exact hc _ (Qt hk) k hk v (List.mem_of_mem_drop (List.mem_of_mem_take hv))
 .simp at h
theorem YZ {a:Addr} {n:Nat} {l:List Value} (h:fN H a n=some l) (hc:Qm H.length H):gT (aL H.length) l:=by
 cases n with
 | zero=>simp only [fN,Option.some.injEq] at h;subst h;intro v hv;simp at hv
 | succ m=>exact Oz h hc
theorem Y3 {a:Addr} {v:Value} (h:gL H a=some v) (hc:Qm H.length H):bK (aL H.length) v:=by
 obtain ⟨k,hk,h⟩:=Q2 h
 exact hc _ (Qt hk) k hk v (Zc h)
theorem Qje {t:TypeId} {x:Operand} {v:Value} (ho:o.op=.load t x) (hg:Bf P t x=some v):kA P nt o env H v v:=by
 obtain ⟨g,l,i,n,e,rfl,hl,hi,hu,h1,h2,rfl⟩:=Y4 hg
 refine ⟨by simp only [c_,ho,hg],fun ι D a w G _ hR _=>⟨.agg l.toArray,?_,aZ.b_ (aZ.cr h2 ι D)⟩,fun _ _=>bK.b_ fun v hv=>tw (Z3 h2 v hv) _⟩
 have aT:=run_loadCells_list (P:=P) w (⟨g,0,none⟩:Addr) l (fun j v hv=>hR.gw.cells hl j v hv)
 have nB:(isAgg t).run P w=.ok true w:=by simp [isAgg,run_underlying hu]
 have ex:a.eval (.global g)=.pointer (some ⟨g,0,none⟩):=rfl
 rw [h1] at aT
 simp only [execOp,ho,ex,Instr.loadAt,Instr.sureAddr,loadVar,Sem.run_bind,Sem.run_pure,Result.andThen_ok,nB,if_true,sizeOf,typeInfo,run_program,hi,aT]
theorem Y5 {t:TypeId} {x:Operand} {p:Addr} {i:TypeInfo} {l:List Value} {d:TypeDesc} (ho:o.op=.load t x) (hx:ev env x=some (.pointer (some p))) (hi:P.info? t=some i) (hu:P.underlying t=some d)
  (hd:(∃ fs,d=.struct fs)\/∃ n e,d=.array n e) (hl:Qx H p i.size=some l):kA P nt o env H (.agg l.toArray) (.agg l.toArray):=by
 have kX:∀ G:af,c_ P o.op env G=Q1 (Qx G p i.size) fun l=>some (.agg l.toArray):=by
  intro G
  rcases hd with ⟨fs,rfl⟩ | ⟨n,e,rfl⟩<;>simp only [c_,ho,KC hx,hx,Q1,e_,hi,hu]
 refine ⟨by rw [kX,hl];rfl,fun ι D a w G hG hR he=>?_,fun he hc=>bK.b_ (Oz hl hc)⟩
 rw [kX] at hG
 obtain ⟨l',jH,e⟩:=Q2 hG
 simp at e;subst e
 obtain ⟨cs,h1,h2,h3,h4⟩:=hR.wS jH
 have aT:=run_loadCells_list (P:=P) w (ι.addr p) cs h3
 refine ⟨.agg cs.toArray,?_,aZ.b_ h2⟩
 have ex:=(Qe he hx).dH.1
 have nB:(isAgg t).run P w=.ok true w:=by
  rcases hd with ⟨fs,rfl⟩ | ⟨n,e,rfl⟩<;>simp [isAgg,run_underlying hu]
 rw [h1] at aT
 simp only [execOp,ho,ex,Instr.loadAt,Instr.sureAddr,loadVar,Sem.run_bind,Sem.run_pure,Result.andThen_ok,nB,if_true,sizeOf,typeInfo,run_program,hi,aT]
theorem Qoo {t:TypeId} {x:Operand} {p:Addr} {i:TypeInfo} {u:Value} {d:TypeDesc} (ho:o.op=.load t x) (hx:ev env x=some (.pointer (some p))) (hi:P.info? t=some i) (hu:P.underlying t=some d)
  (hd:(∀ fs,d≠.struct fs)/\∀ n e,d≠.array n e) (hl:gL H p=some u):kA P nt o env H u u:=by
 have kX:∀ G:af,c_ P o.op env G=gL G p:=by
  intro G
  simp only [c_,ho,KC hx,hx,Q1,e_,hi,hu]
  cases d<;>first | rfl | exact absurd rfl (hd.1 _) | exact absurd rfl (hd.2 _ _)
 refine ⟨by rw [kX,hl],fun ι D a w G hG hR he=>?_,fun he hc=>Y3 hl hc⟩
 rw [kX] at hG
 obtain ⟨c,h1,h2,h3⟩:=hR.load hG
 refine ⟨c,?_,h2⟩
 have ex:=(Qe he hx).dH.1
 have nB:(isAgg t).run P w=.ok false w:=by
  simp only [isAgg,Sem.run_bind,run_underlying hu,Result.andThen_ok]
  cases d<;>first | rfl | exact absurd rfl (hd.1 _) | exact absurd rfl (hd.2 _ _)
 simp only [execOp,ho,ex,Instr.loadAt,Instr.sureAddr,loadVar,Sem.run_bind,Sem.run_pure,Result.andThen_ok,nB,Bool.false_eq_true,if_false,run_load,h1]
theorem OA {ι:Io} {D:Nat->Prop} {w:World} (hR:Rel ι D H w) {size:Nat} {a:Option Addr} {n m:Nat} {l:List Value} (hl:Qf H size (.slice a n m)=some l) {c:Value} (hc:ay ι D (.slice a n m) c) :
  ∃ cs:List Value,cs.length=n*size/\aZ ι D l cs/\(∀ v∈l,az v=true)/\(Builtin.firstCells size n c).run P w=.ok cs.toArray w/\∃ a' cap,c=.slice a' n cap/\(a'=none->n=0):=by
 unfold Qf at hl
 split at hl
 .rename_i h;simp at h;obtain ⟨rfl,rfl,rfl⟩:=h
  simp at hl;subst hl
  cases hc
  exact ⟨[],by simp,aZ.nil ι D,by simp,by simp [Builtin.firstCells],none,0,rfl,fun _=>rfl⟩
 .rename_i p n' m' h;simp at h;obtain ⟨rfl,rfl,rfl⟩:=h
  obtain ⟨cs,h1,h2,h3,h4⟩:=hR.DE hl
  cases hc with
  | fj _ _ _ cap hD Bd kV =>
   have aT:=run_loadCells_list (P:=P) w (ι.addr p) cs h3
   rw [h1] at aT
   exact ⟨cs,h1,h2,h4,by simp only [Builtin.firstCells];exact aT,_,cap,rfl,by simp⟩
  | bD _ b _ hD =>
   have e:cs=[]:=Z1 (by simpa using h1)
   subst e
   exact ⟨[],by simp,h2,h4,by simp [Builtin.firstCells,loadCells,loadCellsFrom],_,0,rfl,by simp⟩
 .simp at hl
theorem Qeh {size:Nat} {v:Value} {l:List Value} (hl:Qf H size v=some l) (hc:Qm H.length H):gT (aL H.length) l:=by
 unfold Qf at hl
 split at hl
 .simp at hl;subst hl;intro v hv;simp at hv
 .exact YZ hl hc
 .simp at hl
theorem Y6:∀ {l:List Value} {bs:List UInt8},DF l=some bs->∃ ns:List Int,l=ns.map (Value.int .u8)/\bs=ns.map fun n=>UInt8.ofNat n.toNat
 | [],bs,h=>by simp [DF] at h;subst h;exact ⟨[],rfl,rfl⟩
 | c::cs,bs,h=>by
  unfold DF at h
  split at h
  .simp at *
  .rename_i n r heq
   simp at heq
   obtain ⟨rfl,rfl⟩:=heq
   obtain ⟨l,hl,h⟩:=Q2 h
   simp at h;subst h
   obtain ⟨ns,e1,e2⟩:=Y6 hl
   exact ⟨n::ns,by simp [e1],by simp [e2]⟩
  .simp at h
theorem Qmv (ns:List Int):∀ s:ByteArray,ns.foldl (fun r n=>r.push (UInt8.ofNat n.toNat)) s=⟨(s.data.toList++ns.map fun n=>UInt8.ofNat n.toNat).toArray⟩:=by
 induction ns with
 | nil=>intro s;simp
 | cons n ns ih =>
  intro s
  rw [List.foldl_cons,ih]
  simp [ByteArray.push]
theorem Y7 {ι:Io} {D:Nat->Prop}:∀ {ns:List Int} {cs:List Value},aZ ι D (ns.map (Value.int .u8)) cs->cs=ns.map (Value.int .u8)
 | [],cs,h=>by
  have:=h.1;simp at this;exact Z1 this.symm
 | n::ns,[],h=>absurd h.1 (by simp)
 | n::ns,c::cs,h=>by
  rw [h.head.aM,Y7 (ns:=ns) h.tail];rfl
theorem Qcu {src dst e:TypeId} {x:Operand} {a:Option Addr} {n m:Nat} {l:List Value} {bs:List UInt8} (ho:o.op=.convert src dst x) (hx:ev env x=some (.slice a n m)) (h1:P.underlying src=some (.slice e)) (h2:P.underlying dst=some .string)
  (h3:P.underlying e=some (.int .u8)) (hl:Qf H 1 (.slice a n m)=some l) (hb:DF l=some bs):kA P nt o env H (.agg l.toArray) (.string ⟨bs.toArray⟩):=by
 have kX:∀ G:af,c_ P o.op env G=Q1 (Qf G 1 (.slice a n m)) fun l=>some (.agg l.toArray):=by
  intro G;simp only [c_,ho,hx,Q1]
 refine ⟨by rw [kX,hl];rfl,fun ι D act w G hG hR he=>⟨.string ⟨bs.toArray⟩,?_,.str _⟩,fun _ _=>.str _⟩
 rw [kX] at hG
 obtain ⟨l',jH,e'⟩:=Q2 hG
 simp at e';subst e'
 obtain ⟨ns,e1,e2⟩:=Y6 hb
 obtain ⟨cs,g1,g2,g3,g4,a',cap,g5,g6⟩:=OA (P:=P) hR jH (Qe he hx)
 rw [e1] at g2
 have cD:=Y7 g2
 subst cD
 have aT:(Conv.bytesToString (.slice a' n cap)).run P w=.ok (.string ⟨bs.toArray⟩) w:=by
  cases a' with
  | none =>
   have hn:=g6 rfl
   subst hn
   have:ns=[]:=by simpa using g1
   subst this
   simp at e2;subst e2
   rfl
  | some q =>
   rw [g5] at g4
   simp only [Builtin.firstCells,Nat.mul_one] at g4
   rw [run_bytesToString w q n cap ns g4,Qmv,e2]
   rfl
 simp only [execOp,ho,g5,Sem.run_bind,run_convert_bytes_string w src dst e a' n cap h1 h3 h2,aT,Result.andThen_ok,Sem.run_pure]
theorem Y8 {ι:Io} {D:Nat->Prop} {k sz:Nat} (id:Nat):ay (ι.set id ⟨k,0,sz⟩) (fun b=>D b\/b=id) (.pointer (some ⟨id,0,none⟩)) (.pointer (some ⟨k,0,none⟩)):=by
 have:=ay.ptr (ι:=ι.set id ⟨k,0,sz⟩) (D:=fun b=>D b\/b=id) ⟨id,0,none⟩ (.inr rfl)
 simp only [Io.addr,Io.aC] at this
 exact this
theorem KD {ι:Io} {D:Nat->Prop} {k sz n c cap:Nat} (id:Nat) (hl:n<=cap) (hc:cap*c<=sz):ay (ι.set id ⟨k,0,sz⟩) (fun b=>D b\/b=id) (.slice (some ⟨id,0,none⟩) n c) (.slice (some ⟨k,0,none⟩) n cap):=by
 have:=ay.fj (ι:=ι.set id ⟨k,0,sz⟩) (D:=fun b=>D b\/b=id) ⟨id,0,none⟩ n c cap (.inr rfl) hl (by simp only [Io.aC];omega)
 simp only [Io.addr,Io.aC] at this
 exact this
theorem Qjf {t:TypeId} {z:Value} (ho:o.op=.alloc t) (hz:Be P t=some z) (hl:z.cells.toList.all Qu=true):fV P nt o env z.cells.toList fun id=>.pointer (some ⟨id,0,none⟩):=by
 refine ⟨fun v hv=>I0 (Z3 hl v hv),fun ι D a w he=>⟨z.cells.toList,[],t,(0,0),w,.pointer (some ⟨w.heap.size,0,none⟩),aZ.cr hl ι D,oV.zero _,rfl,rfl,rfl,rfl,?_,fun id=>Y8 id⟩,
  fun D _ v hv=>tw (Z3 hl v hv) D,fun D id h=>.ptr _ h,fun id=>rfl⟩
 obtain ⟨i,hi,aX⟩:=Q2 hz
 simp only [execOp,ho,Instr.alloc,zeroValue,typeInfo,newVar,newRow,Sem.run_bind,run_program,Result.andThen_ok,hi,Sem.run_pure,aX,run_newObj,List.append_nil,Array.toArray_toList]
 rfl
theorem Qoq {t:TypeId} {x:Operand} {v:Value} (ho:o.op=.box t x) (hx:ev env x=some v) (hl:v.cells.toList.all az=true):fV P nt o env v.cells.toList fun id=>.pointer (some ⟨id,0,none⟩):=by
 refine ⟨fun u hu=>Z3 hl u hu,fun ι D a w he=>⟨(a.eval x).cells.toList,[],t,(0,0),w,.pointer (some ⟨w.heap.size,0,none⟩),(Qe he hx).cells,oV.zero _,rfl,rfl,rfl,rfl,?_,fun id=>Y8 id⟩,
  fun D he=>(nA he hx).cells,fun D id h=>.ptr _ h,fun id=>rfl⟩
 simp only [execOp,ho,Instr.box,newVar,newRow,Sem.run_bind,Result.andThen_ok,Sem.run_pure,run_newObj,List.append_nil,Array.toArray_toList]
 rfl
theorem range_add (a b:Nat):List.range (a+b)=List.range a++(List.range b).map (a + ·):=List.range_add
theorem KF (z:Array Value):∀ n:Nat,((Array.range (n*z.size)).map fun i=>z[i % z.size]!).toList=(List.replicate n z.toList).flatten:=by
 intro n
 simp only [Array.toList_map,Array.toList_range]
 induction n with
 | zero=>simp
 | succ n ih =>
  rw [List.replicate_succ,Ze,<- ih,show (n+1)*z.size=z.size+n*z.size by rw [Nat.add_mul];omega,List.range_add,List.map_append,List.map_map]
  congr 1
  .apply List.ext_getElem
   .simp
   .intro i h1 h2
    simp only [List.length_map,List.length_range] at h1
    simp [Nat.mod_eq_of_lt h1,getElem!_pos z i h1]
  .apply List.map_congr_left
   intro i _
   simp
theorem BZ {z:List Value} {p:Value->Bool} (h:z.all p=true) (n:Nat):(List.replicate n z).flatten.all p=true:=by
 rw [List.all_eq_true] at h ⊢
 intro v hv
 obtain ⟨l,hl,hv⟩:=List.mem_flatten.1 hv
 rw [(List.mem_replicate.1 hl).2] at hv
 exact h v hv
theorem I1 {t e:TypeId} {size bytes:Nat} {z:Value} (h:oW P t=some (e,size,bytes,z)) :
  ∃ i,P.underlying t=some (.slice e)/\P.info? e=some i/\i.size=size/\i.bytes=bytes/\i.zero=some z/\z.cells.toList.all Qu=true/\z.cells.size=size/\1<=bytes:=by
 unfold oW at h
 split at h
 .rename_i e' hu
  obtain ⟨i,hi,h⟩:=Q2 h
  obtain ⟨z',hz,h⟩:=Q2 h
  split at h
  .rename_i g1 g2 g3
   simp at h
   obtain ⟨rfl,rfl,rfl,rfl⟩:=h
   exact ⟨i,hu,hi,rfl,rfl,hz,g1,Z7 g2,Zi g3⟩
  .simp at h
 .simp at h
theorem Qab {t e:TypeId} {len size bytes:Nat} {parts:Array (Nat×Operand)} {ps:List (Nat×Value)} {z:Value} {cs:Array Value} (ho:o.op=.buildSlice t len parts) (hp:oD env parts.toList=some ps) (gM:oW P t=some (e,size,bytes,z))
  (h1:Nat.ble (len*size) 16777216=true) (hf:Instr.fill (fun i=>some (i*size,size)) ((List.replicate len z.cells.toList).flatten.toArray) ps=some cs) (hc:cs.toList.all az=true) (hlen:cs.size=len*size) :
  fV P nt o env cs.toList fun id=>.slice (some ⟨id,0,none⟩) len size:=by
 obtain ⟨i,hu,hi,rfl,rfl,hz,h2,h3,gp⟩:=I1 gM
 have h1:=Zi h1
 refine ⟨fun u hu=>Z3 hc u hu,fun ι D a w he=>?_,fun D he=>RD _ _ _ cs (RB he hp) (fun v hv=>tw (Z3 (BZ h2 len) v (by simpa using hv)) D) hf,fun D id h=>.sl _ _ _ h,fun id=>rfl⟩
 obtain ⟨tv,g1,g2⟩:=RC (ι:=ι) (D:=D) _ _ _ _ ((List.replicate len z.cells.toList).flatten.toArray) cs (RA he hp) (aZ.cr (by simpa using BZ h2 len) ι D) hf
 have jH:tv.size=len*i.size:=by have:=g2.1;simp at this;omega
 refine ⟨tv.toList,[],e,(0,0),w,.slice (some ⟨w.heap.size,0,none⟩) len len,g2,oV.zero _,rfl,rfl,rfl,rfl,?_,fun id=>KD id (Zd _) (by simp;omega)⟩
 have eJ:¬ (len*i.size > 2 ^ 24):=by omega
 have wT:(parts.map fun (x:Nat×Operand)=>(x.fst,a.eval x.snd)).toList=parts.toList.map fun (i,x)=>(i,a.eval x):=by simp
 by_cases h0:len*i.size=0
 .have iY:((Array.range (len*i.size)).map ((#[]:Array Value)[· % (#[]:Array Value).size]!))=(List.replicate len z.cells.toList).flatten.toArray:=by
   apply Array.ext'
   have:=KF z.cells len
   rw [h3,h0] at this
   rw [<- this,h0];simp
  simp only [execOp,ho,Instr.buildSlice,Sem.run_bind,run_underlying hu,Result.andThen_ok,sizeOf,typeInfo,run_program,hi,Sem.run_pure,if_neg eJ,if_pos h0,iY,wT,g1,newRow,run_newObj,List.append_nil,Array.toArray_toList]
  rfl
 .have iY:((Array.range (len*i.size)).map (z.cells[· % z.cells.size]!))=(List.replicate len z.cells.toList).flatten.toArray:=by
   apply Array.ext'
   have:=KF z.cells len
   rw [h3] at this
   rw [h3]
   simpa using this
  simp only [execOp,ho,Instr.buildSlice,Sem.run_bind,run_underlying hu,Result.andThen_ok,sizeOf,typeInfo,run_program,hi,Sem.run_pure,if_neg eJ,if_neg h0,zeroValue,hz,iY,wT,g1,newRow,run_newObj,List.append_nil,Array.toArray_toList]
  rfl
theorem RE (n:Nat) (h:n<=9223372036854775807):IntKind.i64.wrap (n:Int)=n:=by rw [IntKind.wrap_i64];omega
theorem Qb0 {t e:TypeId} {l c:Operand} {n m size bytes:Nat} {z:Value} (ho:o.op=.makeSlice t l c) (hl:ev env l=some (.int .i64 (n:Int))) (hc:ev env c=some (.int .i64 (m:Int))) (gM:oW P t=some (e,size,bytes,z))
  (h1:n<=m) (h2:m*bytes<=Q7) :
  fV P nt o env (List.replicate n z.cells.toList).flatten fun id=>.slice (some ⟨id,0,none⟩) n size:=by
 obtain ⟨i,hu,hi,rfl,rfl,hz,h4,h5,gp⟩:=I1 gM
 have h3:m<=9223372036854775807:=by
  have e1:m*1<=m*i.bytes:=Nat.mul_le_mul_left m gp
  have e2:m*i.bytes<=140737488355328:=h2
  omega
 refine ⟨fun u hu=>I0 (Z3 (BZ h4 n) u hu),fun ι D a w he=>?_,fun D he v hv=>tw (Z3 (BZ h4 n) v hv) D,fun D id h=>.sl _ _ _ h,fun id=>rfl⟩
 have wU:(List.replicate n z.cells.toList).flatten++(List.replicate (m - n) z.cells.toList).flatten=(List.replicate m z.cells.toList).flatten:=by
  rw [<- List.flatten_append,<- List.replicate_append_replicate.symm]
  congr 2
  omega
 have hlen:((List.replicate n z.cells.toList).flatten++(List.replicate (m - n) z.cells.toList).flatten).length=m*i.size:=by
  rw [wU];simp [h5]
 refine ⟨(List.replicate n z.cells.toList).flatten,(List.replicate (m - n) z.cells.toList).flatten,e,(0,0),w,.slice (some ⟨w.heap.size,0,none⟩) n m,aZ.cr (BZ h4 n) ι D,oV.zero _,rfl,rfl,rfl,rfl,?_,
  fun id=>KD id h1 (by rw [hlen];exact Zd _)⟩
 have e1:=(Qe he hl).aM
 have e2:=(Qe he hc).aM
 have w1:=RE n (by omega)
 have w2:=RE m h3
 have bh:¬ ((i.bytes:Int)*(m:Int) > 2 ^ 48):=by
  have:m*i.bytes<=140737488355328:=h2
  have e:((i.bytes:Int)*(m:Int))=((m*i.bytes:Nat):Int):=by push_cast;rw [Int.mul_comm]
  rw [e];omega
 have dc:¬ ((((decide ((m:Int) < 0) || decide ((i.bytes:Int)*(m:Int) > 2 ^ 48)) || decide ((n:Int) < 0)) || decide ((n:Int) > (m:Int)))=true):=by
  simp only [Bool.or_eq_true,Zj,not_or]
  exact ⟨⟨⟨by omega,bh⟩,by omega⟩,by omega⟩
 rw [wU]
 have Y9:(m:Int).toNat=m:=by omega
 have KG:(n:Int).toNat=n:=by omega
 by_cases h0:m*i.size=0
 .have iY:((Array.range (m*i.size)).map ((#[]:Array Value)[· % (#[]:Array Value).size]!))=(List.replicate m z.cells.toList).flatten.toArray:=by
   apply Array.ext'
   have:=KF z.cells m
   rw [h5,h0] at this
   rw [<- this,h0];simp
  simp only [execOp,ho,e1,e2,Instr.makeSlice,asInt,asIntOf,Sem.run_bind,run_underlying hu,Result.andThen_ok,sizeOf,typeInfo,run_program,hi,Sem.run_pure,w1,w2,if_neg dc,run_askRoom,Y9,KG,if_pos h0,iY,newRow,run_newObj]
  rfl
 .have iY:((Array.range (m*i.size)).map (z.cells[· % z.cells.size]!))=(List.replicate m z.cells.toList).flatten.toArray:=by
   apply Array.ext'
   have:=KF z.cells m
   rw [h5] at this
   rw [h5]
   simpa using this
  simp only [execOp,ho,e1,e2,Instr.makeSlice,asInt,asIntOf,Sem.run_bind,run_underlying hu,Result.andThen_ok,sizeOf,typeInfo,run_program,hi,Sem.run_pure,w1,w2,if_neg dc,run_askRoom,Y9,KG,if_neg h0,zeroValue,hz,iY,newRow,run_newObj]
  rfl
theorem DG (s:ByteArray):(byteCells s).all Qu=true:=by
 rw [List.all_eq_true]
 intro v hv
 obtain ⟨b,_,rfl⟩:=List.mem_map.1 hv
 rfl
theorem Qmw (w:World) (arr:Array Value) (e:TypeId):(w.alloc (.cells arr e)).freeze ⟨w.heap.size,arr.size,none⟩ 1=w.alloc (.cells arr e (arr.size,arr.size+1)):=by
 unfold World.freeze World.alloc
 simp only [Nat.one_ne_zero,if_false]
 congr 1
 apply Array.ext
 .simp
 .intro k h1 h2
  rw [Array.getElem_modify]
  by_cases hk:w.heap.size=k
  .subst hk;simp
  .rw [if_neg hk]
   simp only [Array.size_push] at h2
   rw [Array.getElem_push_lt (by omega),Array.getElem_push_lt (by omega)]
theorem Qej {src dst e:TypeId} {x:Operand} {s:ByteArray} (ho:o.op=.convert src dst x) (hx:ev env x=some (.string s)) (h1:P.underlying src=some .string) (h2:P.underlying dst=some (.slice e)) (h3:P.underlying e=some (.int .u8)) :
  fV P nt o env (s.data.toList.map fun b=>.int .u8 b.toNat) fun id=>.slice (some ⟨id,0,none⟩) s.size 1:=by
 have hb:(s.data.toList.map fun b=>Value.int .u8 b.toNat)=byteCells s:=rfl
 rw [hb]
 refine ⟨fun u hu=>I0 (Z3 (DG s) u hu),fun ι D a w he=>?_,fun D he v hv=>tw (Z3 (DG s) v hv) D,fun D id h=>.sl _ _ _ h,fun id=>rfl⟩
 let cap:=(Question.appendCap s.size 0 e).cut (w.tape w.drawn (.appendCap s.size 0 e))
 have kV:s.size<=cap:=by simp [cap,Question.cut]
 have hlen:(byteCells s++List.replicate (cap - s.size) (Value.int .u8 0)).length=cap:=by
  rw [Zf,byteCells_length,List.length_replicate];omega
 refine ⟨byteCells s,List.replicate (cap - s.size) (.int .u8 0),e,(cap,cap+1),w.drew,.slice (some ⟨w.heap.size,0,none⟩) s.size cap,aZ.cr (DG s) ι D,by rw [hlen];exact oV.behind _ _,rfl,rfl,rfl,rfl,?_,
  fun id=>KD id kV (by rw [hlen];omega)⟩
 have jW:(s.data.map fun b=>Value.int .u8 b.toNat)++Array.replicate (cap - s.size) (.int .u8 0)=(byteCells s++List.replicate (cap - s.size) (Value.int .u8 0)).toArray:=by
  apply Array.ext';simp [byteCells]
 have rJ:=Qmw w.drew (byteCells s++List.replicate (cap - s.size) (Value.int .u8 0)).toArray e
 have bf:(byteCells s++List.replicate (cap - s.size) (Value.int .u8 0)).toArray.size=cap:=by simpa using hlen
 rw [bf] at rJ
 have dW:=Y_ w.drew (byteCells s++List.replicate (cap - s.size) (Value.int .u8 0)).toArray e (0,0)
 rw [bf] at dW
 have KH:(convert src dst (.string s)).run P w=(Conv.stringToBytes e s).run P w:=by
  simp [convert,run_underlying h1,run_underlying h2,run_underlying h3]
 have aT:(Conv.stringToBytes e s).run P w=.ok (.slice (some ⟨w.heap.size,0,none⟩) s.size cap) (w.drew.alloc (.cells (byteCells s++List.replicate (cap - s.size) (Value.int .u8 0)).toArray e (cap,cap+1))):=by
  rw [<- rJ]
  simp only [Conv.stringToBytes,Sem.run_bind,run_choose,Question.forced,Bool.false_eq_true,if_false,Result.andThen_ok,newRow,run_newObj,Sem.run_pure]
  rw [show (Question.appendCap s.size 0 e).cut (w.tape w.drawn (.appendCap s.size 0 e))=cap from rfl,jW]
  show ((markStringish ⟨w.drew.heap.size,0,none⟩).run P (w.drew.alloc (.cells (byteCells s++List.replicate (cap - s.size) (Value.int .u8 0)).toArray e))).andThen (fun _ w'=>Result.ok (Value.slice (some ⟨w.heap.size,0,none⟩) s.size cap) w')=_
  simp only [markStringish,Sem.run_bind,run_shape,Result.andThen_ok,dW,run_freeze]
 simp only [execOp,ho,(Qe he hx).bR,Sem.run_bind,KH,aT,Result.andThen_ok,Sem.run_pure]
end
structure iZ (P:Program) (nt ai:Nat) (o:Oper) (env:Env) (H:af) (v:Value) (H':af):Prop where
 lt:dM (aL H.length) env->Qm H.length H->bK (aL H'.length) v
 ab:dM (aL H.length) env->Qm H.length H->Ab ai H H'
 run:∀ (ι:Io) (a:Act) (w:World),Rel ι (aL H.length) H w->bt ι (aL H.length) nt env a->∀ (next:Act->World->Prop) (Q:Exit->Act->World->Prop),
  (∀ ι' w' c,Rel ι' (aL H'.length) H' w'->ay ι' (aL H'.length) v c->Fr ι H w ι' H' w'->next (a.put o.dst c) w')->o.wp P a w next Q
structure iq (P:Program) (f:FuncId) (args:List Value) (ai:Nat) (H:af) (v:Value) (H':af):Prop where
 lt:gT (aL H.length) args->Qm H.length H->bK (aL H'.length) v
 ab:gT (aL H.length) args->Qm H.length H->Ab ai H H'
 enter:∀ (bT:Array Value) (w:World),(callFunc f bT).run P w=.ok (.enter f bT) w
 run:∀ (ι:Io) (w:World) (bT:Array Value),Rel ι (aL H.length) H w->aZ ι (aL H.length) args bT.toList ->
  Calls P f bT w fun e w'=>∃ ι' c,e=.returned c/\Rel ι' (aL H'.length) H' w'/\ay ι' (aL H'.length) v c/\Fr ι H w ι' H' w'
def oX (P:Program) (call:FuncId->List Value->Nat->af->Option (Value×af)):Prop :=
 ∀ f args ai H v H',call f args ai H=some (v,H')->∀ g,g=f\/kB g=f->iq P g args ai H v H'
section
variable {P:Program} {nt ai:Nat} {o:Oper} {env:Env} {H H':af} {X:Cx} {β:Type} {K:Value->af->Option β} {r:β}
theorem oY {a:Act} {w w':World} {c:Value} {next:Act->World->Prop} {Q:Exit->Act->World->Prop} (h:(execOp a.eval o).run P w=.ok (.value c) w') (hn:next (a.put o.dst c) w'):o.wp P a w next Q:=by
 unfold Oper.wp;rw [h];exact hn
theorem I2 (ι:Io) (D:Nat->Prop):ay ι D undef undef:=.tuple [] [] rfl fun i h1=>absurd h1 (by simp)
theorem KI (D:Nat->Prop):bK D undef:=(I2 (fun _=>⟨0,0,0⟩) D).lt
theorem Qor {t:TypeId} {x y:Operand} {p:Addr} {u:Value} {i:TypeInfo} (ho:o.op=.store t x y) (hx:ev env x=some (.pointer (some p))) (hy:ev env y=some u) (hi:P.info? t=some i) (hs:Nat.beq u.cells.size i.size=true)
  (hh:oZ H ai p u.cells.toList=some H'):iZ P nt ai o env H undef H':=by
 refine ⟨fun _ _=>KI _,fun he _=>Zt hh (nA he hy).cells,fun ι a w hR he next Q hn=>?_⟩
 have ex:=(Qe he hx).dH.1
 have hc:=(Qe he hy).cells
 obtain ⟨h1,h2,h3⟩:=hR.store (P:=P) hh hc
 have hlen:H'.length=H.length:=by
  obtain ⟨k,hk,mW⟩:=Q2 hh
  split at mW
  .simp at mW;subst mW;simp
  .simp at mW
 have bf:¬ ((a.eval y).cells.size≠i.size):=by
  have:=hc.1
  have:=Z7 hs
  simp at *;omega
 have aT:(execOp a.eval o).run P w=.ok .skip (w.setCells (ι p.block).aJ ((ι p.block).off+p.off) (a.eval y).cells.toList):=by
  simp only [execOp,ho,ex,Instr.storeAt,Instr.sureAddr,storeVar,Sem.run_bind,Sem.run_pure,Result.andThen_ok,sizeOf,typeInfo,run_program,hi,if_neg bf,h1]
 unfold Oper.wp;rw [aT]
 rw [<- hlen] at h2
 exact hn ι _ undef h2 (I2 _ _) h3
theorem Qs7 {c:Call} {f:Operand} {g:FuncId} {first cap:Array Value} (ho:o.op=.call c) (hc:c.callee=.value f) {a:Act} {w:World} (hf:a.eval f=.func (.func g) first cap) :
  (execOp a.eval o).run P w=(callFunc g (first++c.args.map a.eval++cap)).run P w:=by
 simp only [execOp,ho,resolve,hc,Deferred.ofValue,hf,invoke,Sem.run_bind,Sem.run_pure,Result.andThen_ok]
theorem Qs8 {c:Call} {f:Operand} {g:FuncId} {first cap:Array Value} {vs:List Value} {v:Value} (ho:o.op=.call c) (hc:c.callee=.value f) (hf:ev env f=some (.func (.func g) first cap)) (hv:eX env c.args.toList=some vs)
  (kC:∀ g',g'=g\/kB g'=g->iq P g' (first.toList++vs++cap.toList) ai H v H'):iZ P nt ai o env H v H':=by
 have au:dM (aL H.length) env->gT (aL H.length) (first.toList++vs++cap.toList):=by
  intro he u hu
  have h1:=(nA he hf).wV
  simp only [Zh] at hu
  rcases hu with (hu | hu) | hu
  .exact h1.1 u hu
  .exact OB he hv u hu
  .exact h1.2 u hu
 refine ⟨fun he fE=>(kC g (.inl rfl)).lt (au he) fE,fun he fE=>(kC g (.inl rfl)).ab (au he) fE,fun ι a w hR he next Q hn=>?_⟩
 obtain ⟨g',RF,aab,hg,e1,h1,h2⟩:=(Qe he hf).nC
 replace kC:=kC g' hg
 have hargs:=OC he hv
 unfold Oper.wp
 rw [Qs7 ho hc e1,kC.enter]
 simp only [Oper.upon]
 refine (kC.run ι w _ hR ?_).mono ?_
 .simp only [Array.toList_append,Array.toList_map]
  exact (h1.append hargs).append h2
 .rintro e w' ⟨ι',c',rfl,g1,g2,g3⟩
  exact hn ι' w' c' g1 g2 g3
theorem Fr.drew (ι:Io) (H:af) (w:World):Fr ι H w ι H w.drew:=(Fr.refl ι H w).bz rfl rfl rfl rfl
theorem Qos {ι:Io} {D:Nat->Prop} {w:World} (hR:Rel ι D H w) {size:Nat} {u e':TypeId} (hu:P.underlying u=some (.slice e')) {a:Option Addr} {n m:Nat} {l:List Value} (hl:Qf H size (.slice a n m)=some l) {c:Value} (hc:ay ι D (.slice a n m) c) :
  ∃ cs,aZ ι D l cs/\(∀ v∈l,az v=true)/\Src P size u c n cs w:=by
 obtain ⟨cs,h1,h2,h3,h4,a',cap,h5,h6⟩:=OA (P:=P) hR hl hc
 obtain ⟨cs2,k1,k2,k3,k4,_⟩:=OA (P:=P) (hR.bz (w':=w.drew) rfl) hl hc
 have Fu:∀ x∈cs,x.oneCell'=true:=by
  intro x hx
  obtain ⟨i,hi,e⟩:=List.getElem_of_mem hx
  rw [<- e,RG,(h2.2 i (by have:=h2.1;omega) hi).az]
  exact h3 _ (List.getElem_mem _)
 refine ⟨cs,h2,h3,⟨.inl ⟨e',hu⟩,fun w'=>by rw [h5];rfl,h4,?_,h1,Fu⟩⟩
 rw [h5] at h4 ⊢
 cases a' with
 | none=>simp [Builtin.firstCells] at h4 ⊢;rw [h4]
 | some q =>
  simp only [Builtin.firstCells] at h4 ⊢
  have gO:∀ (k i:Nat) (acc:Array Value),(loadCellsFrom q i k acc).run P w.drew=(match (loadCellsFrom q i k acc).run P w with | .ok v _=>.ok v w.drew | .halt h _=>.halt h w.drew):=by
   intro k
   induction k with
   | zero=>intro i acc;simp [loadCellsFrom]
   | succ k ih =>
    intro i acc
    simp only [loadCellsFrom,Sem.run_bind,run_load]
    have e1:w.drew.cell? (q.add i)=w.cell? (q.add i):=rfl
    have e2:∀ b,w.drew.farLoad P (q.add i) b=w.farLoad P (q.add i) b:=fun b=>rfl
    rw [e1]
    cases bL:w.cell? (q.add i) with
    | some v=>simp only [Result.andThen_ok];exact ih _ _
    | none =>
     simp only
     rw [e2]
     cases aac:w.farLoad P (q.add i) (Mode.plain==Mode.atomic) with
     | ok x=>simp only [Result.andThen_ok];exact ih _ _
     | error h=>rfl
  have:=gO (n*size) 0 #[]
  unfold loadCells at h4 ⊢
  rw [this,h4]
end
structure nD (P:Program) (t u ty e:TypeId) (i:TypeInfo) (z:Value) (x:Value) (n:Nat) (cs:List Value) (w:World):Prop where
 len:cs.length=n*i.size
 room:∀ b off bC cw:Nat,bC+n<=cw->(∀ j,j < cs.length->(w.cell? ⟨b,off+bC*i.size+j,none⟩).isSome=true)->(∀ j,j < cs.length->w.frozen? ⟨b,off+bC*i.size+j,none⟩=false) ->
  (Builtin.append_ #[t,u] ty #[.slice (some ⟨b,off,none⟩) bC cw,x]).run P w=.ok (.slice (some ⟨b,off,none⟩) (bC+n) cw) (w.setCells b (off+bC*i.size) cs)
 grow:∀ (base:Option Addr) (bC cw:Nat) (olds:List Value),(Builtin.firstCells i.size bC (.slice base bC cw)).run P w.drew=.ok olds.toArray w.drew->cw < bC+n->((bC+n:Nat):Int)<=9223372036854775807 ->
  Builtin.nextslicecap (bC+n) cw*i.bytes<=281474976710656 ->
  (Builtin.append_ #[t,u] ty #[.slice base bC cw,x]).run P w=.ok (.slice (some ⟨w.heap.size,0,none⟩) (bC+n) (grownCap w (bC+n) cw e))
    (w.drew.alloc (.cells ((olds++cs).toArray++Builtin.zeroCells z.cells (grownCap w (bC+n) cw e - (bC+n))) e))
 nothing:n=0->∀ (base:Option Addr) (bC cw:Nat),bC<=cw->(Builtin.append_ #[t,u] ty #[.slice base bC cw,x]).run P w=.ok (.slice base bC cw) w
section
variable {P:Program} {nt ai:Nat} {o:Oper} {env:Env} {H H':af} {X:Cx} {β:Type} {K:Value->af->Option β} {r:β}
theorem nD.DH {t u ty e:TypeId} {i:TypeInfo} {z x:Value} {n:Nat} {cs:List Value} {w:World} (ht:P.underlying t=some (.slice e)) (hi:P.info? e=some i) (hz:i.zero=some z) (h:Src P i.size u x n cs w):nD P t u ty e i z x n cs w:=by
 refine ⟨h.newsLen,fun b off bC cw h1 h2 h3=>run_append_room_src w t u ty e i ht hi b off bC cw x n cs h h1 h2 h3,
  fun base bC cw olds h1 h2 h3 h4=>run_append_grow_src w t u ty e i z ht hi hz base bC cw olds h1 x n cs h h2 h3 h4,fun hn base bC cw hle=>?_⟩
 subst hn
 have:cs=[]:=Z1 (by simpa using h.newsLen)
 subst this
 exact run_append_nothing w t u ty e i ht hi base bC cw hle x h
theorem Qek {z:Value} (h:z.cells.toList.all Qu=true) (n:Nat):∀ v∈(List.replicate n z.cells.toList).flatten,v.oneCell'=true:=by
 intro v hv
 rw [RG]
 exact I0 (Z3 (BZ h n) v hv)
theorem Zu (z:Array Value) (n:Nat):Builtin.zeroCells z n=(List.replicate n z.toList).flatten.toArray:=by
 apply Array.ext'
 have:=KF z n
 simpa [Builtin.zeroCells] using this
theorem nD.B3 {t u ty e:TypeId} {i:TypeInfo} {z:Value} {k k':IntKind} {n:Nat} {w:World} (ht:P.underlying t=some (.slice e)) (hi:P.info? e=some i) (hz:i.zero=some z) (hu:P.underlying u=some (.int k)) (h1:n*i.bytes<=140737488355328) (hb:1<=i.bytes)
  (h4:z.cells.toList.all Qu=true) (h5:z.cells.size=i.size):nD P t u ty e i z (.int k' (n:Int)) n (List.replicate n z.cells.toList).flatten w:=by
 have hle:n<=140737488355328:=by
  have:n*1<=n*i.bytes:=Nat.mul_le_mul_left n hb
  omega
 have hw:IntKind.i64.wrap (n:Int)=n:=RE n (by omega)
 have rK:¬ (281474976710656 < (n:Int)*(i.bytes:Int)):=by
  have:((n:Int)*(i.bytes:Int))=((n*i.bytes:Nat):Int):=by push_cast;rfl
  rw [this];omega
 have vU:¬ ((n:Int) < 0):=by omega
 have cD:((List.replicate n z.cells.toList).flatten).length=n*i.size:=by simp [h5]
 refine ⟨cD,fun b off bC cw g1 g2 g3=>?_,fun base bC cw olds g1 g2 g3 g4=>?_,fun hn base bC cw RH=>?_⟩
 .have eR:=run_storeCells_cells (P:=P) b (off+bC*i.size) _ 0 w (by simpa using g2) (by simpa using g3) (Qek h4 n)
  simp only [Nat.add_zero] at eR
  by_cases jX:n*i.size=0
  .have e0:(List.replicate n z.cells.toList).flatten=[]:=Z1 (by rw [cD];exact jX)
   rw [e0] at eR ⊢
   have Fv:n=0\/i.size=0:=Nat.mul_eq_zero.1 jX
   simp [Builtin.append_,run_underlying ht,run_underlying hu,sizeOf,typeInfo,hi,asInt,asIntOf,hw,vU,rK,g1,jX,Addr.add_lit,eR]
  .have Fv:¬ (n=0\/i.size=0):=fun h=>jX (Nat.mul_eq_zero.2 h)
   simp [Builtin.append_,run_underlying ht,run_underlying hu,sizeOf,typeInfo,hi,asInt,asIntOf,hw,vU,rK,g1,jX,zeroValue,hz,Zu,Addr.add_lit,eR]
 .have hn:¬ (bC+n<=cw):=by omega
  have KJ:¬ (9223372036854775807 < ((bC:Int)+(n:Int))):=by omega
  have KK:¬ (281474976710656 < Builtin.nextslicecap (bC+n) cw*i.bytes):=by omega
  by_cases jX:n*i.size=0
  .have e0:(List.replicate n z.cells.toList).flatten=[]:=Z1 (by rw [cD];exact jX)
   rw [e0]
   have Fv:n=0\/i.size=0:=Nat.mul_eq_zero.1 jX
   simp [Builtin.append_,run_underlying ht,run_underlying hu,sizeOf,typeInfo,hi,asInt,asIntOf,hw,vU,rK,hn,KJ,KK,jX,zeroValue,hz,Question.forced,g1,newRow,grownCap]
  .have Fv:¬ (n=0\/i.size=0):=fun h=>jX (Nat.mul_eq_zero.2 h)
   simp [Builtin.append_,run_underlying ht,run_underlying hu,sizeOf,typeInfo,hi,asInt,asIntOf,hw,vU,rK,hn,KJ,KK,jX,zeroValue,hz,Question.forced,g1,newRow,grownCap,Zu]
 .subst hn
  have RI:IntKind.i64.wrap 0=0:=by decide
  cases base<;>simp [RI,Builtin.append_,run_underlying ht,run_underlying hu,sizeOf,typeInfo,hi,asInt,asIntOf,hw,vU,RH,storeCells]
theorem KL {c:Call} {t u:TypeId} {x y:Operand} (ho:o.op=.call c) (hb:c.callee=.builtin .append) (ht:c.argTypes = #[t,u]) (ha:c.args = #[x,y]) (a:Act) (w:World) :
  (execOp a.eval o).run P w=((Builtin.append_ #[t,u] o.type #[a.eval x,a.eval y]).run P w).andThen fun v w'=>.ok (.value v) w':=by
 obtain ⟨cs,cD⟩:=Fq (P:=P) ho hb a.eval w
 rw [cD,ht,ha]
 simp [builtin]
theorem RJ {c:Call} {t u e:TypeId} {x y:Operand} {i:TypeInfo} {z s:Value} {news:List Value} {n:Nat} (ho:o.op=.call c) (hb:c.callee=.builtin .append) (ht:c.argTypes = #[t,u]) (ha:c.args = #[x,y])
  (hu:P.underlying t=some (.slice e)) (hi:P.info? e=some i) (hz:i.zero=some z) (B4:z.cells.size=i.size) (gp:1<=i.bytes) (hx:ev env x=some s)
  (wW:∀ (ι:Io) (a:Act) (w:World),Rel ι (aL H.length) H w->bt ι (aL H.length) nt env a->∃ cs,aZ ι (aL H.length) news cs/\(∀ v∈news,az v=true)/\nD P t u o.type e i z (a.eval y) n cs w)
  (au:dM (aL H.length) env->Qm H.length H->gT (aL H.length) news) {K:Value->af->Option β} {r:β} (h:B5 i.size i.bytes s news n H K=some r) :
  ∃ v H',K v H'=some r/\iZ P nt ai o env H v H':=by
 have wX:∀ k:Nat,k*i.bytes<=Q7->k<=140737488355328:=by
  intro k hk
  have e1:k*1<=k*i.bytes:=Nat.mul_le_mul_left k gp
  have e2:k*i.bytes<=140737488355328:=hk
  omega
 have cx:∀ (w:World) (bC cw:Nat) (cs olds:List Value),olds.length=bC*i.size->cs.length=n*i.size ->
   ((olds++cs).toArray++Builtin.zeroCells z.cells (grownCap w (bC+n) cw e - (bC+n)))=((olds++cs)++(Builtin.zeroCells z.cells (grownCap w (bC+n) cw e - (bC+n))).toList).toArray /\
   grownCap w (bC+n) cw e*i.size<=((olds++cs)++(Builtin.zeroCells z.cells (grownCap w (bC+n) cw e - (bC+n))).toList).length:=by
  intro w bC cw cs olds h1 h2
  refine ⟨by apply Array.ext';simp,?_⟩
  have tA:=grownCap_ge w (bC+n) cw e
  simp only [Zf,Array.length_toList,size_zeroCells,B4,h1,h2]
  rw [<- Nat.add_mul,<- Nat.add_mul]
  exact Zk _ (by omega)
 unfold B5 at h
 replace h:=Q2 h;obtain ⟨⟨rv,rh⟩,gu,h⟩:=h
 replace h:=Zv h;obtain ⟨ra,rn,rc,RK,h⟩:=h
 simp only at RK h
 rw [<- RK] at h
 clear RK
 refine ⟨rv,rh,h,?_⟩
 clear h
 unfold rL at gu
 split at gu
 .split at gu
  .simp at gu;obtain ⟨rfl,rfl⟩:=gu
   refine ⟨fun _ _=>.dL,fun _ _=>Ab.refl _ _,fun ι a w hR he next Q hn=>?_⟩
   obtain ⟨cs,h1,bL,h2⟩:=wW ι a w hR he
   have ex:a.eval x=.slice none 0 0:=by
    have:=Qe he hx
    cases hq:a.eval x<;>rw [hq] at this<;>cases this;rfl
   have aT:(execOp a.eval o).run P w=.ok (.value (.slice none 0 0)) w:=by
    rw [KL ho hb ht ha,ex,h2.nothing rfl none 0 0 (Zd _)];rfl
   exact oY aT (hn ι w _ hR .dL (Fr.refl ι H w))
  .rename_i m
   rcases jI gu with ⟨bh,gu⟩ | ⟨_,gu⟩
   .have bh:(m+1)*i.bytes<=Q7:=Zi bh
    simp at gu;obtain ⟨rfl,rfl⟩:=gu
    refine ⟨fun _ _=>.sl _ _ _ (by simp [aL,Qy]),fun he hc=>RM _ (au he hc),fun ι a w hR he next Q hn=>?_⟩
    obtain ⟨cs,h1,bL,h2⟩:=wW ι a w hR he
    have ex:a.eval x=.slice none 0 0:=by
     have:=Qe he hx
     cases hq:a.eval x<;>rw [hq] at this<;>cases this;rfl
    have hN:=wX (m+1) bh
    have hg:=h2.grow none 0 0 [] (by simp [Builtin.firstCells]) (by omega) (by omega) (growslice_fits (by omega) (by rw [Zo];exact bh))
    obtain ⟨r1,r2⟩:=cx w 0 0 cs [] (by simp) h2.len
    rw [r1] at hg
    simp only [List.nil_append,Zo] at hg r2
    have aT:(execOp a.eval o).run P w=.ok (.value (.slice (some ⟨w.heap.size,0,none⟩) (m+1) (grownCap w (m+1) 0 e))) (w.drew.alloc (.cells (cs++(Builtin.zeroCells z.cells (grownCap w (m+1) 0 e - (m+1))).toList).toArray e)):=by
     rw [KL ho hb ht ha,ex,hg];rfl
    obtain ⟨g1,g2⟩:=(hR.bz (w':=w.drew) rfl).push h1 bL (Builtin.zeroCells z.cells (grownCap w (m+1) 0 e - (m+1))).toList e (0,0) (oV.zero _)
    refine oY aT (hn _ _ _ g1 ?_ ((Fr.drew ι H w).trans g2))
    rw [Qy]
    exact (KD (ι:=ι) (D:=aL H.length) H.length (by have:=grownCap_ge w (m+1) 0 e;omega) r2).mono (by intro b gU;simp [aL] at gU ⊢;omega) fun _ _=>rfl
   .simp at gu
 .rename_i p len c'
  replace gu:=Q2 gu;obtain ⟨k,hk,gu⟩:=gu
  rcases jI gu with ⟨dc,gu⟩ | ⟨_,gu⟩
  .simp only [Z8,Bool.not_eq_true'] at dc
   obtain ⟨⟨⟨bn,RN⟩,o5⟩,bh⟩:=dc
   have RN:=Z7 RN
   have RO:=Zi o5
   have bh:(len+n)*i.bytes<=Q7:=Zi bh
   simp at gu;obtain ⟨rfl,rfl⟩:=gu
   subst RN
   obtain ⟨kc,kr⟩:=k
   simp only at bn RO;subst bn
   generalize Bg:kc.take (p.off+len*i.size)=km at *
   have o5:p.off+len*i.size=km.length:=by rw [<- Bg];simp;omega
   have hlen:(H.set p.block none).length=H.length:=by simp
   have nE:(H.set p.block (some ⟨km,false,none⟩)).set p.block none=H.set p.block none:=by simp
   have ir:(H.set p.block (some ⟨km,false,none⟩)).length=H.length:=by simp
   have hN:=wX (len+n) bh
   have RP:(km.drop p.off).length=len*i.size:=by simp;omega
   refine ⟨fun _ _=>.sl _ _ _ (by simp [aL,Qy]),fun he hc=>?_,fun ι a w hR he next Q hn=>?_⟩
   .refine (Qx8 ai H p.block).trans (RM _ ?_)
    rw [hlen]
    intro v hv
    rcases List.mem_append.1 hv with hv | hv
    .exact hc _ (Qt hk) _ hk v (List.mem_of_mem_take (by rw [Bg];exact List.mem_of_mem_drop hv))
    .exact au he hc v hv
   .obtain ⟨cs,h1,bL,h2⟩:=wW ι a w hR he
    have Bd:cs.length=n*i.size:=h2.len
    obtain ⟨wY,B6,RQ⟩:=hR.KM hk rfl (p.off+len*i.size)
    simp only [Bg] at wY B6 RQ
    have RR:=B6.aJ _ _ wY
    have B7:Rel ι (aL (H.set p.block (some ⟨km,false,none⟩)).length) (H.set p.block (some ⟨km,false,none⟩)) w:=by rw [ir];exact B6
    have Fw:Qf (H.set p.block (some ⟨km,false,none⟩)) i.size (.slice (some p) len i.size)=some (km.drop p.off):=by
     have h0:fN (H.set p.block (some ⟨km,false,none⟩)) p (len*i.size)=Qx (H.set p.block (some ⟨km,false,none⟩)) p (len*i.size):=by
      cases hz:len*i.size with
      | zero =>
       have:Nat.ble (p.off+0) km.length=true:=Nat.ble_eq_true_of_le (by omega)
       simp only [fN,Qx,wY,Q1,this];simp
      | succ m=>rfl
     simp only [Qf,h0,Qx,wY,Q1]
     have:Nat.ble (p.off+len*i.size) km.length=true:=Nat.ble_eq_true_of_le (by omega)
     rw [this]
     simp only [Option.some.injEq]
     rw [Zs (by simp;omega)]
    have DI:∀ (q:Addr) (cap:Nat),a.eval x=.slice (some q) len cap->cap < len+n->o.wp P a w next Q:=by
     intro q cap ex kV
     have hv:=Qe he hx
     rw [ex] at hv
     obtain ⟨olds,o1,o2,o3,o4,_⟩:=OA (P:=P) (B6.bz (w':=w.drew) rfl) Fw hv
     have hg:=h2.grow (some q) len cap olds o4 kV (by omega) (growslice_fits kV bh)
     obtain ⟨r1,r2⟩:=cx w len cap cs olds o1 Bd
     rw [r1] at hg
     have aT:(execOp a.eval o).run P w=.ok (.value (.slice (some ⟨w.heap.size,0,none⟩) (len+n) (grownCap w (len+n) cap e))) (w.drew.alloc (.cells ((olds++cs)++(Builtin.zeroCells z.cells (grownCap w (len+n) cap e - (len+n))).toList).toArray e)):=by
      rw [KL ho hb ht ha,ex,hg];rfl
     have KN:Rel ι (aL (H.set p.block none).length) (H.set p.block none) w.drew:=by rw [hlen];exact (hR.bz (w':=w.drew) rfl).kill p.block
     have hall:∀ v∈km.drop p.off++news,az v=true:=by
      intro v hv
      rcases List.mem_append.1 hv with hv | hv
      .exact o3 v hv
      .exact bL v hv
     obtain ⟨g1,g2⟩:=KN.push (vs:=km.drop p.off++news) (cs:=olds++cs) (by rw [hlen];exact o2.append h1) hall (Builtin.zeroCells z.cells (grownCap w (len+n) cap e - (len+n))).toList e (0,0) (oV.zero _)
     have rJ:Fr ι H w ι (H.set p.block none) w.drew:=⟨by simp,fun _ _=>rfl,rfl,rfl,rfl,Zd _,fun _ _ _=>rfl,fun b aJ hb hr=>.inr ⟨b,aJ,KO hb,hr,rfl⟩,fun b aJ hb _=>KO hb⟩
     have i_:(dr (H.set p.block none) (km.drop p.off++news)).length=H.length+1:=by rw [Qy,hlen]
     rw [hlen] at g1 g2
     refine oY aT (hn _ _ _ g1 ?_ (rJ.trans g2))
     rw [i_]
     exact (KD (ι:=ι) (D:=aL H.length) H.length (by have:=grownCap_ge w (len+n) cap e;omega) r2).mono (by intro b gU;simp [aL] at gU ⊢;omega) fun _ _=>rfl
    have hv:=Qe he hx
    generalize hq:a.eval x=q at hv
    cases hv with
    | fj _ _ _ cap hD Zw kV =>
     by_cases ja:len+n<=cap
     .have hmul:(len+n)*i.size<=cap*i.size:=Zk _ ja
      have ct:(ι p.block).off+km.length+cs.length<=(ι p.block).size:=by rw [Bd,<- o5];rw [Nat.add_mul] at hmul;omega
      have Fx:(ι p.block).off+p.off+len*i.size=(ι p.block).off+km.length:=by omega
      have hr:=h2.room (ι p.block).aJ ((ι p.block).off+p.off) len cap ja (fun j hj=>by
       obtain ⟨fm,jb⟩:=RR.shape (by omega)
       exact RS jb (by omega)) (fun j hj=>RR.tB rfl _ (by omega) (by omega))
      rw [Fx] at hr
      have aT:(execOp a.eval o).run P w=.ok (.value (.slice (some ⟨(ι p.block).aJ,(ι p.block).off+p.off,none⟩) (len+n) cap)) (w.setCells (ι p.block).aJ ((ι p.block).off+km.length) cs):=by
       rw [KL ho hb ht ha,hq]
       show ((Builtin.append_ #[t,u] o.type #[.slice (some ⟨(ι p.block).aJ,(ι p.block).off+p.off,none⟩) len cap,a.eval y]).run P w).andThen _=_
       rw [hr];rfl
      obtain ⟨g1,g2⟩:=B7.alias wY rfl (off:=p.off) (by simp only;omega) (by rw [ir];exact h1) bL (by simp only;exact ct)
      simp only [nE,ir] at g1 g2
      replace g2:=RQ.trans g2
      have i_:(dr (H.set p.block none) (km.drop p.off++news)).length=H.length+1:=by rw [Qy,hlen]
      rw [<- i_] at g1
      refine oY aT (hn _ _ _ g1 ?_ g2)
      rw [i_]
      have:=ay.fj (ι:=ι.set H.length ⟨(ι p.block).aJ,(ι p.block).off+p.off,(ι p.block).size⟩) (D:=aL (H.length+1)) ⟨H.length,0,none⟩ (len+n) i.size cap (by simp [aL]) ja (by simp only [Io.aC];omega)
      simp only [Io.addr,Io.aC,Nat.add_zero] at this
      exact this
     .exact DI _ cap hq (by omega)
    | bD _ b _ hD =>
     by_cases vU:n=0
     .subst vU
      have RT:cs=[]:=Z1 (by simpa using Bd)
      subst RT
      have aT:(execOp a.eval o).run P w=.ok (.value (.slice (some b) 0 0)) w:=by
       rw [KL ho hb ht ha,hq,h2.nothing rfl (some b) 0 0 (Zd _)];rfl
      obtain ⟨g1,g2⟩:=B7.alias wY rfl (off:=p.off) (by simp only;omega) (by rw [ir];exact h1) bL (by simpa using RR.fit)
      simp only [nE,ir] at g1 g2
      replace g2:=RQ.trans g2
      have i_:(dr (H.set p.block none) (km.drop p.off++news)).length=H.length+1:=by rw [Qy,hlen]
      rw [<- i_] at g1
      refine oY aT (hn _ _ _ g1 ?_ g2)
      rw [i_]
      exact .bD _ _ _ (by simp [aL])
     .exact DI b 0 hq (by omega)
  .simp at gu
 .simp at gu
end
section
variable {P:Program} {nt ai:Nat} {o:Oper} {env:Env} {H H':af} {X:Cx} {β:Type} {K:Value->af->Option β} {r:β}
theorem Zx {c:Call} {t u:TypeId} {x y:Operand} (ho:o.op=.call c) (hb:c.callee=.builtin .copy) (ht:c.argTypes = #[t,u]) (ha:c.args = #[x,y]) (a:Act) (w:World) :
  (execOp a.eval o).run P w=((Builtin.copy_ #[t,u] o.type #[a.eval x,a.eval y]).run P w).andThen fun v w'=>.ok (.value v) w':=by
 obtain ⟨cs,cD⟩:=Fq (P:=P) ho hb a.eval w
 rw [cD,ht,ha]
 simp [builtin]
theorem Qjg {a:Addr} {vs:List Value} (h:oZ H ai a vs=some H'):H'.length=H.length:=by
 obtain ⟨k,hk,hx⟩:=Q2 h
 split at hx
 .simp at hx;subst hx;simp
 .simp at hx
theorem RU {c:Call} {t u e:TypeId} {x y:Operand} {i:TypeInfo} {p:Addr} {n m q:Nat} {vs:List Value} (ho:o.op=.call c) (hb:c.callee=.builtin .copy) (ht:c.argTypes = #[t,u]) (ha:c.args = #[x,y])
  (hu:P.underlying t=some (.slice e)) (hi:P.info? e=some i) (hx:ev env x=some (.slice (some p) n m)) (hle:vs.length<=n*i.size)
  (wW:∀ (ι:Io) (a:Act) (w:World),Rel ι (aL H.length) H w->bt ι (aL H.length) nt env a->∃ cs sl,aZ ι (aL H.length) vs cs/\(Builtin.lenOf (a.eval y)).run P w=.ok sl w/\Nat.min sl n=q/\(Builtin.firstCells i.size q (a.eval y)).run P w=.ok cs.toArray w)
  (au:dM (aL H.length) env->Qm H.length H->gT (aL H.length) vs) (hh:oZ H ai p vs=some H'):iZ P nt ai o env H (.int .i64 q) H':=by
 have hlen:=Qjg hh
 refine ⟨fun _ _=>.int _ _,fun he hc=>Zt hh (au he hc),fun ι a w hR he next Q hn=>?_⟩
 obtain ⟨cs,sl,h1,h2,h3,h4⟩:=wW ι a w hR he
 obtain ⟨g1,g2,g3⟩:=hR.store (P:=P) hh h1
 have hv:=Qe he hx
 have key:∀ (d:Addr) (cap:Nat),a.eval x=.slice (some d) n cap->(storeCells d cs).run P w=.ok () (w.setCells (ι p.block).aJ ((ι p.block).off+p.off) cs) ->
   o.wp P a w next Q:=by
  intro d cap ex eR
  have aT:(execOp a.eval o).run P w=.ok (.value (.int .i64 q)) (w.setCells (ι p.block).aJ ((ι p.block).off+p.off) cs):=by
   rw [Zx ho hb ht ha,ex]
   simp [Builtin.copy_,run_underlying hu,h2,h3,sizeOf,typeInfo,hi,h4,eR,goInt]
  rw [<- hlen] at g2
  exact oY aT (hn ι _ _ g2 (.int _ _) g3)
 generalize hq:a.eval x=xv at hv
 cases hv with
 | fj _ _ _ cap hD hl hc=>exact key _ cap hq g1
 | bD _ b _ hD =>
  have RV:vs=[]:=Z1 (by simpa using hle)
  subst RV
  have cD:cs=[]:=Z1 (by have:=h1.1;simpa using this.symm)
  subst cD
  exact key b 0 hq rfl
theorem Zy {c:Call} {t u e:TypeId} {x y:Operand} {i:TypeInfo} {sv:Value} (ho:o.op=.call c) (hb:c.callee=.builtin .copy) (ht:c.argTypes = #[t,u]) (ha:c.args = #[x,y])
  (hu:P.underlying t=some (.slice e)) (hi:P.info? e=some i) (hx:ev env x=some (.slice none 0 0)) (hy:ev env y=some sv) (hs:(∃ a n m,sv=.slice a n m)\/∃ s,sv=.string s):iZ P nt ai o env H (.int .i64 0) H:=by
 refine ⟨fun _ _=>.int _ _,fun he hc=>Ab.refl _ _,fun ι a w hR he next Q hn=>?_⟩
 have hv:=Qe he hx
 have hw:=Qe he hy
 have ex:a.eval x=.slice none 0 0:=by
  generalize a.eval x=xv at hv
  cases hv;rfl
 have hl:∃ sl cs,(Builtin.lenOf (a.eval y)).run P w=.ok sl w/\(Builtin.firstCells i.size 0 (a.eval y)).run P w=.ok cs w:=by
  generalize a.eval y=yv at hw
  rcases hs with ⟨p,n,m,rfl⟩ | ⟨s,rfl⟩
  .cases hw with
   | dL=>exact ⟨0,#[],rfl,by simp [Builtin.firstCells]⟩
   | fj _ _ _ cap hD hl hc=>exact ⟨n,#[],rfl,by simp [Builtin.firstCells,loadCells,loadCellsFrom]⟩
   | bD _ b _ hD=>exact ⟨0,#[],rfl,by simp [Builtin.firstCells,loadCells,loadCellsFrom]⟩
  .cases hw;exact ⟨s.size,_,rfl,rfl⟩
 obtain ⟨sl,cs,h2,h4⟩:=hl
 have aT:(execOp a.eval o).run P w=.ok (.value (.int .i64 0)) w:=by
  rw [Zx ho hb ht ha,ex]
  simp [Builtin.copy_,run_underlying hu,h2,sizeOf,typeInfo,hi,h4,goInt]
 exact oY aT (hn ι _ _ hR (.int _ _) (Fr.refl _ _ _))
def jJ (X:Cx) (o:Oper) (env:Env) (H:af) (v:Value) (H':af):Prop :=
 match gq X.P o.op with
 | 0=>H'=H/\bG X.P X.nt o env v
 | 1=>H'=H/\∃ raw,kA X.P X.nt o env H raw v
 | 2=>∃ vs mk,v=mk H.length/\H'=dr H vs/\fV X.P X.nt o env vs mk
 | _=>iZ X.P X.nt X.ai o env H v H'
theorem iu {v:Value} (hc:gq X.P o.op=0) (h:bG X.P X.nt o env v):jJ X o env H v H:=by unfold jJ;rw [hc];exact ⟨rfl,h⟩
theorem KP {raw v:Value} (hc:gq X.P o.op=1) (h:kA X.P X.nt o env H raw v):jJ X o env H v H:=by unfold jJ;rw [hc];exact ⟨rfl,raw,h⟩
theorem KQ {vs:List Value} {mk:Nat->Value} (hc:gq X.P o.op=2) (h:fV X.P X.nt o env vs mk):jJ X o env H (mk H.length) (dr H vs):=by unfold jJ;rw [hc];exact ⟨vs,mk,rfl,rfl,h⟩
theorem Bh {v:Value} (hc:gq X.P o.op=3) (h:iZ X.P X.nt X.ai o env H v H'):jJ X o env H v H':=by unfold jJ;rw [hc];exact h
theorem RW {v:Value} {F:Bool->Option β} {r:β} (h:wZ v F=some r):∃ b,v=.bool b/\F b=some r:=by
 unfold wZ at h;split at h
 .exact ⟨_,rfl,h⟩
 .simp at h
def kD:Builtin->Nat
 | .append=>3
 | .copy=>3
 | _=>0
theorem Qjh {c:Call} {b:Builtin} (aK:o.op=.call c) (hb:c.callee=.builtin b):gq P o.op=kD b:=by
 rw [aK]
 obtain ⟨callee,args,ts⟩:=c
 simp only at hb
 subst hb
 cases b<;>rfl
theorem Qem {c:Call} {b:Builtin} {vs:List Value} (aK:o.op=.call c) (hb:c.callee=.builtin b) (hv:eX env c.args.toList=some vs) (h:o6 X.P X.ai b c.argTypes.toList vs H K=some r) :
  ∃ v H',K v H'=some r/\jJ X o env H v H':=by
 have cz:=Qjh (P:=X.P) aK hb
 generalize Fy:c.argTypes.toList=ts at h
 unfold o6 at h
 split at h
 .rename_i t a n m
  split at h
  .rename_i e hu;exact ⟨_,_,h,iu cz (Qms aK hb Fy hv hu)⟩
  .simp at h
 .rename_i t s
  split at h
  .rename_i hu;exact ⟨_,_,h,iu cz (Qjc aK hb Fy hv hu)⟩
  .simp at h
 .rename_i t
  split at h
  .rename_i e hu;exact ⟨_,_,h,iu cz (Qjb aK hb Fy hv hu)⟩
  .simp at h
 .split at h
  .exact ⟨_,_,h,iu cz (Qs5 aK hb hv)⟩
  .simp at h
 .split at h
  .exact ⟨_,_,h,iu cz (Qs6 aK hb hv)⟩
  .simp at h
 .rename_i t u s x
  replace h:=Q2 h
  obtain ⟨⟨e,size,bytes,z⟩,he,h⟩:=h
  obtain ⟨i,hu,hi,rfl,rfl,hz,Fz,B4,gp⟩:=I1 he
  obtain ⟨p,q,hargs,hp,hq⟩:=IY hv
  have ht:=Ox Fy
  simp only at h
  split at h
  .rename_i e' a n m KR
   replace h:=Q2 h
   obtain ⟨news,DJ,h⟩:=h
   obtain ⟨v,H',h1,h2⟩:=RJ (ai:=X.ai) aK hb ht hargs hu hi hz B4 gp hp (fun ι act w hR hE=>by
    obtain ⟨cs,g1,g2,g3⟩:=Qos (P:=X.P) hR KR DJ (Qe hE hq)
    exact ⟨cs,g1,g2,nD.DH hu hi hz g3⟩) (fun hE hc=>Qeh DJ hc) h
   exact ⟨v,H',h1,Bh cz h2⟩
  .rename_i s' KR
   split at h
   .rename_i DK
    obtain ⟨v,H',h1,h2⟩:=RJ (ai:=X.ai) (nt:=X.nt) (news:=byteCells s') (n:=s'.size) aK hb ht hargs hu hi hz B4 gp hp (fun ι act w hR hE=>by
     have hs:=Src.ofString (P:=X.P) w KR s'
     rw [<- DK] at hs
     rw [(Qe hE hq).bR]
     exact ⟨byteCells s',aZ.cr (DG s') ι _,fun v hv=>I0 (Z3 (DG s') v hv),nD.DH hu hi hz hs⟩) (fun hE hc v hv=>tw (Z3 (DG s') v hv) _)
     (K:=K) (r:=r) (by rw [DK];exact h)
    exact ⟨v,H',h1,Bh cz h2⟩
   .simp at h
  .rename_i k k' l KR
   rcases jI h with ⟨hl,h⟩ | ⟨_,h⟩
   .simp only [Z8,Zj] at hl
    obtain ⟨wP,oE⟩:=hl
    obtain ⟨n,rfl⟩:=Int.eq_ofNat_of_zero_le wP
    simp only [Int.toNat_natCast] at h
    have gr:n*i.bytes<=140737488355328:=by
     have:((n:Int)*(i.bytes:Int))=((n*i.bytes:Nat):Int):=by push_cast;rfl
     rw [this] at oE
     have:Q7=140737488355328:=rfl
     omega
    obtain ⟨v,H',h1,h2⟩:=RJ (ai:=X.ai) (nt:=X.nt) aK hb ht hargs hu hi hz B4 gp hp (fun ι act w hR hE=>by
     rw [(Qe hE hq).aM]
     exact ⟨_,aZ.cr (BZ Fz n) ι _,fun v hv=>I0 (Z3 (BZ Fz n) v hv),nD.B3 hu hi hz KR gr gp Fz B4⟩) (fun hE hc v hv=>tw (Z3 (BZ Fz n) v hv) _) h
    exact ⟨v,H',h1,Bh cz h2⟩
   .simp at h
  .simp at h
 .rename_i t u sa sn sc
  replace h:=Q2 h
  obtain ⟨⟨e,size,bytes,z⟩,he,h⟩:=h
  obtain ⟨i,hu,hi,rfl,rfl,hz,Fz,B4,gp⟩:=I1 he
  obtain ⟨p,q,hargs,hp,hq⟩:=IY hv
  have ht:=Ox Fy
  exact ⟨_,_,h,Bh cz (Zy aK hb ht hargs hu hi hp hq (.inl ⟨_,_,_,rfl⟩))⟩
 .rename_i t u ss
  replace h:=Q2 h
  obtain ⟨⟨e,size,bytes,z⟩,he,h⟩:=h
  obtain ⟨i,hu,hi,rfl,rfl,hz,Fz,B4,gp⟩:=I1 he
  obtain ⟨p,q,hargs,hp,hq⟩:=IY hv
  have ht:=Ox Fy
  exact ⟨_,_,h,Bh cz (Zy aK hb ht hargs hu hi hp hq (.inr ⟨_,rfl⟩))⟩
 .rename_i t u d src
  replace h:=Q2 h
  obtain ⟨⟨e,size,bytes,z⟩,he,h⟩:=h
  obtain ⟨i,hu,hi,rfl,rfl,hz,Fz,B4,gp⟩:=I1 he
  simp only at h
  replace h:=Zz h;obtain ⟨a,n,m,rfl,h⟩:=h
  obtain ⟨p,q,hargs,hp,hq⟩:=IY hv
  have ht:=Ox Fy
  replace h:=Q2 h;obtain ⟨⟨cn,H'⟩,gx,h⟩:=h
  refine ⟨_,_,h,?_⟩
  unfold FA at gx
  split at gx
  .replace gx:=Q2 gx;obtain ⟨H2,hh,gx⟩:=gx
   simp at gx;obtain ⟨rfl,rfl⟩:=gx
   refine Bh cz (RU (q:=0) aK hb ht hargs hu hi hp (by simp) (fun ι act w hR hE=>⟨[],0,aZ.nil ι _,?_,by simp,?_⟩) (fun _ _ v hv=>by simp at hv) hh)
   .have ex:act.eval q=.slice none 0 0:=by
     have:=Qe hE hq
     cases hw:act.eval q<;>rw [hw] at this<;>cases this;rfl
    rw [ex];rfl
   .have ex:act.eval q=.slice none 0 0:=by
     have:=Qe hE hq
     cases hw:act.eval q<;>rw [hw] at this<;>cases this;rfl
    rw [ex];simp [Builtin.firstCells]
  .rename_i b sl c'
   replace gx:=Q2 gx;obtain ⟨l,hl,gx⟩:=gx
   replace gx:=Q2 gx;obtain ⟨H2,hh,gx⟩:=gx
   simp at gx;obtain ⟨rfl,rfl⟩:=gx
   have iw:l.length=min sl n*i.size:=by
    cases hz:min sl n*i.size with
    | zero=>rw [hz] at hl;simp only [fN,Option.some.injEq] at hl;subst hl;rfl
    | succ mm =>
     rw [hz] at hl
     obtain ⟨k,hk,hx⟩:=Q2 hl
     split at hx
     .rename_i hle;have:=Zi hle;simp at hx;subst hx;simp;omega
     .simp at hx
   refine Bh cz (RU (q:=min sl n) aK hb ht hargs hu hi hp (by rw [iw];exact Zk _ (Nat.min_le_right _ _)) (fun ι act w hR hE=>?_) (fun _ hc=>YZ hl hc) hh)
   obtain ⟨cs,g1,g2,g3,g4⟩:=hR.DE hl
   have gV:=Qe hE hq
   generalize hw:act.eval q=qv at gV
   cases gV with
   | fj _ _ _ cap hD gr w4 =>
    have aT:=run_loadCells_list (P:=X.P) w (ι.addr b) cs g3
    rw [g1] at aT
    exact ⟨cs,sl,g2,rfl,rfl,by simp only [Builtin.firstCells];exact aT⟩
   | bD _ b' _ hD =>
    have:cs=[]:=Z1 (by simpa using g1)
    subst this
    exact ⟨[],0,g2,rfl,rfl,by simp [Builtin.firstCells,loadCells,loadCellsFrom]⟩
  .rename_i s'
   split at gx
   .rename_i DK
    replace gx:=Q2 gx;obtain ⟨H2,hh,gx⟩:=gx
    simp at gx;obtain ⟨rfl,rfl⟩:=gx
    have gU:(s'.data.toList.map fun b=>Value.int .u8 b.toNat)=byteCells s':=rfl
    rw [gU] at hh
    refine Bh cz (RU (q:=min s'.size n) aK hb ht hargs hu hi hp (by rw [DK];simp;omega) (fun ι act w hR hE=>⟨(byteCells s').take n,s'.size,?_,?_,rfl,?_⟩) (fun _ _ v hv=>tw (Z3 (DG s') v (List.mem_of_mem_take hv)) _) hh)
    .refine aZ.cr ?_ ι _
     rw [List.all_eq_true]
     exact fun v hv=>Z3 (DG s') v (List.mem_of_mem_take hv)
    .rw [(Qe hE hq).bR];rfl
    .rw [(Qe hE hq).bR]
     simp only [Builtin.firstCells,Sem.run_pure,byteCells]
     congr 1
     apply Array.ext'
     have e1:(s'.extract 0 (min s'.size n)).data.toList=s'.data.toList.take (min s'.size n):=by simp [ByteArray.data_extract]
     rw [Array.toList_map,e1,List.map_take]
     have e2:s'.size=(s'.data.toList.map fun b=>Value.int .u8 b.toNat).length:=by simp
     rw [e2,Nat.min_comm,<- List.take_take,List.take_length]
   .simp at gx
  .simp at gx
 .simp at h
theorem RX (hX:oX X.P X.call) (h:dx X o env H K=some r):∃ v H',K v H'=some r/\jJ X o env H v H':=by
 have c0:∀ {op:Op},o.op=op->gq X.P op=0->gq X.P o.op=0:=fun e h=>by rw [e];exact h
 have c1:∀ {op:Op},o.op=op->gq X.P op=1->gq X.P o.op=1:=fun e h=>by rw [e];exact h
 have c2:∀ {op:Op},o.op=op->gq X.P op=2->gq X.P o.op=2:=fun e h=>by rw [e];exact h
 have c3:∀ {op:Op},o.op=op->gq X.P op=3->gq X.P o.op=3:=fun e h=>by rw [e];exact h
 unfold dx at h
 split at h
 .rename_i x aK
  replace h:=Q2 h;obtain ⟨v,hv,h⟩:=h
  exact ⟨v,H,h,iu (c0 aK rfl) (Qqb aK hv)⟩
 .rename_i x aK
  replace h:=Q2 h;obtain ⟨v,hv,h⟩:=h
  exact ⟨v,H,h,iu (c0 aK rfl) (Qke aK hv)⟩
 .rename_i c a b aK
  replace h:=Q2 h;obtain ⟨v,hv,h⟩:=h
  replace h:=RW h;obtain ⟨t,rfl,h⟩:=h
  rcases jI h with ⟨rfl,h⟩ | ⟨rfl,h⟩
  .replace h:=Q2 h;obtain ⟨u,hu,h⟩:=h
   exact ⟨u,H,h,iu (c0 aK rfl) (ZA aK hv (by simpa using hu))⟩
  .replace h:=Q2 h;obtain ⟨u,hu,h⟩:=h
   exact ⟨u,H,h,iu (c0 aK rfl) (ZA aK hv (by simpa using hu))⟩
 .rename_i t aK
  replace h:=Q2 h;obtain ⟨z,hz,h⟩:=h
  split at h
  .rename_i hl
   exact ⟨_,_,h,KQ (c2 aK rfl) (Qjf aK hz hl)⟩
  .simp at h
 .rename_i t x aK
  replace h:=Q2 h;obtain ⟨v,hv,h⟩:=h
  split at h
  .rename_i hl
   exact ⟨_,_,h,KQ (c2 aK rfl) (Qoq aK hv hl)⟩
  .simp at h
 .rename_i t parts aK
  replace h:=Q2 h;obtain ⟨ps,hp,h⟩:=h
  replace h:=Q2 h;obtain ⟨cs,hc,h⟩:=h
  exact ⟨_,_,h,iu (c0 aK rfl) (Qmu aK hp hc)⟩
 .rename_i t len parts aK
  replace h:=Q2 h;obtain ⟨ps,hp,h⟩:=h
  replace h:=Q2 h;obtain ⟨⟨e,size,bytes,z⟩,he,h⟩:=h
  simp only at h
  split at h
  .rename_i h1
   replace h:=Q2 h;obtain ⟨cs,hc,h⟩:=h
   split at h
   .rename_i g1 g2
    exact ⟨_,_,h,KQ (c2 aK rfl) (Qab aK hp he h1 hc g1 (Z7 g2))⟩
   .simp at h
  .simp at h
 .rename_i t x aK
  split at h
  .rename_i v hg
   exact ⟨v,H,h,KP (c1 aK rfl) (Qje aK hg)⟩
  replace h:=Q2 h;obtain ⟨v,hv,h⟩:=h
  replace h:=I3 h;obtain ⟨p,rfl,h⟩:=h
  replace h:=Q2 h;obtain ⟨i,hi,h⟩:=h
  split at h
  .rename_i fs hu
   replace h:=Q2 h;obtain ⟨l,hl,h⟩:=h
   split at h
   .exact ⟨_,_,KS h,KP (c1 aK rfl) (Y5 aK hv hi hu (.inl ⟨_,rfl⟩) hl)⟩
   .simp at h
  .rename_i n e hu
   replace h:=Q2 h;obtain ⟨l,hl,h⟩:=h
   split at h
   .exact ⟨_,_,KS h,KP (c1 aK rfl) (Y5 aK hv hi hu (.inr ⟨_,_,rfl⟩) hl)⟩
   .simp at h
  .rename_i d n1 n2 hu
   replace h:=Q2 h;obtain ⟨u,hl,h⟩:=h
   split at h
   .exact ⟨_,_,RY h,KP (c1 aK rfl) (Qoo aK hv hi hu ⟨fun fs e=>n1 fs (by rw [<- e]),fun n e' e=>n2 n e' (by rw [<- e])⟩ hl)⟩
   .simp at h
  .simp at h
 .rename_i t x y aK
  replace h:=Q2 h;obtain ⟨v,hv,h⟩:=h
  replace h:=Q2 h;obtain ⟨u,hu,h⟩:=h
  replace h:=I3 h;obtain ⟨p,rfl,h⟩:=h
  replace h:=Q2 h;obtain ⟨i,hi,h⟩:=h
  split at h
  .rename_i hs
   replace h:=Q2 h;obtain ⟨H',hh,h⟩:=h
   exact ⟨_,_,h,Bh (c3 aK rfl) (Qor aK hv hu hi hs hh)⟩
  .simp at h
 .rename_i x aK
  replace h:=Q2 h;obtain ⟨v,hv,h⟩:=h
  split at h
  .exact ⟨_,_,h,iu (c0 aK rfl) (Q8d aK hv)⟩
  .replace h:=I3 h;obtain ⟨p,rfl,h⟩:=h
   exact ⟨_,_,h,iu (c0 aK rfl) (Q9g aK hv)⟩
 .rename_i op t x y t' aK
  replace h:=Q2 h;obtain ⟨v,hv,h⟩:=h
  replace h:=Q2 h;obtain ⟨u,hu,h⟩:=h
  obtain ⟨z,h1,h2⟩:=Qqh aK hv hu h
  exact ⟨_,_,h1,iu (c0 aK rfl) h2⟩
 .rename_i op t x aK
  replace h:=Q2 h;obtain ⟨v,hv,h⟩:=h
  obtain ⟨z,h1,h2⟩:=OD h
  exact ⟨_,_,h2,iu (c0 aK rfl) (Qqc aK hv h1)⟩
 .rename_i src dst x aK
  replace h:=Q2 h;obtain ⟨v,hv,h⟩:=h
  unfold I4 at h
  split at h
  .rename_i k0 k k' n h1 h2
   exact ⟨_,_,h,iu (c0 aK (by simp [gq,h1,h2])) (Qgi aK hv h1 h2)⟩
  .rename_i s h1 h2
   exact ⟨_,_,h,iu (c0 aK (by simp [gq,h1,h2])) (Qgj aK hv h1 h2)⟩
  .rename_i e a n c h1 h2
   split at h
   .rename_i h3
    replace h:=Q2 h;obtain ⟨l,hl,h⟩:=h
    replace h:=Q2 h;obtain ⟨bs,hb,h⟩:=h
    exact ⟨_,_,h,KP (c1 aK (by simp [gq,h1])) (Qcu aK hv h1 h2 h3 hl hb)⟩
   .simp at h
  .rename_i e s h1 h2
   split at h
   .rename_i h3
    exact ⟨_,_,h,KQ (c2 aK (by simp [gq,h1,h2])) (Qej aK hv h1 h2 h3)⟩
   .simp at h
  .simp at h
 .rename_i f first cap aK
  replace h:=Q2 h;obtain ⟨fs,hf,h⟩:=h
  replace h:=Q2 h;obtain ⟨cs,hc,h⟩:=h
  exact ⟨_,_,h,iu (c0 aK rfl) (Qfi aK hf hc)⟩
 .rename_i t l c aK
  replace h:=Q2 h;obtain ⟨v,hv,h⟩:=h
  replace h:=Q2 h;obtain ⟨u,hu,h⟩:=h
  replace h:=RZ h;obtain ⟨n,rfl,h⟩:=h
  replace h:=RZ h;obtain ⟨m,rfl,h⟩:=h
  replace h:=Q2 h;obtain ⟨⟨e,size,bytes,z⟩,he,h⟩:=h
  simp only at h
  rcases jI h with ⟨hc,h⟩ | ⟨_,h⟩
  .simp only [Z8] at hc
   exact ⟨_,_,h,KQ (c2 aK rfl) (Qb0 aK hv hu he (Zi hc.1) (Zi hc.2))⟩
  .simp at h
 .rename_i t x lo hi aK
  replace h:=Q2 h;obtain ⟨v,hv,h⟩:=h
  split at h
  .rename_i p n c
   split at h
   .rename_i e hu
    replace h:=Q2 h;obtain ⟨i,eW,h⟩:=h
    replace h:=OE h;obtain ⟨hb,h,OF⟩:=h
    replace h:=OE h;obtain ⟨lb,h,OG⟩:=h
    replace h:=Q2 h;obtain ⟨u,DL,h⟩:=h
    replace h:=Zv h;obtain ⟨a',n',c',dB,h⟩:=h
    rw [<- dB] at h
    refine ⟨_,_,h,iu (c0 aK rfl) ?_⟩
    unfold iP at DL
    split at DL
    .rcases jI DL with ⟨hc,kY⟩ | ⟨_,kY⟩
     .clear DL
      simp only [Z8] at hc
      obtain ⟨⟨⟨q1,q2⟩,q3⟩,q4⟩:=hc
      have q3:=Z7 q3
      have q4:=Z7 q4
      subst q3;subst q4
      simp only [Option.some.injEq] at kY;rw [<- kY]
      exact Qed aK hv hu eW OF OG (Zi q1) (Zi q2)
     .simp at kY
    .rcases jI DL with ⟨hc,kY⟩ | ⟨_,kY⟩
     .clear DL
      simp only [Z8] at hc
      obtain ⟨⟨q1,q2⟩,q3⟩:=hc
      have q3:=Z7 q3
      simp only [Option.some.injEq] at kY;rw [<- kY]
      exact Qmr aK hv hu eW OF OG (Zi q1) (Zi q2) q3
     .simp at kY
   .simp at h
  .rename_i s
   split at h
   .rename_i hu
    replace h:=OE h;obtain ⟨hb,h,OF⟩:=h
    replace h:=OE h;obtain ⟨lb,h,OG⟩:=h
    rcases jI h with ⟨hc,h⟩ | ⟨_,h⟩
    .simp only [Z8] at hc
     exact ⟨_,_,h,iu (c0 aK rfl) (Qee aK hv hu OF OG (Zi hc.1) (Zi hc.2))⟩
    .simp at h
   .simp at h
  .simp at h
 .rename_i s x f aK
  replace h:=Q2 h;obtain ⟨v,hv,h⟩:=h
  replace h:=I3 h;obtain ⟨p,rfl,h⟩:=h
  split at h
  .rename_i fs hu
   replace h:=Q2 h;obtain ⟨fd,hf,h⟩:=h
   replace h:=Q2 h;obtain ⟨i,hi,h⟩:=h
   split at h
   .rename_i hz
    exact ⟨_,_,h,iu (c0 aK rfl) (Qd1 aK hv hu hf hi hz)⟩
   .simp at h
  .simp at h
 .rename_i t x f aK
  replace h:=Q2 h;obtain ⟨v,hv,h⟩:=h
  split at h
  .rename_i cs
   split at h
   .rename_i fs hu
    replace h:=Q2 h;obtain ⟨fd,hf,h⟩:=h
    replace h:=Q2 h;obtain ⟨u,hp,h⟩:=h
    exact ⟨_,_,h,iu (c0 aK rfl) (Qnr aK hv hu hf hp)⟩
   .simp at h
  .simp at h
 .rename_i t x ix aK
  replace h:=Q2 h;obtain ⟨v,hv,h⟩:=h
  replace h:=Q2 h;obtain ⟨j,hj,h⟩:=h
  split at h
  .rename_i e hu
   replace h:=Zz h;obtain ⟨p,n,c,rfl,h⟩:=h
   replace h:=Q2 h;obtain ⟨i,hi,h⟩:=h
   replace h:=OH h;obtain ⟨kd,k,rfl,h⟩:=h
   rcases jI h with ⟨hk,h⟩ | ⟨_,h⟩
   .have hk:k+1<=n:=by simpa [Nat.blt] using hk
    exact ⟨_,_,h,iu (c0 aK rfl) (Qd2 aK hv hj hu hi hk)⟩
   .simp at h
  .rename_i n e hu
   replace h:=I3 h;obtain ⟨p,rfl,h⟩:=h
   replace h:=Q2 h;obtain ⟨i,hi,h⟩:=h
   replace h:=OH h;obtain ⟨kd,k,rfl,h⟩:=h
   rcases jI h with ⟨hk,h⟩ | ⟨_,h⟩
   .have hk:k+1<=n:=by simpa [Nat.blt] using hk
    exact ⟨_,_,h,iu (c0 aK rfl) (Qfk aK hv hj hu hi hk)⟩
   .simp at h
  .simp at h
 .rename_i t x ix aK
  replace h:=Q2 h;obtain ⟨v,hv,h⟩:=h
  replace h:=Q2 h;obtain ⟨j,hj,h⟩:=h
  split at h
  .rename_i s
   split at h
   .rename_i hu
    replace h:=OH h;obtain ⟨kd,k,rfl,h⟩:=h
    replace h:=Q2 h;obtain ⟨b,hb,h⟩:=h
    exact ⟨_,_,h,iu (c0 aK rfl) (Qns aK hv hj hu hb)⟩
   .simp at h
  .rename_i cs
   split at h
   .rename_i n e hu
    replace h:=Q2 h;obtain ⟨i,hi,h⟩:=h
    replace h:=OH h;obtain ⟨kd,k,rfl,h⟩:=h
    rcases jI h with ⟨hk,h⟩ | ⟨_,h⟩
    .have hk:k+1<=n:=by simpa [Nat.blt] using hk
     replace h:=Q2 h;obtain ⟨u,hp,h⟩:=h
     exact ⟨_,_,h,iu (c0 aK rfl) (Qfl aK hv hj hu hi hk hp)⟩
    .simp at h
   .simp at h
  .simp at h
 .rename_i x i aK
  replace h:=Q2 h;obtain ⟨v,hv,h⟩:=h
  split at h
  .rename_i vs
   replace h:=Q2 h;obtain ⟨u,hu,h⟩:=h
   exact ⟨_,_,h,iu (c0 aK rfl) (Qi0 aK hv hu)⟩
  .simp at h
 .rename_i c aK
  split at h
  .rename_i b hb
   replace h:=Q2 h;obtain ⟨vs,hv,h⟩:=h
   exact Qem aK hb hv h
  .rename_i f hf
   replace h:=Q2 h;obtain ⟨g,hg,h⟩:=h
   replace h:=Q2 h;obtain ⟨vs,hv,h⟩:=h
   have cz:gq X.P o.op=3:=by
    rw [aK]
    obtain ⟨callee,args,ts⟩:=c
    simp only at hf
    subst hf
    rfl
   split at h
   .rename_i n first cap
    replace h:=Q2 h;obtain ⟨⟨rv,rh⟩,hr,h⟩:=h
    have hk:K rv rh=some r:=by
     simp only at h
     split at h
     .exact Qtd h
     .exact h
    exact ⟨_,_,hk,Bh cz (Qs8 aK hf hg hv (hX _ _ _ _ _ _ hr))⟩
   .simp at h
  .simp at h
 .simp at h
end
end Go.Ev
open Go.MapKept
namespace Go.Ev
def ML (l:List MapEntry) (es:List (Int×Int)):Prop:=l.map (fun e=>(e.key,e.val))=es.map fun p=>(Value.int .i64 p.1,Value.int .i64 p.2)
theorem R0 (k:Int):∀ (l:List MapEntry) (es:List (Int×Int)) (i:Nat),ML l es ->
  (eD es k=none/\Instr.findNow (.int .i64) (.int .i64 k) l i=some none/\∀ v,gW es k v=es++[(k,v)]) \/
  ∃ j v0 e,eD es k=some v0/\Instr.findNow (.int .i64) (.int .i64 k) l i=some (some (i+j,.int .i64 v0))/\l[j]? = some e/\e.key=.int .i64 k /\
   ∀ v,ML (l.modify j fun e=>{ e with key:=.int .i64 k,val:=.int .i64 v }) (gW es k v)
 | [],es,i,h=>by
  have:es=[]:=by simpa [ML] using h
  subst this
  exact .inl ⟨rfl,rfl,fun v=>rfl⟩
 | e::l,[],i,h=>by simp [ML] at h
 | e::l,(a,u)::es,i,h=>by
  unfold ML at h
  rw [List.map_cons,List.map_cons,List.cons.injEq,Prod.mk.injEq] at h
  obtain ⟨⟨h1,h2⟩,h3⟩:=h
  cases hb:k==a with
  | true =>
   have R3:k=a:=by simpa using hb
   subst R3
   refine .inr ⟨0,u,e,by simp [eD],by simp [Instr.findNow,Instr.sameNow,h1,h2],rfl,h1,fun v=>?_⟩
   unfold ML
   simp only [gW,hb]
   simp [h3]
  | false =>
   have hs:Instr.sameNow (.int .i64) (.int .i64 k) e.key=some false:=by simp [Instr.sameNow,h1];simpa using hb
   rcases R0 k l es (i+1) h3 with ⟨g1,g2,g3⟩ | ⟨j,v0,e',g1,g2,g3,g4,g5⟩
   .exact .inl ⟨by simp only [eD,hb,g1],by simp only [Instr.findNow,hs,g2],fun v=>by simp only [gW,hb,g3 v];rfl⟩
   .refine .inr ⟨j+1,v0,e',by simp only [eD,hb,g1],by simp only [Instr.findNow,hs,g2];congr 3;omega,by simpa using g3,g4,fun v=>?_⟩
    have:=g5 v
    unfold ML at this ⊢
    simp only [gW,hb,List.modify_succ_cons,List.map_cons,this,h1,h2]
theorem ZB {P:Program} {t:TypeId} (h:DM P t=true) :
  ∃ k e i,P.underlying t=some (.map k e)/\P.underlying k=some (.int .i64)/\P.underlying e=some (.int .i64)/\P.info? e=some i/\i.zero=some (.int .i64 0):=by
 unfold DM at h
 split at h
 .rename_i k e hu
  split at h
  .rename_i z h1 h2 h3
   obtain ⟨i,hi,hz⟩:=Q2 h3
   have:z=0:=by simpa using h
   subst this
   exact ⟨k,e,i,hu,h1,h2,hi,hz⟩
  .simp at h
 .simp at h
theorem I5 (H:af):(rM H).length=H.length+1:=by simp [rM]
theorem ZC (H:af):ah (rM H) H.length=some ⟨[],false,some []⟩:=R4 H _
theorem ZD {H:af} {b:Nat} (hb:b < H.length):ah (rM H) b=ah H b:=FB hb
theorem Rel.FC {ι:Io} {D:Nat->Prop} {H:af} {w w':World} (h:Rel ι D H w) {b:Nat} {k:bx} (hk:ah H b=some k) (bn:k.ro=false) (hs:(ι b).size=0) {es:List (Int×Int)} (h1:w'.heap.size=w.heap.size)
  (h2:∀ q,q≠(ι b).aJ->w'.heap[q]? = w.heap[q]?) (h3:B8 w' (ι b).aJ es) (e1:w'.os=w.os) (e2:w'.tape=w.tape) (e3:w'.output=w.output) :
  Rel ι D (H.set b (some ⟨[],false,some es⟩)) w'/\Fr ι H w ι (H.set b (some ⟨[],false,some es⟩)) w':=by
 have au:=Qt hk
 have hb:=h.aJ b k hk
 have bg:∀ {c:Nat} {q:bx},ah (H.set b (some ⟨[],false,some es⟩)) c=some q->(c=b/\q=⟨[],false,some es⟩)\/(c≠b/\ah H c=some q):=by
  intro c q hq
  by_cases e:b=c
  .subst e;rw [tC au] at hq;injection hq with hq;exact .inl ⟨rfl,hq.symm⟩
  .rw [Qn e] at hq;exact .inr ⟨fun x=>e x.symm,hq⟩
 refine ⟨⟨fun c q hq=>?_,fun c c' q q' g1 g2 aU hr=>?_,fun c q hq hr=>?_,h.gw.cv (by omega) (fun q hq=>h2 q (by have:=h.iy b k hk bn;omega))⟩,⟨by simp,fun _ _=>rfl,e1,e2,e3,by omega,fun q hq hn=>h2 q (Ne.symm (hn b k hk bn)),fun c q hq hr=>?_,fun c q hq hr=>?_⟩⟩
 .rcases bg hq with ⟨rfl,rfl⟩ | ⟨g1,g2⟩
  .have:=hb.fit
   exact ⟨by have:=hb.lt;omega,fun h0=>by omega,fun es' he=>by simp at he;subst he;exact ⟨rfl,hs,h3⟩,by simp;omega,fun i hi=>absurd hi (by simp),fun _ i q1 q2=>by omega⟩
  .exact (h.aJ c q g2).bw (h2 _ (h.inj c b q k g2 hk g1 (.inr bn))) rfl (fun _ _ _ x=>x)
 .rcases bg g1 with ⟨rfl,rfl⟩ | ⟨p1,p2⟩<;>rcases bg g2 with ⟨rfl,rfl⟩ | ⟨q1,q2⟩
  .exact absurd rfl aU
  .exact h.inj c c' k q' hk q2 aU (.inl bn)
  .exact h.inj c c' q k p2 hk aU (.inr bn)
  .exact h.inj c c' q q' p2 q2 aU hr
 .rcases bg hq with ⟨rfl,rfl⟩ | ⟨_,g2⟩
  .exact h.iy _ k hk bn
  .exact h.iy c q g2 hr
 .rcases bg hq with ⟨rfl,rfl⟩ | ⟨g1,g2⟩
  .exact .inr ⟨c,k,hk,bn,rfl⟩
  .exact .inr ⟨c,q,g2,hr,rfl⟩
 .rcases bg hq with ⟨rfl,rfl⟩ | ⟨g1,g2⟩
  .simp at hr
  .exact g2
theorem Rel.FD {ι:Io} {H:af} {w:World} (h:Rel ι (aL H.length) H w) :
  Rel (ι.set H.length ⟨w.heap.size,0,0⟩) (aL (rM H).length) (rM H) (w.alloc (.map #[] 0)) /\
  Fr ι H w (ι.set H.length ⟨w.heap.size,0,0⟩) (rM H) (w.alloc (.map #[] 0)):=by
 have hlen:(rM H).length=H.length+1:=I5 H
 have bg:∀ {c:Nat} {q:bx},ah (rM H) c=some q->(c < H.length/\ah H c=some q)\/(c=H.length/\q=⟨[],false,some []⟩):=by
  intro c q hq
  have au:=Qt hq
  rw [hlen] at au
  by_cases e:c=H.length
  .subst e;rw [ZC] at hq;exact .inr ⟨rfl,(Option.some.inj hq).symm⟩
  .rw [ZD (by omega)] at hq;exact .inl ⟨by omega,hq⟩
 have o7:∀ {v c:Value},ay ι (aL H.length) v c->ay (ι.set H.length ⟨w.heap.size,0,0⟩) (aL (rM H).length) v c :=
  fun hr=>hr.mono (aL.mono (by omega)) fun c hc=>Io.aS _ _ (by simp [aL] at hc;omega)
 refine ⟨⟨fun c q hq=>?_,fun c c' q q' g1 g2 aU hr=>?_,fun c q hq hr=>?_,h.gw.cv (by simp) (fun q hq=>FE _ _ (by have:=h.gw.1;omega))⟩,⟨by omega,fun c hc=>Io.aS _ _ (by omega),rfl,rfl,rfl,by simp,fun q hq _=>FE _ _ hq,fun c q hq hr=>?_,fun c q hq hr=>?_⟩⟩
 .rcases bg hq with ⟨g1,g2⟩ | ⟨rfl,rfl⟩
  .exact (h.aJ c q g2).bw (FE _ _ (h.lt g2)) (Io.aS _ _ (by omega)) (fun i hi c hr=>o7 hr)
  .refine ⟨by rw [Io.aC];simp,fun h0=>by rw [Io.aC] at h0;simp at h0,fun es' he=>?_,by rw [Io.aC];simp,fun i hi=>absurd hi (by simp),fun _ i q1 q2=>by rw [Io.aC] at q2;simp at q2⟩
   simp at he;subst he
   exact ⟨rfl,by rw [Io.aC],by rw [Io.aC];exact ⟨#[],0,OI _ _,rfl⟩⟩
 .rcases bg g1 with ⟨p1,p2⟩ | ⟨rfl,rfl⟩<;>rcases bg g2 with ⟨q1,q2⟩ | ⟨rfl,rfl⟩
  .rw [Io.aS _ _ (by omega),Io.aS _ _ (by omega)];exact h.inj c c' q q' p2 q2 aU hr
  .rw [Io.aS _ _ (by omega),Io.aC];have:=h.lt p2;simp only;omega
  .rw [Io.aC,Io.aS _ _ (by omega)];have:=h.lt q2;simp only;omega
  .exact absurd rfl aU
 .rcases bg hq with ⟨g1,g2⟩ | ⟨rfl,rfl⟩
  .rw [Io.aS _ _ (by omega)];exact h.iy c q g2 hr
  .rw [Io.aC];exact h.gw.1
 .rcases bg hq with ⟨g1,g2⟩ | ⟨rfl,rfl⟩
  .exact .inr ⟨c,q,g2,hr,by rw [Io.aS _ _ (by omega)]⟩
  .exact .inl (by rw [Io.aC];exact Zd _)
 .rcases bg hq with ⟨g1,g2⟩ | ⟨rfl,rfl⟩
  .exact g2
  .simp at hr
section
variable {P:Program} {nt ai:Nat} {o:Oper} {env:Env} {H H':af} {X:Cx} {β:Type} {K:Value->af->Option β} {r:β}
theorem ZE {b:Nat} {es:List (Int×Int)} (h:FF H b=some es):∃ k,ah H b=some k/\k.ro=false/\k.mp=some es:=by
 obtain ⟨k,hk,h⟩:=Q2 h
 split at h
 .exact ⟨k,hk,by assumption,h⟩
 .simp at h
theorem ZF {v:Value} {F:Nat->Option β} (h:I6 v F=some r):∃ b,v=.map (some b)/\F b=some r:=by
 unfold I6 at h
 split at h
 .exact ⟨_,rfl,h⟩
 .simp at h
theorem R5 {v:Value} {F:Int->Option β} (h:FG v F=some r):∃ n,v=.int .i64 n/\F n=some r:=by
 unfold FG at h
 split at h
 .exact ⟨_,rfl,h⟩
 .simp at h
theorem ay.rN {ι:Io} {D:Nat->Prop} {b:Nat} {c:Value} (h:ay ι D (.map (some b)) c):c=.map (some (ι b).aJ):=by cases h;rfl
theorem Qji {t:TypeId} (ho:o.op=.makeMap t none):iZ P nt ai o env H (.map (some H.length)) (rM H):=by
 refine ⟨fun _ _=>.map _ (by rw [I5];simp [aL]),fun _ _=>?_,fun ι a w hR he next Q hn=>?_⟩
 .have hc:∀ {c:Nat} {q:bx},ah (rM H) c=some q->∀ v∈q.cells,ah H c=some q:=by
   intro c q hq v hv
   by_cases e:c < H.length
   .rw [ZD e] at hq;exact hq
   .have au:=Qt hq
    rw [I5] at au
    have e:c=H.length:=by omega
    subst e
    rw [ZC] at hq
    obtain rfl:=Option.some.inj hq
    simp at hv
  exact ⟨by rw [I5];omega,fun h c fE q hq v hv=>(h c (Qt (hc hq v hv)) q (hc hq v hv) v hv).mono (aL.mono (by rw [I5];omega)),fun m _ _ h c fE q hq v hv=>h c fE q (hc hq v hv) v hv⟩
 .obtain ⟨g1,g2⟩:=hR.FD
  have aT:(execOp a.eval o).run P w=.ok (.value (.map (some w.heap.size))) (w.alloc (.map #[] 0)):=by
   simp only [execOp,ho,Option.map_none,Sem.run_bind,Instr.makeMap,Sem.run_pure,run_newObj,Result.andThen_ok]
   rfl
  refine oY aT (hn _ _ _ g1 ?_ g2)
  have:=ay.map (ι:=ι.set H.length ⟨w.heap.size,0,0⟩) (D:=aL (rM H).length) H.length (by rw [I5];simp [aL])
  rw [Io.aC] at this
  exact this
theorem Qeo {t:TypeId} {m x y:Operand} {b:Nat} {k v:Int} {es:List (Int×Int)} (ho:o.op=.mapUpdate t m x y) (ht:DM P t=true) (hm:ev env m=some (.map (some b))) (hx:ev env x=some (.int .i64 k)) (hy:ev env y=some (.int .i64 v))
  (hb:FF H b=some es):iZ P nt ai o env H undef (H.set b (some ⟨[],false,some (gW es k v)⟩)):=by
 obtain ⟨kb,hk,bn,FH⟩:=ZE hb
 have au:=Qt hk
 obtain ⟨kt,et,i,u1,u2,u3,u4,u5⟩:=ZB ht
 refine ⟨fun _ _=>KI _,fun _ _=>?_,fun ι a w hR he next Q hn=>?_⟩
 .have hc:∀ {c:Nat} {q:bx},ah (H.set b (some ⟨[],false,some (gW es k v)⟩)) c=some q->∀ v∈q.cells,ah H c=some q:=by
   intro c q hq v hv
   by_cases e:b=c
   .subst e
    rw [tC au] at hq
    obtain rfl:=Option.some.inj hq
    simp at hv
   .rw [Qn e] at hq;exact hq
  exact ⟨by simp,fun h c fE q hq v hv=>by rw [List.length_set];exact h c (Qt (hc hq v hv)) q (hc hq v hv) v hv,fun m _ _ h c fE q hq v hv=>h c fE q (hc hq v hv) v hv⟩
 .obtain ⟨fq,rO,kZ,clock,nF,OJ⟩:=(hR.aJ b kb hk).map es FH
  have ex:=(Qe he hm).rN
  have ek:=(Qe he hx).aM
  have ey:=(Qe he hy).aM
  have tD:IsKey (.int .i64) (.int .i64 k):=by simp [IsKey]
  have main:∀ jc gX,ML jc.toList (gW es k v)->(Instr.mapUpdate t (.map (some (ι b).aJ)) (.int .i64 k) (.int .i64 v)).run P w=.ok () { w with heap:=w.heap.setIfInBounds (ι b).aJ (.map jc gX) }->o.wp P a w next Q:=by
   intro jc gX h1 aT
   obtain ⟨q1,q2⟩:=MapKept.heap_set (o':=.map jc gX) nF
   obtain ⟨g1,g2⟩:=hR.FC (w':={ w with heap:=w.heap.setIfInBounds (ι b).aJ (.map jc gX) }) hk bn rO (es:=gW es k v) (by simp) q2 ⟨jc,gX,q1,h1⟩ rfl rfl rfl
   have KT:(execOp a.eval o).run P w=.ok .skip { w with heap:=w.heap.setIfInBounds (ι b).aJ (.map jc gX) }:=by
    simp only [execOp,ho,ex,ek,ey,Sem.run_bind,aT,Result.andThen_ok,Sem.run_pure]
   unfold Oper.wp;rw [KT]
   have hl:(H.set b (some (⟨[],false,some (gW es k v)⟩:bx))).length=H.length:=by simp
   rw [<- hl] at g1
   exact hn ι _ undef g1 (I2 _ _) g2
  rcases R0 k kZ.toList es 0 OJ with ⟨f1,f2,f3⟩ | ⟨j,v0,e,f1,f2,f3,f4,f5⟩
  .refine main (kZ.push { key:=.int .i64 k,val:=.int .i64 v,born:=clock }) (clock+1) ?_ ?_
   .rw [f3 v];unfold ML;simp;simpa using OJ
   .simp [Instr.mapUpdate,run_underlying u1,MapKept.run_getObj_map nF,MapKept.run_checkKey u2 tD,MapKept.run_findKey u2 f2,MapKept.run_setObj_map _ nF,Result.andThen]
  .refine main (kZ.modify j fun e=>{ e with key:=.int .i64 k,val:=.int .i64 v }) clock ?_ ?_
   .have:=f5 v
    rwa [<- Array.toList_modify] at this
   .have hj:kZ[j]? = some e:=by rw [<- Array.getElem?_toList];exact f3
    rw [Zo] at f2
    simp [Instr.mapUpdate,run_underlying u1,MapKept.run_getObj_map nF,MapKept.run_checkKey u2 tD,MapKept.run_findKey u2 f2,hj,f4,MapKept.run_keyThatStays tD,MapKept.run_setObj_map _ nF,Result.andThen]
theorem Qmx {t:TypeId} {m x:Operand} {ok:Bool} {b:Nat} {k:Int} {es:List (Int×Int)} (ho:o.op=.lookup t m x ok) (ht:DM P t=true) (hm:ev env m=some (.map (some b))) (hx:ev env x=some (.int .i64 k))
  (hb:FF H b=some es):iZ P nt ai o env H (FI ok (eD es k)) H:=by
 obtain ⟨kb,hk,bn,FH⟩:=ZE hb
 obtain ⟨kt,et,i,u1,u2,u3,u4,u5⟩:=ZB ht
 have w5:∀ (ι:Io) (D:Nat->Prop) (ok:Bool) (x:Option Int),ay ι D (FI ok x) (FI ok x):=by
  intro ι D ok x
  cases ok with
  | true =>
   refine .tuple _ _ rfl fun i h1 h2=>?_
   simp at h1
   rcases (show i=0\/i=1 by omega) with rfl | rfl
   .exact .int _ _
   .exact .bool _
  | false=>exact .int _ _
 refine ⟨fun _ _=>(w5 (fun _=>⟨0,0,0⟩) _ _ _).lt,fun _ _=>Ab.refl _ _,fun ι a w hR he next Q hn=>?_⟩
 obtain ⟨fq,rO,kZ,clock,nF,OJ⟩:=(hR.aJ b kb hk).map es FH
 have ex:=(Qe he hm).rN
 have ek:=(Qe he hx).aM
 have tD:IsKey (.int .i64) (.int .i64 k):=by simp [IsKey]
 have hzero:(zeroValue et).run P w=.ok (.int .i64 0) w:=by
  simp only [zeroValue,typeInfo,Sem.run_bind,run_program,Result.andThen_ok,u4,Sem.run_pure,u5]
 have aT:(execOp a.eval o).run P w=.ok (.value (FI ok (eD es k))) w:=by
  rcases R0 k kZ.toList es 0 OJ with ⟨f1,f2,f3⟩ | ⟨j,v0,e,f1,f2,f3,f4,f5⟩
  .rw [f1]
   cases ok<;>simp [execOp,ho,ex,ek,Instr.lookup,run_underlying u1,MapKept.run_getObj_map nF,MapKept.run_checkKey u2 tD,MapKept.run_findKey u2 f2,hzero,FI,Result.andThen]
  .rw [f1]
   cases ok<;>simp [execOp,ho,ex,ek,Instr.lookup,run_underlying u1,MapKept.run_getObj_map nF,MapKept.run_checkKey u2 tD,MapKept.run_findKey u2 f2,FI,Result.andThen]
 exact oY aT (hn ι w _ hR (w5 ι _ _ _) (Fr.refl ι H w))
def FJ (X:Cx) (o:Oper) (env:Env) (H:af) (v:Value) (H':af):Prop:=jJ X o env H v H'\/iZ X.P X.nt X.ai o env H v H'
theorem ZG (hX:oX X.P X.call) (h:B9 X o env H K=some r):∃ v H',K v H'=some r/\FJ X o env H v H':=by
 unfold B9 at h
 split at h
 .rename_i t ho
  exact ⟨_,_,h,.inr (Qji ho)⟩
 .rename_i t m k v ho
  split at h
  .rename_i ht
   replace h:=Q2 h;obtain ⟨mv,hm,h⟩:=h
   replace h:=Q2 h;obtain ⟨kv,hk,h⟩:=h
   replace h:=Q2 h;obtain ⟨vv,hv,h⟩:=h
   replace h:=ZF h;obtain ⟨b,rfl,h⟩:=h
   replace h:=R5 h;obtain ⟨a,rfl,h⟩:=h
   replace h:=R5 h;obtain ⟨u,rfl,h⟩:=h
   replace h:=Q2 h;obtain ⟨es,hb,h⟩:=h
   exact ⟨_,_,h,.inr (Qeo ho ht hm hk hv hb)⟩
  .simp at h
 .rename_i t m k ok ho
  split at h
  .rename_i ht
   replace h:=Q2 h;obtain ⟨mv,hm,h⟩:=h
   replace h:=Q2 h;obtain ⟨kv,hk,h⟩:=h
   replace h:=ZF h;obtain ⟨b,rfl,h⟩:=h
   replace h:=R5 h;obtain ⟨a,rfl,h⟩:=h
   replace h:=Q2 h;obtain ⟨es,hb,h⟩:=h
   exact ⟨_,_,h,.inr (Qmx ho ht hm hk hb)⟩
  .simp at h
 .obtain ⟨v,H',h1,h2⟩:=RX hX h
  exact ⟨v,H',h1,.inl h2⟩
end
section
variable {o:Oper} {env:Env} {H H':af} {X:Cx} {β:Type} {r:β}
theorem Rel.closed {ι:Io} {w:World} (h:Rel ι (aL H.length) H w):Qm H.length H:=by
 intro b hb k hk v hv
 obtain ⟨i,hi,e⟩:=List.getElem_of_mem hv
 obtain ⟨c,h1,h2,h3⟩:=(h.aJ b k hk).cell i hi
 exact e▸h2.lt
theorem OK {v:Value} (h:jJ X o env H v H') (he:dM (aL H.length) env) (hc:Qm H.length H):Ab X.ai H H'/\bK (aL H'.length) v:=by
 unfold jJ at h
 split at h
 .obtain ⟨rfl,h⟩:=h;exact ⟨Ab.refl _ _,h.lt _ he⟩
 .obtain ⟨rfl,raw,h⟩:=h;exact ⟨Ab.refl _ _,h.lt he hc⟩
 .obtain ⟨vs,mk,rfl,rfl,h⟩:=h
  exact ⟨RM _ (h.lt _ he),h.ltv _ _ (by simp [aL,Qy])⟩
 .exact ⟨h.ab he hc,h.lt he hc⟩
theorem Qvy {v:Value} (h:jJ X o env H v H') {ι:Io} {a:Act} {w:World} (hR:Rel ι (aL H.length) H w) (hE:bt ι (aL H.length) X.nt env a) {next:Act->World->Prop} {Q:Exit->Act->World->Prop}
  (hn:∀ ι' w' c,Rel ι' (aL H'.length) H' w'->ay ι' (aL H'.length) v c->Fr ι H w ι' H' w'->next (a.put o.dst c) w'):o.wp X.P a w next Q:=by
 unfold jJ at h
 split at h
 .obtain ⟨rfl,h⟩:=h
  obtain ⟨c,h1,h2⟩:=h.run ι _ a w hE
  exact oY h1 (hn ι w c hR h2 (Fr.refl _ _ _))
 .obtain ⟨rfl,raw,h⟩:=h
  obtain ⟨c,h1,h2⟩:=h.run ι _ a w H' h.rd hR hE
  exact oY h1 (hn ι w c hR h2 (Fr.refl _ _ _))
 .obtain ⟨vs,mk,rfl,rfl,h⟩:=h
  obtain ⟨cs,rest,fm,fz,w0,c,h1,h2,e1,e2,e3,e4,h3,h4⟩:=h.run ι _ a w hE
  obtain ⟨g1,g2⟩:=(hR.bz e1).push h1 h.cells rest fm fz h2
  have hw:w0.heap.size=w.heap.size:=by rw [e1]
  have k_:=h4 H.length
  rw [<- hw] at k_
  refine oY h3 (hn _ _ c g1 ?_ (((Fr.refl ι H w).bz e1 e2 e3 e4).trans g2))
  rw [Qy]
  exact k_.mono (by intro b hb;simp [aL] at hb ⊢;omega) fun _ _=>rfl
 .exact h.run ι a w hR hE next Q hn
theorem ZH {v:Value} (h:FJ X o env H v H') (he:dM (aL H.length) env) (hc:Qm H.length H):Ab X.ai H H'/\bK (aL H'.length) v:=by
 rcases h with h | h
 .exact OK h he hc
 .exact ⟨h.ab he hc,h.lt he hc⟩
theorem Qs9 {v:Value} (h:FJ X o env H v H') {ι:Io} {a:Act} {w:World} (hR:Rel ι (aL H.length) H w) (hE:bt ι (aL H.length) X.nt env a) {next:Act->World->Prop} {Q:Exit->Act->World->Prop}
  (hn:∀ ι' w' c,Rel ι' (aL H'.length) H' w'->ay ι' (aL H'.length) v c->Fr ι H w ι' H' w'->next (a.put o.dst c) w'):o.wp X.P a w next Q:=by
 rcases h with h | h
 .exact Qvy h hR hE hn
 .exact h.run ι a w hR hE next Q hn
theorem DN {nt:Nat} {dst:Option Tmp} {v:Value} {K:Env->Option β} (h:DO nt dst v env K=some r):∃ ak,K ak=some r/\((dst=none/\ak=env)\/∃ d,dst=some d/\d < nt/\ak=(d,v)::env):=by
 unfold DO at h
 split at h
 .exact ⟨env,h,.inl ⟨rfl,rfl⟩⟩
 .rename_i d
  split at h
  .rename_i hd
   have oF:d+1<=nt:=by simpa [Nat.blt] using hd
   exact ⟨_,h,.inr ⟨d,rfl,oF,rfl⟩⟩
  .simp at h
theorem ZI {ι:Io} {D:Nat->Prop} {nt:Nat} {ak:Env} {a:Act} {dst:Option Tmp} {v c:Value} (hE:bt ι D nt env a) (hv:ay ι D v c) (h:(dst=none/\ak=env)\/∃ d,dst=some d/\d < nt/\ak=(d,v)::env):bt ι D nt ak (a.put dst c):=by
 rcases h with ⟨rfl,rfl⟩ | ⟨d,rfl,hd,rfl⟩
 .exact hE
 .exact hE.put hd hv
theorem KU {D:Nat->Prop} {nt:Nat} {ak:Env} {dst:Option Tmp} {v:Value} (hE:dM D env) (hv:bK D v) (h:(dst=none/\ak=env)\/∃ d,dst=some d/\d < nt/\ak=(d,v)::env):dM D ak:=by
 rcases h with ⟨rfl,rfl⟩ | ⟨d,rfl,hd,rfl⟩
 .exact hE
 .exact hE.put hv
structure KY (nt:Nat) (ops:Array Oper) (o:Oper) (env:Env) (t:Bool) (ak:Env):Prop where
 run:∀ (ι:Io) (D:Nat->Prop) (a:Act),bt ι D nt env a->bt ι D nt ak a/\Region.wanted o (yielded ops a.tmps)=t
 lt:∀ D:Nat->Prop,dM D env->dM D ak
theorem R6 {nt:Nat} {ops:Array Oper} {K:Bool->Env->Option β} (h:DP ops o env K=some r):∃ t ak,K t ak=some r/\KY nt ops o env t ak:=by
 unfold DP at h
 split at h
 .rename_i hg
  exact ⟨true,env,h,fun ι D a hE=>⟨hE,by simp [Region.wanted,hg]⟩,fun D hE=>hE⟩
 .rename_i j want hg
  split at h
  .rename_i d hd
   replace h:=Q2 h;obtain ⟨v,hv,h⟩:=h
   have hy:∀ (ι:Io) (D:Nat->Prop) (a:Act),bt ι D nt env a->yielded ops a.tmps j=match v with | .bool b=>some b | _=>none:=by
    intro ι D a hE
    have hr:=hE.get d v hv
    unfold yielded
    rw [hd]
    simp only [Option.bind_some]
    by_cases au:d < a.tmps.size
    .rw [Array.getElem?_eq_getElem au]
     have e:a.tmps.getD d undef=a.tmps[d]:=by simp [Array.getD,au]
     rw [e] at hr
     generalize a.tmps[d]=c at hr ⊢
     cases hr<;>rfl
    .rw [Array.getElem?_eq_none (Nat.le_of_not_lt au)]
     have e:a.tmps.getD d undef=undef:=by simp [Array.getD,au]
     rw [e] at hr
     cases hr<;>rfl
   split at h
   .rename_i b
    rcases jI h with ⟨rfl,h⟩ | ⟨rfl,h⟩
    .refine ⟨_,_,h,fun ι D a hE=>⟨hE.lit hv,?_⟩,fun D hE=>hE.put (.bool _)⟩
     simp only [Region.wanted,hg,hy ι D a hE]
     cases want<;>rfl
    .refine ⟨_,_,h,fun ι D a hE=>⟨hE.lit hv,?_⟩,fun D hE=>hE.put (.bool _)⟩
     simp only [Region.wanted,hg,hy ι D a hE]
     cases want<;>rfl
   .rename_i R7
    refine ⟨_,_,h,fun ι D a hE=>⟨hE,?_⟩,fun D hE=>hE⟩
    simp only [Region.wanted,hg,hy ι D a hE]
    cases v<;>first | rfl | exact absurd rfl (R7 _)
  .simp at h
def KZ:eF->Exit
 | .normal=>.normal
 | .exit id=>.exit id
 | .ret=>.ret
def K0 (X:Cx) (ι₀:Io) (H₀:af) (w₀:World) (K:eF->Env->af->Option β) (r:β) (ex:Exit) (a:Act) (w:World):Prop :=
 ∃ vV env ι H,KZ vV=ex/\Rel ι (aL H.length) H w/\bt ι (aL H.length) X.nt env a/\Fr ι₀ H₀ w₀ ι H w/\Ab X.ai H₀ H/\a.defers=[]/\K vV env H=some r
theorem K0.later {ι₀ ι:Io} {H₀:af} {w₀ w:World} {K:eF->Env->af->Option β} {ex:Exit} {a:Act} {w':World} (h:K0 X ι H w K r ex a w') (hf:Fr ι₀ H₀ w₀ ι H w) (ha:Ab X.ai H₀ H):K0 X ι₀ H₀ w₀ K r ex a w':=by
 obtain ⟨vV,env,ι',H',h1,h2,h3,h4,h5,h6,h7⟩:=h
 exact ⟨vV,env,ι',H',h1,h2,h3,hf.trans h4,ha.trans h5,h6,h7⟩
theorem I7 (a:Act) (dst:Option Tmp) (c:Value):(a.put dst c).defers=a.defers:=by cases dst<;>rfl
theorem R8 (hX:oX X.P X.call) {ops:Array Oper} {K:Env->af->Option β} {Q:Exit->Act->World->Prop}:∀ (l:List Oper) (i:Nat) (env:Env) (H:af),(∀ k,l[k]? = ops[i+k]?)->i+l.length=ops.size->B_ X ops l env H K=some r ->
  ∀ (ι:Io) (a:Act) (w:World),Rel ι (aL H.length) H w->bt ι (aL H.length) X.nt env a->a.defers=[] ->
  (∀ ak ι' H' a' w',Rel ι' (aL H'.length) H' w'->bt ι' (aL H'.length) X.nt ak a'->Fr ι H w ι' H' w'->Ab X.ai H H'->a'.defers=[]->K ak H'=some r->Q .normal a' w') ->
  wpOps X.P ops Q (List.range' i l.length) a w
 | [],i,env,H,hl,hs,h,ι,a,w,hR,hE,hd,hQ=>hQ env ι H a w hR hE (Fr.refl _ _ _) (Ab.refl _ _) hd h
 | o::l,i,env,H,hl,hs,h,ι,a,w,hR,hE,hd,hQ=>by
  have ho:ops[i]? = some o:=by have:=hl 0;simpa using this.symm
  have jH:∀ k,l[k]? = ops[i+1+k]?:=fun k=>by have:=hl (k+1);rw [show i+1+k=i+(k+1) by omega];simpa using this
  rw [Z9,List.range'_succ]
  simp only [wpOps,ho]
  unfold B_ at h
  obtain ⟨t,fW,h,hw⟩:=R6 (nt:=X.nt) h
  obtain ⟨vW,ZJ⟩:=hw.run ι _ a hE
  cases t with
  | true =>
   rw [if_pos ZJ]
   left
   simp only at h
   obtain ⟨v,H',h,hF⟩:=ZG hX h
   obtain ⟨ld,I8⟩:=ZH hF vW.lt hR.closed
   refine Qs9 hF hR vW fun ι' w' c R9 gV hf=>?_
   obtain ⟨cc,h,hp⟩:=DN h
   have hE2:bt ι' (aL H'.length) X.nt fW a:=vW.mono (aL.mono hf.len) hf.io
   refine R8 hX l (i+1) cc H' jH (by simp at hs;omega) h ι' _ w' R9 (ZI hE2 gV hp) (by rw [I7];exact hd) ?_
   intro ak ι2 H2 a2 w2 g1 g2 g3 g4 g5 g6
   exact hQ ak ι2 H2 a2 w2 g1 g2 (hf.trans g3) (ld.trans g4) g5 g6
  | false =>
   rw [if_neg (by rw [ZJ];simp)]
   simp only at h
   obtain ⟨cc,h,hp⟩:=DN h
   refine R8 hX l (i+1) cc H jH (by simp at hs;omega) h ι _ w hR (ZI vW (I2 _ _) hp) (by rw [I7];exact hd) ?_
   intro ak ι2 H2 a2 w2 g1 g2 g3 g4 g5 g6
   exact hQ ak ι2 H2 a2 w2 g1 g2 g3 g4 g5 g6
theorem R_ (hX:oX X.P X.call) {ops:Array Oper} {K:Env->af->Option β}:∀ (l:List Oper) (env:Env) (H:af),B_ X ops l env H K=some r->dM (aL H.length) env->Qm H.length H ->
  ∃ ak H',K ak H'=some r/\dM (aL H'.length) ak/\Qm H'.length H'/\Ab X.ai H H'
 | [],env,H,h,hE,hc=>⟨env,H,h,hE,hc,Ab.refl _ _⟩
 | o::l,env,H,h,hE,hc=>by
  unfold B_ at h
  obtain ⟨t,fW,h,hw⟩:=R6 (nt:=X.nt) h
  have vW:=hw.lt _ hE
  cases t with
  | true =>
   simp only at h
   obtain ⟨v,H',h,hF⟩:=ZG hX h
   obtain ⟨ld,I8⟩:=ZH hF vW hc
   obtain ⟨cc,h,hp⟩:=DN h
   obtain ⟨ak,H2,g1,g2,g3,g4⟩:=R_ hX l cc H' h (KU (vW.mono (aL.mono ld.len)) I8 hp) (ld.all hc)
   exact ⟨ak,H2,g1,g2,g3,ld.trans g4⟩
  | false =>
   simp only at h
   obtain ⟨cc,h,hp⟩:=DN h
   exact R_ hX l cc H h (KU vW (KI _) hp) hc
end
end Go.Ev
