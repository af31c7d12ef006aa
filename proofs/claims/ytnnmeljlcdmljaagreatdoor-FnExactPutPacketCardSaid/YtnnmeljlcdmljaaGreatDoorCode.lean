/-
  Parts of slices and strings, conversions, built-in functions that compute, structs put together: they agree with the model's run. And what stood behind it in 6 texts.
  Conditions: said at the theorems.
-/
import Derived.Test.YtnnmeljlcdmljaaGreatDoorOpB
import Derived.Deep.AppendSrc
import Derived.Deep.Upon
import Derived.Laws.BytesString
import Derived.Laws.BitsLemmas
import Derived.MapKept
set_option linter.unusedVariables false
set_option linter.unusedSimpArgs false
namespace Go.Ev
section
variable {P:Program} {nt:Nat} {o:Oper} {env:Env} {H:Heap} {X:Cx} {β:Type} {K:Value→Heap→Option β} {r:β}
theorem Qcd (w:World) (k:IntKind) (i y:Nat) (code:BoundsCode) (h:i≤y):(Instr.sliceBound (.int k (i:Int)) y code).run P w=.ok i w:=by
 simp [Instr.sliceBound,asIntOf,h]
theorem Q3k (w:World) (isS:Bool) (len cap l h:Nat) (lo hi:Option Value) (hl:l≤h) (hh:h≤cap) (elo:(lo=none∧l=0)∨lo=some (.int .i64 (l:Int))) (ehi:(hi=none∧h=len)∨hi=some (.int .i64 (h:Int))) :
  (Instr.sliceBounds isS len cap lo hi none).run P w=.ok (l,h,cap) w:=by
 rcases elo with ⟨rfl,rfl⟩ | rfl<;>rcases ehi with ⟨rfl,rfl⟩ | rfl<;>simp [Instr.sliceBounds,Qcd,hl,hh]
theorem Q8o {ι:Io} {D:Nat→Prop} {a:Act} (he:ERel ι D nt env a) {x:Option Operand} {d n:Nat} (h:(x=none∧n=d)∨∃ y,x=some y∧ev env y=some (.int .i64 (n:Int))) :
  (x.map a.eval=none∧n=d)∨x.map a.eval=some (.int .i64 (n:Int)):=by
 rcases h with ⟨rfl,rfl⟩ | ⟨y,rfl,hy⟩
 ·exact .inl ⟨rfl,rfl⟩
 ·exact .inr (by simp [(Qd he hy).inv_int])
theorem Q7h {t e:TypeId} (hu:P.underlying t=some (.slice e)) (x:Value) (lo hi mx:Option Value) (w:World):(Instr.sliceAt t x lo hi mx).run P w=(Instr.slice t x lo hi mx).run P w:=by
 simp [Instr.sliceAt,run_underlying hu]
theorem Qce {t:TypeId} (hu:P.underlying t=some .string) (x:Value) (lo hi mx:Option Value) (w:World):(Instr.sliceAt t x lo hi mx).run P w=(Instr.slice t x lo hi mx).run P w:=by
 simp [Instr.sliceAt,run_underlying hu]
theorem Qdv {t e:TypeId} {x:Operand} {lo hi:Option Operand} {l h:Nat} {i:TypeInfo} (ho:o.op=.slice t x lo hi none) (hx:ev env x=some (.slice none 0 0)) (hu:P.underlying t=some (.slice e)) (hi':P.info? e=some i)
  (h1:(hi=none∧h=0)∨∃ y,hi=some y∧ev env y=some (.int .i64 (h:Int))) (h2:(lo=none∧l=0)∨∃ y,lo=some y∧ev env y=some (.int .i64 (l:Int))) (hl:l≤h) (hn:h≤0) :
  PureF P nt o env (.slice none 0 0):=by
 refine ⟨fun ι D a w he=>?_,fun D h=>.slNil⟩
 have ex:a.eval x=.slice none 0 0:=by
  have:=Qd he hx
  cases hq:a.eval x<;>rw [hq] at this<;>cases this;rfl
 refine ⟨.slice none 0 0,?_,.slNil⟩
 have hb:=Q3k (P:=P) w true 0 0 l h (lo.map a.eval) (hi.map a.eval) hl hn (Q8o he h2) (Q8o he h1)
 have hh:h=0:=by omega
 have hl0:l=0:=by omega
 have hrun:(Instr.slice t (.slice none 0 0) (lo.map a.eval) (hi.map a.eval) none).run P w=.ok (.slice none 0 0) w:=by
  simp only [Instr.slice,Sem.run_bind,run_underlying hu,Result.andThen_ok,hb]
  simp [sizeOf,typeInfo,hi',hh,hl0]
 simp only [execOp,ho,ex,Sem.run_bind,Q7h hu,Option.map_none,hrun,Result.andThen_ok,Sem.run_pure]
theorem Qly {t e:TypeId} {x:Operand} {lo hi:Option Operand} {p:Addr} {n c l h:Nat} {i:TypeInfo} (ho:o.op=.slice t x lo hi none) (hx:ev env x=some (.slice (some p) n c)) (hu:P.underlying t=some (.slice e)) (hi':P.info? e=some i)
  (h1:(hi=none∧h=n)∨∃ y,hi=some y∧ev env y=some (.int .i64 (h:Int))) (h2:(lo=none∧l=0)∨∃ y,lo=some y∧ev env y=some (.int .i64 (l:Int))) (hl:l≤h) (hn:h≤n) (hc:c=i.size) :
  PureF P nt o env (.slice (some ⟨p.block,p.off+l*i.size,none⟩) (h - l) c):=by
 subst hc
 refine ⟨fun ι D a w he=>?_,fun D h=>.sl _ _ _ (Q5o h hx).sl_inv⟩
 have hv:=Qd he hx
 have key:∀ (q:Addr) (cap:Nat),a.eval x=.slice (some q) n cap→h≤cap→(execOp a.eval o).run P w=.ok (.value (.slice (some (if cap=l then q else q.add (l*i.size))) (h - l) (cap - l))) w:=by
  intro q cap ex hcap
  have hb:=Q3k (P:=P) w true n cap l h (lo.map a.eval) (hi.map a.eval) hl hcap (Q8o he h2) (Q8o he h1)
  have hrun:(Instr.slice t (.slice (some q) n cap) (lo.map a.eval) (hi.map a.eval) none).run P w=.ok (.slice (some (if cap=l then q else q.add (l*i.size))) (h - l) (cap - l)) w:=by
   simp only [Instr.slice,Sem.run_bind,run_underlying hu,Result.andThen_ok,hb]
   simp [sizeOf,typeInfo,hi']
   split<;>rfl
  simp only [execOp,ho,ex,Sem.run_bind,Q7h hu,Option.map_none,hrun,Result.andThen_ok,Sem.run_pure]
 generalize hq:a.eval x=q at hv
 cases hv with
 | slGo _ _ _ cap hD hlc hcap =>
  refine ⟨_,key _ cap hq (by omega),?_⟩
  by_cases e:cap=l
  ·rw [if_pos e]
   have e1:h - l=0:=by omega
   have e2:cap - l=0:=by omega
   rw [e1,e2];exact .slEmpty _ _ _ hD
  ·rw [if_neg e]
   have ha:(ι.addr p).add (l*i.size)=ι.addr ⟨p.block,p.off+l*i.size,none⟩:=by
    rw [Q80];simp only [Io.addr,Nat.add_assoc]
   rw [ha]
   refine .slGo ⟨p.block,p.off+l*i.size,none⟩ _ _ _ hD (by omega) ?_
   simp only
   have:(cap - l)*i.size+l*i.size=cap*i.size:=by rw [← Nat.add_mul];congr 1;omega
   omega
 | slEmpty _ b _ hD =>
  refine ⟨_,key _ 0 hq (by omega),?_⟩
  have e1:l=0:=by omega
  subst e1
  rw [if_pos rfl]
  have e2:h - 0=0:=by omega
  rw [e2];exact .slEmpty _ _ _ hD
theorem Qdw {t:TypeId} {x:Operand} {lo hi:Option Operand} {s:ByteArray} {l h:Nat} (ho:o.op=.slice t x lo hi none) (hx:ev env x=some (.string s)) (hu:P.underlying t=some .string)
  (h1:(hi=none∧h=s.size)∨∃ y,hi=some y∧ev env y=some (.int .i64 (h:Int))) (h2:(lo=none∧l=0)∨∃ y,lo=some y∧ev env y=some (.int .i64 (l:Int))) (hl:l≤h) (hn:h≤s.size) :
  PureF P nt o env (.string (s.extract l h)):=by
 refine ⟨fun ι D a w he=>⟨_,?_,.str _⟩,fun D h=>.str _⟩
 have ex:=(Qd he hx).inv_str
 have hb:=Q3k (P:=P) w false s.size s.size l h (lo.map a.eval) (hi.map a.eval) hl hn (Q8o he h2) (Q8o he h1)
 have hrun:(Instr.slice t (.string s) (lo.map a.eval) (hi.map a.eval) none).run P w=.ok (.string (s.extract l h)) w:=by
  simp only [Instr.slice,Sem.run_bind,run_underlying hu,Result.andThen_ok,Option.isSome_none,Bool.false_eq_true,if_false,Sem.run_pure,hb]
 simp only [execOp,ho,ex,Sem.run_bind,Qce hu,Option.map_none,hrun,Result.andThen_ok,Sem.run_pure]
theorem Qfx {src dst:TypeId} {x:Operand} {k0 k k':IntKind} {n:Int} (ho:o.op=.convert src dst x) (hx:ev env x=some (.int k' n)) (h1:P.underlying src=some (.int k0)) (h2:P.underlying dst=some (.int k)):PureF P nt o env (.int k (k.wrap n)):=by
 refine ⟨fun ι D a w he=>⟨_,?_,.int _ _⟩,fun D h=>.int _ _⟩
 simp [execOp,ho,(Qd he hx).inv_int,convert,run_underlying h1,run_underlying h2,Conv.intToInt]
theorem Qfy {src dst:TypeId} {x:Operand} {s:ByteArray} (ho:o.op=.convert src dst x) (hx:ev env x=some (.string s)) (h1:P.underlying src=some .string) (h2:P.underlying dst=some .string):PureF P nt o env (.string s):=by
 refine ⟨fun ι D a w he=>⟨_,?_,.str _⟩,fun D h=>.str _⟩
 simp [execOp,ho,(Qd he hx).inv_str,convert,run_underlying h1,run_underlying h2]
theorem Q1r {c:Call} {b:Builtin} (ho:o.op=.call c) (hb:c.callee=.builtin b) (ρ:Operand→Value) (w:World) :
  ∃ consts,(execOp ρ o).run P w=(builtin b c.argTypes o.type consts (c.args.map ρ)).run P w:=by
 simp only [execOp,ho,resolve,hb,invoke,Sem.run_bind,Sem.run_pure,Result.andThen_ok]
 exact ⟨_,rfl⟩
theorem Qdx {c:Call} {v:Value} (h:evs env c.args.toList=some [v]):∃ x,c.args = #[x]∧ev env x=some v:=by
 generalize c.args=A at h ⊢
 obtain ⟨args⟩:=A
 match args,h with
 | [],h=>simp [evs] at h
 | [x],h =>
  simp only [evs] at h
  obtain ⟨u,hu,h⟩:=Q2 h
  simp [Q1] at h
  exact ⟨x,rfl,h▸hu⟩
 | x::y::r,h =>
  simp only [evs] at h
  obtain ⟨u,hu,h⟩:=Q2 h
  obtain ⟨l,hl,h⟩:=Q2 h
  obtain ⟨u',hu',hl⟩:=Q2 hl
  obtain ⟨l',hl',hl⟩:=Q2 hl
  simp at h hl
  rw [← hl] at h
  simp at h
theorem Q65 {c:Call} {v v':Value} (h:evs env c.args.toList=some [v,v']):∃ x y,c.args = #[x,y]∧ev env x=some v∧ev env y=some v':=by
 generalize c.args=A at h ⊢
 obtain ⟨args⟩:=A
 match args,h with
 | [],h=>simp [evs] at h
 | x::r,h =>
  simp only [evs] at h
  obtain ⟨u,hu,h⟩:=Q2 h
  obtain ⟨l,hl,h⟩:=Q2 h
  simp at h
  obtain ⟨h1,h2⟩:=h
  subst h1
  match r,hl with
  | [],hl=>simp [evs] at hl;rw [← hl] at h2;simp at h2
  | [y],hl =>
   simp only [evs] at hl
   obtain ⟨u',hu',hl⟩:=Q2 hl
   simp [Q1] at hl
   rw [← hl] at h2
   simp at h2
   exact ⟨x,y,rfl,hu,h2▸hu'⟩
  | y::z::q,hl =>
   simp only [evs] at hl
   obtain ⟨u',hu',hl⟩:=Q2 hl
   obtain ⟨l',hl',hl⟩:=Q2 hl
   obtain ⟨u2,hu2,hl'⟩:=Q2 hl'
   obtain ⟨l2,hl2,hl'⟩:=Q2 hl'
   simp at hl hl'
   rw [← hl,← hl'] at h2
   simp at h2
theorem Qam {c:Call} {t:TypeId} (h:c.argTypes.toList=[t]):c.argTypes = #[t]:=by
 generalize c.argTypes=A at h ⊢;obtain ⟨l⟩:=A;simp at h;rw [h]
theorem Q7i {c:Call} {t u:TypeId} (h:c.argTypes.toList=[t,u]):c.argTypes = #[t,u]:=by
 generalize c.argTypes=A at h ⊢;obtain ⟨l⟩:=A;simp at h;rw [h]
theorem Qlz {c:Call} {t e:TypeId} {a:Option Addr} {n m:Nat} (ho:o.op=.call c) (hb:c.callee=.builtin .len) (ht:c.argTypes.toList=[t]) (hv:evs env c.args.toList=some [.slice a n m]) (hu:P.underlying t=some (.slice e)) :
  PureF P nt o env (.int .i64 n):=by
 refine ⟨fun ι D act w he=>⟨_,?_,.int _ _⟩,fun D h=>.int _ _⟩
 obtain ⟨x,hx,hev⟩:=Qdx hv
 obtain ⟨a',cap,e',_,_⟩:=(Qd he hev).inv_sl
 obtain ⟨cs,hcs⟩:=Q1r (P:=P) ho hb act.eval w
 rw [hcs,Qam ht,hx]
 simp [builtin,Builtin.len_,e',run_underlying hu,goInt]
theorem Qiu {c:Call} {t e:TypeId} (ho:o.op=.call c) (hb:c.callee=.builtin .cap) (ht:c.argTypes.toList=[t]) (hv:evs env c.args.toList=some [.slice none 0 0]) (hu:P.underlying t=some (.slice e)) :
  PureF P nt o env (.int .i64 0):=by
 refine ⟨fun ι D act w he=>⟨_,?_,.int _ _⟩,fun D h=>.int _ _⟩
 obtain ⟨x,hx,hev⟩:=Qdx hv
 have e':act.eval x=.slice none 0 0:=by
  have:=Qd he hev
  cases hq:act.eval x<;>rw [hq] at this<;>cases this;rfl
 obtain ⟨cs,hcs⟩:=Q1r (P:=P) ho hb act.eval w
 rw [hcs,Qam ht,hx]
 simp [builtin,Builtin.cap_,e',run_underlying hu,goInt]
theorem Qiv {c:Call} {t:TypeId} {s:ByteArray} (ho:o.op=.call c) (hb:c.callee=.builtin .len) (ht:c.argTypes.toList=[t]) (hv:evs env c.args.toList=some [.string s]) (hu:P.underlying t=some .string) :
  PureF P nt o env (.int .i64 s.size):=by
 refine ⟨fun ι D act w he=>⟨_,?_,.int _ _⟩,fun D h=>.int _ _⟩
 obtain ⟨x,hx,hev⟩:=Qdx hv
 obtain ⟨cs,hcs⟩:=Q1r (P:=P) ho hb act.eval w
 rw [hcs,Qam ht,hx]
 simp [builtin,Builtin.len_,(Qd he hev).inv_str,run_underlying hu,goInt]
theorem Qr9 {c:Call} {k k':IntKind} {x y:Int} (ho:o.op=.call c) (hb:c.callee=.builtin .min) (hv:evs env c.args.toList=some [.int k x,.int k' y]):PureF P nt o env (.int k (if y < x then y else x)):=by
 refine ⟨fun ι D act w he=>⟨_,?_,.int _ _⟩,fun D h=>.int _ _⟩
 obtain ⟨p,q,hx,h1,h2⟩:=Q65 hv
 obtain ⟨cs,hcs⟩:=Q1r (P:=P) ho hb act.eval w
 rw [hcs,hx]
 simp [builtin,(Qd he h1).inv_int,(Qd he h2).inv_int,run_min_int2]
theorem Qra {c:Call} {k k':IntKind} {x y:Int} (ho:o.op=.call c) (hb:c.callee=.builtin .max) (hv:evs env c.args.toList=some [.int k x,.int k' y]):PureF P nt o env (.int k (if y > x then y else x)):=by
 refine ⟨fun ι D act w he=>⟨_,?_,.int _ _⟩,fun D h=>.int _ _⟩
 obtain ⟨p,q,hx,h1,h2⟩:=Q65 hv
 obtain ⟨cs,hcs⟩:=Q1r (P:=P) ho hb act.eval w
 rw [hcs,hx]
 simp [builtin,(Qd he h1).inv_int,(Qd he h2).inv_int,run_max_int2]
def PRel (ι:Io) (D:Nat→Prop):List (Nat×Value)→List (Nat×Value)→Prop
 | [],[]=>True
 | x::r,y::q=>x.1=y.1∧VRel ι D x.2 y.2∧PRel ι D r q
 | _,_=>False
theorem Q70 {ι:Io} {D:Nat→Prop} {a:Act} (he:ERel ι D nt env a):∀ {xs:List (Nat×Operand)} {ps:List (Nat×Value)},Q1n env xs=some ps→PRel ι D ps (xs.map fun (i,x)=>(i,a.eval x))
 | [],ps,h=>by simp [Q1n] at h;subst h;trivial
 | (i,x)::r,ps,h=>by
  simp only [Q1n] at h
  obtain ⟨v,hv,h⟩:=Q2 h
  obtain ⟨l,hl,h⟩:=Q2 h
  simp at h;subst h
  exact ⟨rfl,Qd he hv,Q70 he hl⟩
theorem Q8p {D:Nat→Prop} (he:Q0o D env):∀ {xs:List (Nat×Operand)} {ps:List (Nat×Value)},Q1n env xs=some ps→∀ p∈ps,VLt D p.2
 | [],ps,h=>by simp [Q1n] at h;subst h;simp
 | (i,x)::r,ps,h=>by
  simp only [Q1n] at h
  obtain ⟨v,hv,h⟩:=Q2 h
  obtain ⟨l,hl,h⟩:=Q2 h
  simp at h;subst h
  intro p hp
  rcases Z2 hp with rfl | hp
  ·exact Q5o he hv
  ·exact Q8p he hl p hp
theorem VRel.cells {ι:Io} {D:Nat→Prop} {v c:Value} (h:VRel ι D v c):Q07 ι D v.cells.toList c.cells.toList:=by
 cases hv:Ev.isCell v with
 | true =>
  have hc:=h.isCell
  have e1:v.cells = #[v]:=by cases v<;>first | rfl | simp [Ev.isCell] at hv
  have e2:c.cells = #[c]:=by rw [hv] at hc;cases c<;>first | rfl | simp [Ev.isCell] at hc
  rw [e1,e2];exact Q07.cons h (Q07.nil ι D)
 | false =>
  cases h<;>first | (simp [Ev.isCell] at hv;done) | skip
  case agg xs ys hl h=>exact ⟨hl,h⟩
  case tuple xs ys hl h=>exact Q07.cons (.tuple xs ys hl h) (Q07.nil ι D)
theorem VLt.cells {D:Nat→Prop} {v:Value} (h:VLt D v):LLt D v.cells.toList:=by
 cases v
 case agg xs=>exact h.agg_mem
 all_goals
  intro u hu
  simp [Value.cells] at hu
  subst hu;exact h
theorem Q07.set {ι:Io} {D:Nat→Prop} {xs ys:Array Value} (h:Q07 ι D xs.toList ys.toList) {v c:Value} (hv:VRel ι D v c) (i:Nat):Q07 ι D (xs.setIfInBounds i v).toList (ys.setIfInBounds i c).toList:=by
 simp only [Array.toList_setIfInBounds]
 refine ⟨by simp [h.1],fun j h1 h2=>?_⟩
 simp only [List.getElem_set]
 split
 ·exact hv
 ·exact h.2 j _ _
theorem Qfz {ι:Io} {D:Nat→Prop} (off:Nat):∀ (l l':List Value) (n:Nat) (A A':Array Value),Q07 ι D l l'→Q07 ι D A.toList A'.toList →
  Q07 ι D ((l.zipIdx n).foldl (fun cs (c,j)=>cs.setIfInBounds (off+j) c) A).toList ((l'.zipIdx n).foldl (fun cs (c,j)=>cs.setIfInBounds (off+j) c) A').toList
 | [],[],n,A,A',_,hA=>by simpa using hA
 | [],_::_,_,_,_,h,_=>absurd h.1 (by simp)
 | _::_,[],_,_,_,h,_=>absurd h.1 (by simp)
 | v::l,c::l',n,A,A',h,hA=>by
  simp only [List.zipIdx_cons,List.foldl_cons]
  exact Qfz off l l' (n+1) _ _ h.tail (hA.set h.head _)
theorem Qdy {ι:Io} {D:Nat→Prop} (place:Nat→Option (Nat×Nat)):∀ (ps qs:List (Nat×Value)) (A A' cs:Array Value),PRel ι D ps qs→Q07 ι D A.toList A'.toList→Instr.fill place A ps=some cs→∃ cs',Instr.fill place A' qs=some cs'∧Q07 ι D cs.toList cs'.toList
 | [],[],A,A',cs,_,hA,h=>by simp [Instr.fill] at h;subst h;exact ⟨A',rfl,hA⟩
 | [],_::_,_,_,_,h,_,_=>h.elim
 | _::_,[],_,_,_,h,_,_=>h.elim
 | (i,v)::ps,(j,c)::qs,A,A',cs,⟨e,hv,hp⟩,hA,h=>by
  simp only at e hv
  subst e
  simp only [Instr.fill] at h ⊢
  cases hpl:place i with
  | none=>rw [hpl] at h;simp at h
  | some os =>
   obtain ⟨off,size⟩:=os
   rw [hpl] at h
   simp only at h ⊢
   have hcs:c.cells.size=v.cells.size:=by have:=hv.cells.1;simpa using this.symm
   have hAs:A'.size=A.size:=by have:=hA.1;simpa using this.symm
   rw [hcs,hAs]
   split at h
   ·simp at h
   ·rename_i hn
    rw [if_neg hn]
    refine Qdy place ps qs _ _ cs hp ?_ h
    have:=Qfz (ι:=ι) (D:=D) off v.cells.toList c.cells.toList 0 A A' hv.cells hA
    rw [← Array.foldl_toList,← Array.foldl_toList]
    simpa using this
theorem Qkg {D:Nat→Prop} (off:Nat):∀ (l:List Value) (n:Nat) (A:Array Value),LLt D l→LLt D A.toList→LLt D ((l.zipIdx n).foldl (fun cs (c,j)=>cs.setIfInBounds (off+j) c) A).toList
 | [],n,A,_,hA=>by simpa using hA
 | v::l,n,A,h,hA=>by
  simp only [List.zipIdx_cons,List.foldl_cons]
  refine Qkg off l (n+1) _ (fun u hu=>h u (List.mem_cons_of_mem _ hu)) ?_
  intro u hu
  simp only [Array.toList_setIfInBounds] at hu
  rcases List.mem_or_eq_of_mem_set hu with hu | rfl
  ·exact hA u hu
  ·exact h _ (List.mem_cons_self ..)
theorem Qiw {D:Nat→Prop} (place:Nat→Option (Nat×Nat)):∀ (ps:List (Nat×Value)) (A cs:Array Value),(∀ p∈ps,VLt D p.2)→LLt D A.toList→Instr.fill place A ps=some cs→LLt D cs.toList
 | [],A,cs,_,hA,h=>by simp [Instr.fill] at h;subst h;exact hA
 | (i,v)::ps,A,cs,hp,hA,h=>by
  simp only [Instr.fill] at h
  cases hpl:place i with
  | none=>rw [hpl] at h;simp at h
  | some os =>
   obtain ⟨off,size⟩:=os
   rw [hpl] at h
   simp only at h
   split at h
   ·simp at h
   ·refine Qiw place ps _ cs (fun p h=>hp p (List.mem_cons_of_mem _ h)) ?_ h
    have:=Qkg (D:=D) off v.cells.toList 0 A (hp _ (List.mem_cons_self ..)).cells hA
    rw [← Array.foldl_toList]
    simpa using this
theorem Qm0 {t:TypeId} {ps:List (Nat×Value)} {cs:Array Value} (h:P.built t ps=some cs):∃ z place,Q6s P t=some z∧(∀ qs,P.built t qs=Instr.fill place z.cells qs):=by
 unfold Program.built at h
 cases hit:P.info? t with
 | none=>simp [hit] at h
 | some it =>
  cases hu:P.underlying t with
  | none=>simp [hit,hu] at h
  | some d =>
   cases hz:it.zero with
   | none=>cases d<;>simp [hit,hu,hz] at h
   | some z =>
    have hzo:Q6s P t=some z:=by simp [Q6s,hit,Q1,hz]
    cases d<;>try (simp [hit,hu] at h;done)
    case array n e =>
     cases hie:P.info? e with
     | none=>simp [hit,hu,hz,hie] at h
     | some ie=>exact ⟨z,fun i=>some (i*ie.size,ie.size),hzo,fun qs=>by simp only [Program.built,hit,hu,hz,hie]⟩
    case struct fields =>
     cases hp:fields.toList.mapM (fun f=>(P.info? f.type).map fun i=>(f.offset,i.size)) with
     | none=>simp [hit,hu,hz,hp] at h
     | some places=>exact ⟨z,fun x=>places.toArray[x]?,hzo,fun qs=>by simp only [Program.built,hit,hu,hz,hp]⟩
theorem Qm1 {t:TypeId} {parts:Array (Nat×Operand)} {ps:List (Nat×Value)} {cs:Array Value} (ho:o.op=.build t parts) (hp:Q1n env parts.toList=some ps) (hf:Qjn P t ps=some cs):PureF P nt o env (.agg cs):=by
 unfold Qjn at hf
 obtain ⟨z,hz,hf⟩:=Q2 hf
 split at hf
 ·rename_i hleaf
  obtain ⟨z',place,hz',hb⟩:=Qm0 hf
  rw [hz] at hz';simp at hz';subst hz'
  refine ⟨fun ι D a w he=>?_,fun D he=>?_⟩
  ·rw [hb] at hf
   obtain ⟨cs',h1,h2⟩:=Qdy place _ _ _ _ cs (Q70 he hp) (Q07.refl_leaf hleaf ι D) hf
   refine ⟨.agg cs',?_,h2.mkAgg⟩
   have hrun:=run_build (P:=P) w t (parts.map fun (i,x)=>(i,a.eval x)) cs' (by rw [hb,← h1];congr 1;simp)
   simp only [execOp,ho,Sem.run_bind,hrun,Result.andThen_ok,Sem.run_pure]
  ·rw [hb] at hf
   exact VLt.mkAgg (Qiw place _ _ cs (Q8p he hp) (fun v hv=>Q0v (Z3 hleaf v hv) D) hf)
 ·simp at hf
end
structure ReadF (P:Program) (nt:Nat) (o:Oper) (env:Env) (H:Heap) (raw v:Value):Prop where
 rd:Q31 P o.op env H=some raw
 run:∀ (ι:Io) (D:Nat→Prop) (a:Act) (w:World) (G:Heap),Q31 P o.op env G=some raw→Rel ι D G w→ERel ι D nt env a→∃ c,(execOp a.eval o).run P w=.ok (.value c) w∧VRel ι D v c
 lt:Q0o (Bel H.length) env→Ql H.length H→VLt (Bel H.length) v
structure AllocF (P:Program) (nt:Nat) (o:Oper) (env:Env) (vs:List Value) (mk:Nat→Value):Prop where
 cells:∀ v∈vs,isCell v=true
 run:∀ (ι:Io) (D:Nat→Prop) (a:Act) (w:World),ERel ι D nt env a→∃ (cs rest:List Value) (ety:TypeId) (fz:Nat×Nat) (w0:World) (c:Value),Q07 ι D vs cs∧Qjq fz (cs++rest).length∧w0.heap=w.heap∧w0.os=w.os∧w0.tape=w.tape∧w0.output=w.output ∧
  (execOp a.eval o).run P w=.ok (.value c) (w0.alloc (.cells (cs++rest).toArray ety fz))∧∀ id,VRel (ι.set id ⟨w.heap.size,0,(cs++rest).length⟩) (fun b=>D b∨b=id) (mk id) c
 lt:∀ D:Nat→Prop,Q0o D env→LLt D vs
 ltv:∀ (D:Nat→Prop) id,D id→VLt D (mk id)
 blk:∀ id,Qd3 (mk id)=some id
section
variable {P:Program} {nt:Nat} {o:Oper} {env:Env} {H:Heap} {X:Cx} {β:Type} {K:Value→Heap→Option β} {r:β}
theorem Q7j {a:Addr} {n:Nat} {l:List Value} (h:Qx H a n=some l) (hc:Ql H.length H):LLt (Bel H.length) l:=by
 obtain ⟨k,hk,h⟩:=Q2 h
 split at h
 ·simp at h;subst h
  intro v hv
  exact hc _ (Qs hk) k hk v (List.mem_of_mem_drop (List.mem_of_mem_take hv))
 ·simp at h
theorem Qg0 {a:Addr} {n:Nat} {l:List Value} (h:Q0m H a n=some l) (hc:Ql H.length H):LLt (Bel H.length) l:=by
 cases n with
 | zero=>simp only [Q0m,Option.some.injEq] at h;subst h;intro v hv;simp at hv
 | succ m=>exact Q7j h hc
theorem Qkh {a:Addr} {v:Value} (h:Q2f H a=some v) (hc:Ql H.length H):VLt (Bel H.length) v:=by
 obtain ⟨k,hk,h⟩:=Q2 h
 exact hc _ (Qs hk) k hk v (Zc h)
theorem Qix {t:TypeId} {x:Operand} {v:Value} (ho:o.op=.load t x) (hg:Qci P t x=some v):ReadF P nt o env H v v:=by
 obtain ⟨g,l,i,n,e,rfl,hl,hi,hu,h1,h2,rfl⟩:=Qd2 hg
 refine ⟨by simp only [Q31,ho,hg],fun ι D a w G _ hR _=>⟨.agg l.toArray,?_,Q07.mkAgg (Q07.refl_leaf h2 ι D)⟩,fun _ _=>VLt.mkAgg fun v hv=>Q0v (Z3 h2 v hv) _⟩
 have hrun:=run_loadCells_list (P:=P) w (⟨g,0,none⟩:Addr) l (fun j v hv=>hR.gw.cells hl j v hv)
 have hagg:(isAgg t).run P w=.ok true w:=by simp [isAgg,run_underlying hu]
 have ex:a.eval (.global g)=.pointer (some ⟨g,0,none⟩):=rfl
 rw [h1] at hrun
 simp only [execOp,ho,ex,Instr.loadAt,Instr.sureAddr,loadVar,Sem.run_bind,Sem.run_pure,Result.andThen_ok,hagg,if_true,sizeOf,typeInfo,run_program,hi,hrun]
theorem Q7k {t:TypeId} {x:Operand} {p:Addr} {i:TypeInfo} {l:List Value} {d:TypeDesc} (ho:o.op=.load t x) (hx:ev env x=some (.pointer (some p))) (hi:P.info? t=some i) (hu:P.underlying t=some d)
  (hd:(∃ fs,d=.struct fs)∨∃ n e,d=.array n e) (hl:Qx H p i.size=some l):ReadF P nt o env H (.agg l.toArray) (.agg l.toArray):=by
 have hrd:∀ G:Heap,Q31 P o.op env G=Q1 (Qx G p i.size) fun l=>some (.agg l.toArray):=by
  intro G
  rcases hd with ⟨fs,rfl⟩ | ⟨n,e,rfl⟩<;>simp only [Q31,ho,Q7y hx,hx,Q1,Q5c,hi,hu]
 refine ⟨by rw [hrd,hl];rfl,fun ι D a w G hG hR he=>?_,fun he hc=>VLt.mkAgg (Q7j hl hc)⟩
 rw [hrd] at hG
 obtain ⟨l',hl',e⟩:=Q2 hG
 simp at e;subst e
 obtain ⟨cs,h1,h2,h3,h4⟩:=hR.loadN hl'
 have hrun:=run_loadCells_list (P:=P) w (ι.addr p) cs h3
 refine ⟨.agg cs.toArray,?_,Q07.mkAgg h2⟩
 have ex:=(Qd he hx).inv_ptr.1
 have hagg:(isAgg t).run P w=.ok true w:=by
  rcases hd with ⟨fs,rfl⟩ | ⟨n,e,rfl⟩<;>simp [isAgg,run_underlying hu]
 rw [h1] at hrun
 simp only [execOp,ho,ex,Instr.loadAt,Instr.sureAddr,loadVar,Sem.run_bind,Sem.run_pure,Result.andThen_ok,hagg,if_true,sizeOf,typeInfo,run_program,hi,hrun]
theorem Qnu {t:TypeId} {x:Operand} {p:Addr} {i:TypeInfo} {u:Value} {d:TypeDesc} (ho:o.op=.load t x) (hx:ev env x=some (.pointer (some p))) (hi:P.info? t=some i) (hu:P.underlying t=some d)
  (hd:(∀ fs,d≠.struct fs)∧∀ n e,d≠.array n e) (hl:Q2f H p=some u):ReadF P nt o env H u u:=by
 have hrd:∀ G:Heap,Q31 P o.op env G=Q2f G p:=by
  intro G
  simp only [Q31,ho,Q7y hx,hx,Q1,Q5c,hi,hu]
  cases d<;>first | rfl | exact absurd rfl (hd.1 _) | exact absurd rfl (hd.2 _ _)
 refine ⟨by rw [hrd,hl],fun ι D a w G hG hR he=>?_,fun he hc=>Qkh hl hc⟩
 rw [hrd] at hG
 obtain ⟨c,h1,h2,h3⟩:=hR.load hG
 refine ⟨c,?_,h2⟩
 have ex:=(Qd he hx).inv_ptr.1
 have hagg:(isAgg t).run P w=.ok false w:=by
  simp only [isAgg,Sem.run_bind,run_underlying hu,Result.andThen_ok]
  cases d<;>first | rfl | exact absurd rfl (hd.1 _) | exact absurd rfl (hd.2 _ _)
 simp only [execOp,ho,ex,Instr.loadAt,Instr.sureAddr,loadVar,Sem.run_bind,Sem.run_pure,Result.andThen_ok,hagg,Bool.false_eq_true,if_false,run_load,h1]
theorem Q2r {ι:Io} {D:Nat→Prop} {w:World} (hR:Rel ι D H w) {size:Nat} {a:Option Addr} {n m:Nat} {l:List Value} (hl:Qf H size (.slice a n m)=some l) {c:Value} (hc:VRel ι D (.slice a n m) c) :
  ∃ cs:List Value,cs.length=n*size∧Q07 ι D l cs∧(∀ v∈l,isCell v=true)∧(Builtin.firstCells size n c).run P w=.ok cs.toArray w∧∃ a' cap,c=.slice a' n cap∧(a'=none→n=0):=by
 unfold Qf at hl
 split at hl
 ·rename_i h;simp at h;obtain ⟨rfl,rfl,rfl⟩:=h
  simp at hl;subst hl
  cases hc
  exact ⟨[],by simp,Q07.nil ι D,by simp,by simp [Builtin.firstCells],none,0,rfl,fun _=>rfl⟩
 ·rename_i p n' m' h;simp at h;obtain ⟨rfl,rfl,rfl⟩:=h
  obtain ⟨cs,h1,h2,h3,h4⟩:=hR.load0 hl
  cases hc with
  | slGo _ _ _ cap hD hlc hcap =>
   have hrun:=run_loadCells_list (P:=P) w (ι.addr p) cs h3
   rw [h1] at hrun
   exact ⟨cs,h1,h2,h4,by simp only [Builtin.firstCells];exact hrun,_,cap,rfl,by simp⟩
  | slEmpty _ b _ hD =>
   have e:cs=[]:=Z1 (by simpa using h1)
   subst e
   exact ⟨[],by simp,h2,h4,by simp [Builtin.firstCells,loadCells,loadCellsFrom],_,0,rfl,by simp⟩
 ·simp at hl
theorem Qdz {size:Nat} {v:Value} {l:List Value} (hl:Qf H size v=some l) (hc:Ql H.length H):LLt (Bel H.length) l:=by
 unfold Qf at hl
 split at hl
 ·simp at hl;subst hl;intro v hv;simp at hv
 ·exact Qg0 hl hc
 ·simp at hl
theorem Q9i:∀ {l:List Value} {bs:List UInt8},Q5l l=some bs→∃ ns:List Int,l=ns.map (Value.int .u8)∧bs=ns.map fun n=>UInt8.ofNat n.toNat
 | [],bs,h=>by simp [Q5l] at h;subst h;exact ⟨[],rfl,rfl⟩
 | c::cs,bs,h=>by
  unfold Q5l at h
  split at h
  ·simp at *
  ·rename_i n r heq
   simp at heq
   obtain ⟨rfl,rfl⟩:=heq
   obtain ⟨l,hl,h⟩:=Q2 h
   simp at h;subst h
   obtain ⟨ns,e1,e2⟩:=Q9i hl
   exact ⟨n::ns,by simp [e1],by simp [e2]⟩
  ·simp at h
theorem Qm2 (ns:List Int):∀ s:ByteArray,ns.foldl (fun r n=>r.push (UInt8.ofNat n.toNat)) s=⟨(s.data.toList++ns.map fun n=>UInt8.ofNat n.toNat).toArray⟩:=by
 induction ns with
 | nil=>intro s;simp
 | cons n ns ih =>
  intro s
  rw [List.foldl_cons,ih]
  simp [ByteArray.push]
theorem Qki {ι:Io} {D:Nat→Prop}:∀ {ns:List Int} {cs:List Value},Q07 ι D (ns.map (Value.int .u8)) cs→cs=ns.map (Value.int .u8)
 | [],cs,h=>by
  have:=h.1;simp at this;exact Z1 this.symm
 | n::ns,[],h=>absurd h.1 (by simp)
 | n::ns,c::cs,h=>by
  rw [h.head.inv_int,Qki (ns:=ns) h.tail];rfl
theorem Qcf {src dst e:TypeId} {x:Operand} {a:Option Addr} {n m:Nat} {l:List Value} {bs:List UInt8} (ho:o.op=.convert src dst x) (hx:ev env x=some (.slice a n m)) (h1:P.underlying src=some (.slice e)) (h2:P.underlying dst=some .string)
  (h3:P.underlying e=some (.int .u8)) (hl:Qf H 1 (.slice a n m)=some l) (hb:Q5l l=some bs):ReadF P nt o env H (.agg l.toArray) (.string ⟨bs.toArray⟩):=by
 have hrd:∀ G:Heap,Q31 P o.op env G=Q1 (Qf G 1 (.slice a n m)) fun l=>some (.agg l.toArray):=by
  intro G;simp only [Q31,ho,hx,Q1]
 refine ⟨by rw [hrd,hl];rfl,fun ι D act w G hG hR he=>⟨.string ⟨bs.toArray⟩,?_,.str _⟩,fun _ _=>.str _⟩
 rw [hrd] at hG
 obtain ⟨l',hl',e'⟩:=Q2 hG
 simp at e';subst e'
 obtain ⟨ns,e1,e2⟩:=Q9i hb
 obtain ⟨cs,g1,g2,g3,g4,a',cap,g5,g6⟩:=Q2r (P:=P) hR hl' (Qd he hx)
 rw [e1] at g2
 have hcs:=Qki g2
 subst hcs
 have hrun:(Conv.bytesToString (.slice a' n cap)).run P w=.ok (.string ⟨bs.toArray⟩) w:=by
  cases a' with
  | none =>
   have hn:=g6 rfl
   subst hn
   have:ns=[]:=by simpa using g1
   subst this
   simp at e2;subst e2
   rfl
  | some q =>
   rw [g5] at g4
   simp only [Builtin.firstCells,Nat.mul_one] at g4
   rw [run_bytesToString w q n cap ns g4,Qm2,e2]
   rfl
 simp only [execOp,ho,g5,Sem.run_bind,run_convert_bytes_string w src dst e a' n cap h1 h3 h2,hrun,Result.andThen_ok,Sem.run_pure]
theorem Qnv {ι:Io} {D:Nat→Prop} {k sz:Nat} (id:Nat):VRel (ι.set id ⟨k,0,sz⟩) (fun b=>D b∨b=id) (.pointer (some ⟨id,0,none⟩)) (.pointer (some ⟨k,0,none⟩)):=by
 have:=VRel.ptr (ι:=ι.set id ⟨k,0,sz⟩) (D:=fun b=>D b∨b=id) ⟨id,0,none⟩ (.inr rfl)
 simp only [Io.addr,Io.set_same] at this
 exact this
theorem Qg1 {ι:Io} {D:Nat→Prop} {k sz n c cap:Nat} (id:Nat) (hl:n≤cap) (hc:cap*c≤sz):VRel (ι.set id ⟨k,0,sz⟩) (fun b=>D b∨b=id) (.slice (some ⟨id,0,none⟩) n c) (.slice (some ⟨k,0,none⟩) n cap):=by
 have:=VRel.slGo (ι:=ι.set id ⟨k,0,sz⟩) (D:=fun b=>D b∨b=id) ⟨id,0,none⟩ n c cap (.inr rfl) hl (by simp only [Io.set_same];omega)
 simp only [Io.addr,Io.set_same] at this
 exact this
theorem Qiy {t:TypeId} {z:Value} (ho:o.op=.alloc t) (hz:Q6s P t=some z) (hl:z.cells.toList.all Qt=true):AllocF P nt o env z.cells.toList fun id=>.pointer (some ⟨id,0,none⟩):=by
 refine ⟨fun v hv=>Q1h (Z3 hl v hv),fun ι D a w he=>⟨z.cells.toList,[],t,(0,0),w,.pointer (some ⟨w.heap.size,0,none⟩),Q07.refl_leaf hl ι D,Qjq.zero _,rfl,rfl,rfl,rfl,?_,fun id=>Qnv id⟩,
  fun D _ v hv=>Q0v (Z3 hl v hv) D,fun D id h=>.ptr _ h,fun id=>rfl⟩
 obtain ⟨i,hi,hz'⟩:=Q2 hz
 simp only [execOp,ho,Instr.alloc,zeroValue,typeInfo,newVar,newRow,Sem.run_bind,run_program,Result.andThen_ok,hi,Sem.run_pure,hz',run_newObj,List.append_nil,Array.toArray_toList]
 rfl
theorem Qnw {t:TypeId} {x:Operand} {v:Value} (ho:o.op=.box t x) (hx:ev env x=some v) (hl:v.cells.toList.all isCell=true):AllocF P nt o env v.cells.toList fun id=>.pointer (some ⟨id,0,none⟩):=by
 refine ⟨fun u hu=>Z3 hl u hu,fun ι D a w he=>⟨(a.eval x).cells.toList,[],t,(0,0),w,.pointer (some ⟨w.heap.size,0,none⟩),(Qd he hx).cells,Qjq.zero _,rfl,rfl,rfl,rfl,?_,fun id=>Qnv id⟩,
  fun D he=>(Q5o he hx).cells,fun D id h=>.ptr _ h,fun id=>rfl⟩
 simp only [execOp,ho,Instr.box,newVar,newRow,Sem.run_bind,Result.andThen_ok,Sem.run_pure,run_newObj,List.append_nil,Array.toArray_toList]
 rfl
theorem range_add (a b:Nat):List.range (a+b)=List.range a++(List.range b).map (a + ·):=List.range_add
theorem Q7l (z:Array Value):∀ n:Nat,((Array.range (n*z.size)).map fun i=>z[i % z.size]!).toList=(List.replicate n z.toList).flatten:=by
 intro n
 simp only [Array.toList_map,Array.toList_range]
 induction n with
 | zero=>simp
 | succ n ih =>
  rw [List.replicate_succ,Ze,← ih,show (n+1)*z.size=z.size+n*z.size by rw [Nat.add_mul];omega,List.range_add,List.map_append,List.map_map]
  congr 1
  ·apply List.ext_getElem
   ·simp
   ·intro i h1 h2
    simp only [List.length_map,List.length_range] at h1
    simp [Nat.mod_eq_of_lt h1,getElem!_pos z i h1]
  ·apply List.map_congr_left
   intro i _
   simp
theorem Q26 {z:List Value} {p:Value→Bool} (h:z.all p=true) (n:Nat):(List.replicate n z).flatten.all p=true:=by
 rw [List.all_eq_true] at h ⊢
 intro v hv
 obtain ⟨l,hl,hv⟩:=List.mem_flatten.1 hv
 rw [(List.mem_replicate.1 hl).2] at hv
 exact h v hv
theorem Q2i {t e:TypeId} {size bytes:Nat} {z:Value} (h:Q1v P t=some (e,size,bytes,z)) :
  ∃ i,P.underlying t=some (.slice e)∧P.info? e=some i∧i.size=size∧i.bytes=bytes∧i.zero=some z∧z.cells.toList.all Qt=true∧z.cells.size=size∧1≤bytes:=by
 unfold Q1v at h
 split at h
 ·rename_i e' hu
  obtain ⟨i,hi,h⟩:=Q2 h
  obtain ⟨z',hz,h⟩:=Q2 h
  split at h
  ·rename_i g1 g2 g3
   simp at h
   obtain ⟨rfl,rfl,rfl,rfl⟩:=h
   exact ⟨i,hu,hi,rfl,rfl,hz,g1,Z7 g2,Zi g3⟩
  ·simp at h
 ·simp at h
theorem Qa0 {t e:TypeId} {len size bytes:Nat} {parts:Array (Nat×Operand)} {ps:List (Nat×Value)} {z:Value} {cs:Array Value} (ho:o.op=.buildSlice t len parts) (hp:Q1n env parts.toList=some ps) (he':Q1v P t=some (e,size,bytes,z))
  (h1:Nat.ble (len*size) 16777216=true) (hf:Instr.fill (fun i=>some (i*size,size)) ((List.replicate len z.cells.toList).flatten.toArray) ps=some cs) (hc:cs.toList.all isCell=true) (hlen:cs.size=len*size) :
  AllocF P nt o env cs.toList fun id=>.slice (some ⟨id,0,none⟩) len size:=by
 obtain ⟨i,hu,hi,rfl,rfl,hz,h2,h3,hb1⟩:=Q2i he'
 have h1:=Zi h1
 refine ⟨fun u hu=>Z3 hc u hu,fun ι D a w he=>?_,fun D he=>Qiw _ _ _ cs (Q8p he hp) (fun v hv=>Q0v (Z3 (Q26 h2 len) v (by simpa using hv)) D) hf,fun D id h=>.sl _ _ _ h,fun id=>rfl⟩
 obtain ⟨cs',g1,g2⟩:=Qdy (ι:=ι) (D:=D) _ _ _ _ ((List.replicate len z.cells.toList).flatten.toArray) cs (Q70 he hp) (Q07.refl_leaf (by simpa using Q26 h2 len) ι D) hf
 have hl':cs'.size=len*i.size:=by have:=g2.1;simp at this;omega
 refine ⟨cs'.toList,[],e,(0,0),w,.slice (some ⟨w.heap.size,0,none⟩) len len,g2,Qjq.zero _,rfl,rfl,rfl,rfl,?_,fun id=>Qg1 id (Zd _) (by simp;omega)⟩
 have hno:¬ (len*i.size > 2 ^ 24):=by omega
 have hparts:(parts.map fun (x:Nat×Operand)=>(x.fst,a.eval x.snd)).toList=parts.toList.map fun (i,x)=>(i,a.eval x):=by simp
 by_cases h0:len*i.size=0
 ·have hbase:((Array.range (len*i.size)).map ((#[]:Array Value)[· % (#[]:Array Value).size]!))=(List.replicate len z.cells.toList).flatten.toArray:=by
   apply Array.ext'
   have:=Q7l z.cells len
   rw [h3,h0] at this
   rw [← this,h0];simp
  simp only [execOp,ho,Instr.buildSlice,Sem.run_bind,run_underlying hu,Result.andThen_ok,sizeOf,typeInfo,run_program,hi,Sem.run_pure,if_neg hno,if_pos h0,hbase,hparts,g1,newRow,run_newObj,List.append_nil,Array.toArray_toList]
  rfl
 ·have hbase:((Array.range (len*i.size)).map (z.cells[· % z.cells.size]!))=(List.replicate len z.cells.toList).flatten.toArray:=by
   apply Array.ext'
   have:=Q7l z.cells len
   rw [h3] at this
   rw [h3]
   simpa using this
  simp only [execOp,ho,Instr.buildSlice,Sem.run_bind,run_underlying hu,Result.andThen_ok,sizeOf,typeInfo,run_program,hi,Sem.run_pure,if_neg hno,if_neg h0,zeroValue,hz,hbase,hparts,g1,newRow,run_newObj,List.append_nil,Array.toArray_toList]
  rfl
theorem Qe0 (n:Nat) (h:n≤9223372036854775807):IntKind.i64.wrap (n:Int)=n:=by rw [IntKind.wrap_i64];omega
theorem Qan {t e:TypeId} {l c:Operand} {n m size bytes:Nat} {z:Value} (ho:o.op=.makeSlice t l c) (hl:ev env l=some (.int .i64 (n:Int))) (hc:ev env c=some (.int .i64 (m:Int))) (he':Q1v P t=some (e,size,bytes,z))
  (h1:n≤m) (h2:m*bytes≤Q7) :
  AllocF P nt o env (List.replicate n z.cells.toList).flatten fun id=>.slice (some ⟨id,0,none⟩) n size:=by
 obtain ⟨i,hu,hi,rfl,rfl,hz,h4,h5,hb1⟩:=Q2i he'
 have h3:m≤9223372036854775807:=by
  have e1:m*1≤m*i.bytes:=Nat.mul_le_mul_left m hb1
  have e2:m*i.bytes≤140737488355328:=h2
  omega
 refine ⟨fun u hu=>Q1h (Z3 (Q26 h4 n) u hu),fun ι D a w he=>?_,fun D he v hv=>Q0v (Z3 (Q26 h4 n) v hv) D,fun D id h=>.sl _ _ _ h,fun id=>rfl⟩
 have hsplit:(List.replicate n z.cells.toList).flatten++(List.replicate (m - n) z.cells.toList).flatten=(List.replicate m z.cells.toList).flatten:=by
  rw [← List.flatten_append,← List.replicate_append_replicate.symm]
  congr 2
  omega
 have hlen:((List.replicate n z.cells.toList).flatten++(List.replicate (m - n) z.cells.toList).flatten).length=m*i.size:=by
  rw [hsplit];simp [h5]
 refine ⟨(List.replicate n z.cells.toList).flatten,(List.replicate (m - n) z.cells.toList).flatten,e,(0,0),w,.slice (some ⟨w.heap.size,0,none⟩) n m,Q07.refl_leaf (Q26 h4 n) ι D,Qjq.zero _,rfl,rfl,rfl,rfl,?_,
  fun id=>Qg1 id h1 (by rw [hlen];exact Zd _)⟩
 have e1:=(Qd he hl).inv_int
 have e2:=(Qd he hc).inv_int
 have w1:=Qe0 n (by omega)
 have w2:=Qe0 m h3
 have hroom:¬ ((i.bytes:Int)*(m:Int) > 2 ^ 48):=by
  have:m*i.bytes≤140737488355328:=h2
  have e:((i.bytes:Int)*(m:Int))=((m*i.bytes:Nat):Int):=by push_cast;rw [Int.mul_comm]
  rw [e];omega
 have hcond:¬ ((((decide ((m:Int) < 0) || decide ((i.bytes:Int)*(m:Int) > 2 ^ 48)) || decide ((n:Int) < 0)) || decide ((n:Int) > (m:Int)))=true):=by
  simp only [Bool.or_eq_true,Zj,not_or]
  exact ⟨⟨⟨by omega,hroom⟩,by omega⟩,by omega⟩
 rw [hsplit]
 have htn:(m:Int).toNat=m:=by omega
 have htn':(n:Int).toNat=n:=by omega
 by_cases h0:m*i.size=0
 ·have hbase:((Array.range (m*i.size)).map ((#[]:Array Value)[· % (#[]:Array Value).size]!))=(List.replicate m z.cells.toList).flatten.toArray:=by
   apply Array.ext'
   have:=Q7l z.cells m
   rw [h5,h0] at this
   rw [← this,h0];simp
  simp only [execOp,ho,e1,e2,Instr.makeSlice,asInt,asIntOf,Sem.run_bind,run_underlying hu,Result.andThen_ok,sizeOf,typeInfo,run_program,hi,Sem.run_pure,w1,w2,if_neg hcond,run_askRoom,htn,htn',if_pos h0,hbase,newRow,run_newObj]
  rfl
 ·have hbase:((Array.range (m*i.size)).map (z.cells[· % z.cells.size]!))=(List.replicate m z.cells.toList).flatten.toArray:=by
   apply Array.ext'
   have:=Q7l z.cells m
   rw [h5] at this
   rw [h5]
   simpa using this
  simp only [execOp,ho,e1,e2,Instr.makeSlice,asInt,asIntOf,Sem.run_bind,run_underlying hu,Result.andThen_ok,sizeOf,typeInfo,run_program,hi,Sem.run_pure,w1,w2,if_neg hcond,run_askRoom,htn,htn',if_neg h0,zeroValue,hz,hbase,newRow,run_newObj]
  rfl
theorem Q2w (s:ByteArray):(byteCells s).all Qt=true:=by
 rw [List.all_eq_true]
 intro v hv
 obtain ⟨b,_,rfl⟩:=List.mem_map.1 hv
 rfl
theorem Qm3 (w:World) (arr:Array Value) (e:TypeId):(w.alloc (.cells arr e)).freeze ⟨w.heap.size,arr.size,none⟩ 1=w.alloc (.cells arr e (arr.size,arr.size+1)):=by
 unfold World.freeze World.alloc
 simp only [Nat.one_ne_zero,if_false]
 congr 1
 apply Array.ext
 ·simp
 ·intro k h1 h2
  rw [Array.getElem_modify]
  by_cases hk:w.heap.size=k
  ·subst hk;simp
  ·rw [if_neg hk]
   simp only [Array.size_push] at h2
   rw [Array.getElem_push_lt (by omega),Array.getElem_push_lt (by omega)]
theorem Qe1 {src dst e:TypeId} {x:Operand} {s:ByteArray} (ho:o.op=.convert src dst x) (hx:ev env x=some (.string s)) (h1:P.underlying src=some .string) (h2:P.underlying dst=some (.slice e)) (h3:P.underlying e=some (.int .u8)) :
  AllocF P nt o env (s.data.toList.map fun b=>.int .u8 b.toNat) fun id=>.slice (some ⟨id,0,none⟩) s.size 1:=by
 have hb:(s.data.toList.map fun b=>Value.int .u8 b.toNat)=byteCells s:=rfl
 rw [hb]
 refine ⟨fun u hu=>Q1h (Z3 (Q2w s) u hu),fun ι D a w he=>?_,fun D he v hv=>Q0v (Z3 (Q2w s) v hv) D,fun D id h=>.sl _ _ _ h,fun id=>rfl⟩
 let cap:=(Question.appendCap s.size 0 e).cut (w.tape w.drawn (.appendCap s.size 0 e))
 have hcap:s.size≤cap:=by simp [cap,Question.cut]
 have hlen:(byteCells s++List.replicate (cap - s.size) (Value.int .u8 0)).length=cap:=by
  rw [Zf,byteCells_length,List.length_replicate];omega
 refine ⟨byteCells s,List.replicate (cap - s.size) (.int .u8 0),e,(cap,cap+1),w.drew,.slice (some ⟨w.heap.size,0,none⟩) s.size cap,Q07.refl_leaf (Q2w s) ι D,by rw [hlen];exact Qjq.behind _ _,rfl,rfl,rfl,rfl,?_,
  fun id=>Qg1 id hcap (by rw [hlen];omega)⟩
 have harr:(s.data.map fun b=>Value.int .u8 b.toNat)++Array.replicate (cap - s.size) (.int .u8 0)=(byteCells s++List.replicate (cap - s.size) (Value.int .u8 0)).toArray:=by
  apply Array.ext';simp [byteCells]
 have hfr:=Qm3 w.drew (byteCells s++List.replicate (cap - s.size) (Value.int .u8 0)).toArray e
 have hsz:(byteCells s++List.replicate (cap - s.size) (Value.int .u8 0)).toArray.size=cap:=by simpa using hlen
 rw [hsz] at hfr
 have hsh:=Q5p w.drew (byteCells s++List.replicate (cap - s.size) (Value.int .u8 0)).toArray e (0,0)
 rw [hsz] at hsh
 have hconv:(convert src dst (.string s)).run P w=(Conv.stringToBytes e s).run P w:=by
  simp [convert,run_underlying h1,run_underlying h2,run_underlying h3]
 have hrun:(Conv.stringToBytes e s).run P w=.ok (.slice (some ⟨w.heap.size,0,none⟩) s.size cap) (w.drew.alloc (.cells (byteCells s++List.replicate (cap - s.size) (Value.int .u8 0)).toArray e (cap,cap+1))):=by
  rw [← hfr]
  simp only [Conv.stringToBytes,Sem.run_bind,run_choose,Question.forced,Bool.false_eq_true,if_false,Result.andThen_ok,newRow,run_newObj,Sem.run_pure]
  rw [show (Question.appendCap s.size 0 e).cut (w.tape w.drawn (.appendCap s.size 0 e))=cap from rfl,harr]
  show ((markStringish ⟨w.drew.heap.size,0,none⟩).run P (w.drew.alloc (.cells (byteCells s++List.replicate (cap - s.size) (Value.int .u8 0)).toArray e))).andThen (fun _ w'=>Result.ok (Value.slice (some ⟨w.heap.size,0,none⟩) s.size cap) w')=_
  simp only [markStringish,Sem.run_bind,run_shape,Result.andThen_ok,hsh,run_freeze]
 simp only [execOp,ho,(Qd he hx).inv_str,Sem.run_bind,hconv,hrun,Result.andThen_ok,Sem.run_pure]
end
structure EffF (P:Program) (nt lim:Nat) (o:Oper) (env:Env) (H:Heap) (v:Value) (H':Heap):Prop where
 lt:Q0o (Bel H.length) env→Ql H.length H→VLt (Bel H'.length) v
 ab:Q0o (Bel H.length) env→Ql H.length H→Ab lim H H'
 run:∀ (ι:Io) (a:Act) (w:World),Rel ι (Bel H.length) H w→ERel ι (Bel H.length) nt env a→∀ (next:Act→World→Prop) (Q:Exit→Act→World→Prop),
  (∀ ι' w' c,Rel ι' (Bel H'.length) H' w'→VRel ι' (Bel H'.length) v c→Fr ι H w ι' H' w'→next (a.put o.dst c) w')→o.wp P a w next Q
structure CallF (P:Program) (f:FuncId) (args:List Value) (lim:Nat) (H:Heap) (v:Value) (H':Heap):Prop where
 lt:LLt (Bel H.length) args→Ql H.length H→VLt (Bel H'.length) v
 ab:LLt (Bel H.length) args→Ql H.length H→Ab lim H H'
 enter:∀ (cargs:Array Value) (w:World),(callFunc f cargs).run P w=.ok (.enter f cargs) w
 run:∀ (ι:Io) (w:World) (cargs:Array Value),Rel ι (Bel H.length) H w→Q07 ι (Bel H.length) args cargs.toList →
  Calls P f cargs w fun e w'=>∃ ι' c,e=.returned c∧Rel ι' (Bel H'.length) H' w'∧VRel ι' (Bel H'.length) v c∧Fr ι H w ι' H' w'
def Q1s (P:Program) (call:FuncId→List Value→Nat→Heap→Option (Value×Heap)):Prop :=
 ∀ f args lim H v H',call f args lim H=some (v,H')→CallF P f args lim H v H'
section
variable {P:Program} {nt lim:Nat} {o:Oper} {env:Env} {H H':Heap} {X:Cx} {β:Type} {K:Value→Heap→Option β} {r:β}
theorem Q14 {a:Act} {w w':World} {c:Value} {next:Act→World→Prop} {Q:Exit→Act→World→Prop} (h:(execOp a.eval o).run P w=.ok (.value c) w') (hn:next (a.put o.dst c) w'):o.wp P a w next Q:=by
 unfold Oper.wp;rw [h];exact hn
theorem Q4a (ι:Io) (D:Nat→Prop):VRel ι D undef undef:=.tuple [] [] rfl fun i h1=>absurd h1 (by simp)
theorem Q7m (D:Nat→Prop):VLt D undef:=(Q4a (fun _=>⟨0,0,0⟩) D).lt
theorem Qnx {t:TypeId} {x y:Operand} {p:Addr} {u:Value} {i:TypeInfo} (ho:o.op=.store t x y) (hx:ev env x=some (.pointer (some p))) (hy:ev env y=some u) (hi:P.info? t=some i) (hs:Nat.beq u.cells.size i.size=true)
  (hh:Q1u H lim p u.cells.toList=some H'):EffF P nt lim o env H undef H':=by
 refine ⟨fun _ _=>Q7m _,fun he _=>Qd4 hh (Q5o he hy).cells,fun ι a w hR he next Q hn=>?_⟩
 have ex:=(Qd he hx).inv_ptr.1
 have hc:=(Qd he hy).cells
 obtain ⟨h1,h2,h3⟩:=hR.store (P:=P) hh hc
 have hlen:H'.length=H.length:=by
  obtain ⟨k,hk,hx'⟩:=Q2 hh
  split at hx'
  ·simp at hx';subst hx';simp
  ·simp at hx'
 have hsz:¬ ((a.eval y).cells.size≠i.size):=by
  have:=hc.1
  have:=Z7 hs
  simp at *;omega
 have hrun:(execOp a.eval o).run P w=.ok .skip (w.setCells (ι p.block).blk ((ι p.block).off+p.off) (a.eval y).cells.toList):=by
  simp only [execOp,ho,ex,Instr.storeAt,Instr.sureAddr,storeVar,Sem.run_bind,Sem.run_pure,Result.andThen_ok,sizeOf,typeInfo,run_program,hi,if_neg hsz,h1]
 unfold Oper.wp;rw [hrun]
 rw [← hlen] at h2
 exact hn ι _ undef h2 (Q4a _ _) h3
theorem Qrb {c:Call} {f:Operand} {g:FuncId} {first cap:Array Value} (ho:o.op=.call c) (hc:c.callee=.value f) {a:Act} {w:World} (hf:a.eval f=.func (.func g) first cap) :
  (execOp a.eval o).run P w=(callFunc g (first++c.args.map a.eval++cap)).run P w:=by
 simp only [execOp,ho,resolve,hc,Deferred.ofValue,hf,invoke,Sem.run_bind,Sem.run_pure,Result.andThen_ok]
theorem Qrc {c:Call} {f:Operand} {g:FuncId} {first cap:Array Value} {vs:List Value} {v:Value} (ho:o.op=.call c) (hc:c.callee=.value f) (hf:ev env f=some (.func (.func g) first cap)) (hv:evs env c.args.toList=some vs)
  (hcall:CallF P g (first.toList++vs++cap.toList) lim H v H'):EffF P nt lim o env H v H':=by
 have hlt:Q0o (Bel H.length) env→LLt (Bel H.length) (first.toList++vs++cap.toList):=by
  intro he u hu
  have h1:=(Q5o he hf).func_mem
  simp only [Zh] at hu
  rcases hu with (hu | hu) | hu
  ·exact h1.1 u hu
  ·exact Qle he hv u hu
  ·exact h1.2 u hu
 refine ⟨fun he hcl=>hcall.lt (hlt he) hcl,fun he hcl=>hcall.ab (hlt he) hcl,fun ι a w hR he next Q hn=>?_⟩
 obtain ⟨first',cap',e1,h1,h2⟩:=(Qd he hf).inv_func
 have hargs:=Qet he hv
 unfold Oper.wp
 rw [Qrb ho hc e1,hcall.enter]
 simp only [Oper.upon]
 refine (hcall.run ι w _ hR ?_).mono ?_
 ·simp only [Array.toList_append,Array.toList_map]
  exact (h1.append hargs).append h2
 ·rintro e w' ⟨ι',c',rfl,g1,g2,g3⟩
  exact hn ι' w' c' g1 g2 g3
theorem Fr.drew (ι:Io) (H:Heap) (w:World):Fr ι H w ι H w.drew:=(Fr.refl ι H w).same_heap rfl rfl rfl rfl
theorem Qny {ι:Io} {D:Nat→Prop} {w:World} (hR:Rel ι D H w) {size:Nat} {u e':TypeId} (hu:P.underlying u=some (.slice e')) {a:Option Addr} {n m:Nat} {l:List Value} (hl:Qf H size (.slice a n m)=some l) {c:Value} (hc:VRel ι D (.slice a n m) c) :
  ∃ cs,Q07 ι D l cs∧(∀ v∈l,isCell v=true)∧Src P size u c n cs w:=by
 obtain ⟨cs,h1,h2,h3,h4,a',cap,h5,h6⟩:=Q2r (P:=P) hR hl hc
 obtain ⟨cs2,k1,k2,k3,k4,_⟩:=Q2r (P:=P) (hR.same_heap (w':=w.drew) rfl) hl hc
 have hone:∀ x∈cs,x.oneCell'=true:=by
  intro x hx
  obtain ⟨i,hi,e⟩:=List.getElem_of_mem hx
  rw [← e,Q45,(h2.2 i (by have:=h2.1;omega) hi).isCell]
  exact h3 _ (List.getElem_mem _)
 refine ⟨cs,h2,h3,⟨.inl ⟨e',hu⟩,fun w'=>by rw [h5];rfl,h4,?_,h1,hone⟩⟩
 rw [h5] at h4 ⊢
 cases a' with
 | none=>simp [Builtin.firstCells] at h4 ⊢;rw [h4]
 | some q =>
  simp only [Builtin.firstCells] at h4 ⊢
  have hld:∀ (k i:Nat) (acc:Array Value),(loadCellsFrom q i k acc).run P w.drew=(match (loadCellsFrom q i k acc).run P w with | .ok v _=>.ok v w.drew | .halt h _=>.halt h w.drew):=by
   intro k
   induction k with
   | zero=>intro i acc;simp [loadCellsFrom]
   | succ k ih =>
    intro i acc
    simp only [loadCellsFrom,Sem.run_bind,run_load]
    have e1:w.drew.cell? (q.add i)=w.cell? (q.add i):=rfl
    have e2:∀ b,w.drew.farLoad P (q.add i) b=w.farLoad P (q.add i) b:=fun b=>rfl
    rw [e1]
    cases hcell:w.cell? (q.add i) with
    | some v=>simp only [Result.andThen_ok];exact ih _ _
    | none =>
     simp only
     rw [e2]
     cases hfar:w.farLoad P (q.add i) (Mode.plain==Mode.atomic) with
     | ok x=>simp only [Result.andThen_ok];exact ih _ _
     | error h=>rfl
  have:=hld (n*size) 0 #[]
  unfold loadCells at h4 ⊢
  rw [this,h4]
end
structure ASrc (P:Program) (t u ty e:TypeId) (i:TypeInfo) (z:Value) (x:Value) (n:Nat) (cs:List Value) (w:World):Prop where
 len:cs.length=n*i.size
 room:∀ b off sLen sCap:Nat,sLen+n≤sCap→(∀ j,j < cs.length→(w.cell? ⟨b,off+sLen*i.size+j,none⟩).isSome=true)→(∀ j,j < cs.length→w.frozen? ⟨b,off+sLen*i.size+j,none⟩=false) →
  (Builtin.append_ #[t,u] ty #[.slice (some ⟨b,off,none⟩) sLen sCap,x]).run P w=.ok (.slice (some ⟨b,off,none⟩) (sLen+n) sCap) (w.setCells b (off+sLen*i.size) cs)
 grow:∀ (base:Option Addr) (sLen sCap:Nat) (olds:List Value),(Builtin.firstCells i.size sLen (.slice base sLen sCap)).run P w.drew=.ok olds.toArray w.drew→sCap < sLen+n→((sLen+n:Nat):Int)≤9223372036854775807 →
  Builtin.nextslicecap (sLen+n) sCap*i.bytes≤281474976710656 →
  (Builtin.append_ #[t,u] ty #[.slice base sLen sCap,x]).run P w=.ok (.slice (some ⟨w.heap.size,0,none⟩) (sLen+n) (grownCap w (sLen+n) sCap e))
    (w.drew.alloc (.cells ((olds++cs).toArray++Builtin.zeroCells z.cells (grownCap w (sLen+n) sCap e - (sLen+n))) e))
 nothing:n=0→∀ (base:Option Addr) (sLen sCap:Nat),sLen≤sCap→(Builtin.append_ #[t,u] ty #[.slice base sLen sCap,x]).run P w=.ok (.slice base sLen sCap) w
section
variable {P:Program} {nt lim:Nat} {o:Oper} {env:Env} {H H':Heap} {X:Cx} {β:Type} {K:Value→Heap→Option β} {r:β}
theorem ASrc.ofSrc {t u ty e:TypeId} {i:TypeInfo} {z x:Value} {n:Nat} {cs:List Value} {w:World} (ht:P.underlying t=some (.slice e)) (hi:P.info? e=some i) (hz:i.zero=some z) (h:Src P i.size u x n cs w):ASrc P t u ty e i z x n cs w:=by
 refine ⟨h.newsLen,fun b off sLen sCap h1 h2 h3=>run_append_room_src w t u ty e i ht hi b off sLen sCap x n cs h h1 h2 h3,
  fun base sLen sCap olds h1 h2 h3 h4=>run_append_grow_src w t u ty e i z ht hi hz base sLen sCap olds h1 x n cs h h2 h3 h4,fun hn base sLen sCap hle=>?_⟩
 subst hn
 have:cs=[]:=Z1 (by simpa using h.newsLen)
 subst this
 exact run_append_nothing w t u ty e i ht hi base sLen sCap hle x h
theorem Qe2 {z:Value} (h:z.cells.toList.all Qt=true) (n:Nat):∀ v∈(List.replicate n z.cells.toList).flatten,v.oneCell'=true:=by
 intro v hv
 rw [Q45]
 exact Q1h (Z3 (Q26 h n) v hv)
theorem Q6o (z:Array Value) (n:Nat):Builtin.zeroCells z n=(List.replicate n z.toList).flatten.toArray:=by
 apply Array.ext'
 have:=Q7l z n
 simpa [Builtin.zeroCells] using this
theorem ASrc.ofZeros {t u ty e:TypeId} {i:TypeInfo} {z:Value} {k k':IntKind} {n:Nat} {w:World} (ht:P.underlying t=some (.slice e)) (hi:P.info? e=some i) (hz:i.zero=some z) (hu:P.underlying u=some (.int k)) (h1:n*i.bytes≤140737488355328) (hb:1≤i.bytes)
  (h4:z.cells.toList.all Qt=true) (h5:z.cells.size=i.size):ASrc P t u ty e i z (.int k' (n:Int)) n (List.replicate n z.cells.toList).flatten w:=by
 have hle:n≤140737488355328:=by
  have:n*1≤n*i.bytes:=Nat.mul_le_mul_left n hb
  omega
 have hw:IntKind.i64.wrap (n:Int)=n:=Qe0 n (by omega)
 have hmake:¬ (281474976710656 < (n:Int)*(i.bytes:Int)):=by
  have:((n:Int)*(i.bytes:Int))=((n*i.bytes:Nat):Int):=by push_cast;rfl
  rw [this];omega
 have hn0:¬ ((n:Int) < 0):=by omega
 have hcs:((List.replicate n z.cells.toList).flatten).length=n*i.size:=by simp [h5]
 refine ⟨hcs,fun b off sLen sCap g1 g2 g3=>?_,fun base sLen sCap olds g1 g2 g3 g4=>?_,fun hn base sLen sCap hle'=>?_⟩
 ·have hst:=run_storeCells_cells (P:=P) b (off+sLen*i.size) _ 0 w (by simpa using g2) (by simpa using g3) (Qe2 h4 n)
  simp only [Nat.add_zero] at hst
  by_cases hz0:n*i.size=0
  ·have e0:(List.replicate n z.cells.toList).flatten=[]:=Z1 (by rw [hcs];exact hz0)
   rw [e0] at hst ⊢
   have hz0':n=0∨i.size=0:=Nat.mul_eq_zero.1 hz0
   simp [Builtin.append_,run_underlying ht,run_underlying hu,sizeOf,typeInfo,hi,asInt,asIntOf,hw,hn0,hmake,g1,hz0,Addr.add_lit,hst]
  ·have hz0':¬ (n=0∨i.size=0):=fun h=>hz0 (Nat.mul_eq_zero.2 h)
   simp [Builtin.append_,run_underlying ht,run_underlying hu,sizeOf,typeInfo,hi,asInt,asIntOf,hw,hn0,hmake,g1,hz0,zeroValue,hz,Q6o,Addr.add_lit,hst]
 ·have hn:¬ (sLen+n≤sCap):=by omega
  have h63':¬ (9223372036854775807 < ((sLen:Int)+(n:Int))):=by omega
  have h48':¬ (281474976710656 < Builtin.nextslicecap (sLen+n) sCap*i.bytes):=by omega
  by_cases hz0:n*i.size=0
  ·have e0:(List.replicate n z.cells.toList).flatten=[]:=Z1 (by rw [hcs];exact hz0)
   rw [e0]
   have hz0':n=0∨i.size=0:=Nat.mul_eq_zero.1 hz0
   simp [Builtin.append_,run_underlying ht,run_underlying hu,sizeOf,typeInfo,hi,asInt,asIntOf,hw,hn0,hmake,hn,h63',h48',hz0,zeroValue,hz,Question.forced,g1,newRow,grownCap]
  ·have hz0':¬ (n=0∨i.size=0):=fun h=>hz0 (Nat.mul_eq_zero.2 h)
   simp [Builtin.append_,run_underlying ht,run_underlying hu,sizeOf,typeInfo,hi,asInt,asIntOf,hw,hn0,hmake,hn,h63',h48',hz0,zeroValue,hz,Question.forced,g1,newRow,grownCap,Q6o]
 ·subst hn
  have hw0:IntKind.i64.wrap 0=0:=by decide
  cases base<;>simp [hw0,Builtin.append_,run_underlying ht,run_underlying hu,sizeOf,typeInfo,hi,asInt,asIntOf,hw,hn0,hle',storeCells]
theorem Q4b {c:Call} {t u:TypeId} {x y:Operand} (ho:o.op=.call c) (hb:c.callee=.builtin .append) (ht:c.argTypes = #[t,u]) (ha:c.args = #[x,y]) (a:Act) (w:World) :
  (execOp a.eval o).run P w=((Builtin.append_ #[t,u] o.type #[a.eval x,a.eval y]).run P w).andThen fun v w'=>.ok (.value v) w':=by
 obtain ⟨cs,hcs⟩:=Q1r (P:=P) ho hb a.eval w
 rw [hcs,ht,ha]
 simp [builtin]
theorem Q8q {c:Call} {t u e:TypeId} {x y:Operand} {i:TypeInfo} {z s:Value} {news:List Value} {n:Nat} (ho:o.op=.call c) (hb:c.callee=.builtin .append) (ht:c.argTypes = #[t,u]) (ha:c.args = #[x,y])
  (hu:P.underlying t=some (.slice e)) (hi:P.info? e=some i) (hz:i.zero=some z) (hz5:z.cells.size=i.size) (hb1:1≤i.bytes) (hx:ev env x=some s)
  (hsrc:∀ (ι:Io) (a:Act) (w:World),Rel ι (Bel H.length) H w→ERel ι (Bel H.length) nt env a→∃ cs,Q07 ι (Bel H.length) news cs∧(∀ v∈news,isCell v=true)∧ASrc P t u o.type e i z (a.eval y) n cs w)
  (hlt:Q0o (Bel H.length) env→Ql H.length H→LLt (Bel H.length) news) {K:Value→Heap→Option β} {r:β} (h:Q4s i.size i.bytes s news n H K=some r) :
  ∃ v H',K v H'=some r∧EffF P nt lim o env H v H':=by
 have hroomN:∀ k:Nat,k*i.bytes≤Q7→k≤140737488355328:=by
  intro k hk
  have e1:k*1≤k*i.bytes:=Nat.mul_le_mul_left k hb1
  have e2:k*i.bytes≤140737488355328:=hk
  omega
 have hrow:∀ (w:World) (sLen sCap:Nat) (cs olds:List Value),olds.length=sLen*i.size→cs.length=n*i.size →
   ((olds++cs).toArray++Builtin.zeroCells z.cells (grownCap w (sLen+n) sCap e - (sLen+n)))=((olds++cs)++(Builtin.zeroCells z.cells (grownCap w (sLen+n) sCap e - (sLen+n))).toList).toArray ∧
   grownCap w (sLen+n) sCap e*i.size≤((olds++cs)++(Builtin.zeroCells z.cells (grownCap w (sLen+n) sCap e - (sLen+n))).toList).length:=by
  intro w sLen sCap cs olds h1 h2
  refine ⟨by apply Array.ext';simp,?_⟩
  have hge:=grownCap_ge w (sLen+n) sCap e
  simp only [Zf,Array.length_toList,size_zeroCells,hz5,h1,h2]
  rw [← Nat.add_mul,← Nat.add_mul]
  exact Zk _ (by omega)
 unfold Q4s at h
 replace h:=Q2 h;obtain ⟨⟨rv,rh⟩,hr0,h⟩:=h
 replace h:=Qlh h;obtain ⟨ra,rn,rc,hrv,h⟩:=h
 simp only at hrv h
 rw [← hrv] at h
 clear hrv
 refine ⟨rv,rh,h,?_⟩
 clear h
 unfold Q28 at hr0
 split at hr0
 ·split at hr0
  ·simp at hr0;obtain ⟨rfl,rfl⟩:=hr0
   refine ⟨fun _ _=>.slNil,fun _ _=>Ab.refl _ _,fun ι a w hR he next Q hn=>?_⟩
   obtain ⟨cs,h1,hcell,h2⟩:=hsrc ι a w hR he
   have ex:a.eval x=.slice none 0 0:=by
    have:=Qd he hx
    cases hq:a.eval x<;>rw [hq] at this<;>cases this;rfl
   have hrun:(execOp a.eval o).run P w=.ok (.value (.slice none 0 0)) w:=by
    rw [Q4b ho hb ht ha,ex,h2.nothing rfl none 0 0 (Zd _)];rfl
   exact Q14 hrun (hn ι w _ hR .slNil (Fr.refl ι H w))
  ·rename_i m
   rcases Q0b hr0 with ⟨hroom,hr0⟩ | ⟨_,hr0⟩
   ·have hroom:(m+1)*i.bytes≤Q7:=Zi hroom
    simp at hr0;obtain ⟨rfl,rfl⟩:=hr0
    refine ⟨fun _ _=>.sl _ _ _ (by simp [Bel,Qy]),fun he hc=>Qew _ (hlt he hc),fun ι a w hR he next Q hn=>?_⟩
    obtain ⟨cs,h1,hcell,h2⟩:=hsrc ι a w hR he
    have ex:a.eval x=.slice none 0 0:=by
     have:=Qd he hx
     cases hq:a.eval x<;>rw [hq] at this<;>cases this;rfl
    have hN:=hroomN (m+1) hroom
    have hg:=h2.grow none 0 0 [] (by simp [Builtin.firstCells]) (by omega) (by omega) (growslice_fits (by omega) (by rw [Zo];exact hroom))
    obtain ⟨r1,r2⟩:=hrow w 0 0 cs [] (by simp) h2.len
    rw [r1] at hg
    simp only [List.nil_append,Zo] at hg r2
    have hrun:(execOp a.eval o).run P w=.ok (.value (.slice (some ⟨w.heap.size,0,none⟩) (m+1) (grownCap w (m+1) 0 e))) (w.drew.alloc (.cells (cs++(Builtin.zeroCells z.cells (grownCap w (m+1) 0 e - (m+1))).toList).toArray e)):=by
     rw [Q4b ho hb ht ha,ex,hg];rfl
    obtain ⟨g1,g2⟩:=(hR.same_heap (w':=w.drew) rfl).push h1 hcell (Builtin.zeroCells z.cells (grownCap w (m+1) 0 e - (m+1))).toList e (0,0) (Qjq.zero _)
    refine Q14 hrun (hn _ _ _ g1 ?_ ((Fr.drew ι H w).trans g2))
    rw [Qy]
    exact (Qg1 (ι:=ι) (D:=Bel H.length) H.length (by have:=grownCap_ge w (m+1) 0 e;omega) r2).mono (by intro b hb';simp [Bel] at hb' ⊢;omega) fun _ _=>rfl
   ·simp at hr0
 ·rename_i p len c'
  replace hr0:=Q2 hr0;obtain ⟨k,hk,hr0⟩:=hr0
  rcases Q0b hr0 with ⟨hcond,hr0⟩ | ⟨_,hr0⟩
  ·simp only [Z8,Bool.not_eq_true'] at hcond
   obtain ⟨⟨⟨hro,hc'⟩,hfront⟩,hroom⟩:=hcond
   have hc':=Z7 hc'
   have hfr0:=Zi hfront
   have hroom:(len+n)*i.bytes≤Q7:=Zi hroom
   simp at hr0;obtain ⟨rfl,rfl⟩:=hr0
   subst hc'
   obtain ⟨kc,kr⟩:=k
   simp only at hro hfr0;subst hro
   generalize hkm:kc.take (p.off+len*i.size)=km at *
   have hfront:p.off+len*i.size=km.length:=by rw [← hkm];simp;omega
   have hlen:(H.set p.block none).length=H.length:=by simp
   have hset1:(H.set p.block (some ⟨km,false,none⟩)).set p.block none=H.set p.block none:=by simp
   have hlen1:(H.set p.block (some ⟨km,false,none⟩)).length=H.length:=by simp
   have hN:=hroomN (len+n) hroom
   have holdsD:(km.drop p.off).length=len*i.size:=by simp;omega
   refine ⟨fun _ _=>.sl _ _ _ (by simp [Bel,Qy]),fun he hc=>?_,fun ι a w hR he next Q hn=>?_⟩
   ·refine (Qw9 lim H p.block).trans (Qew _ ?_)
    rw [hlen]
    intro v hv
    rcases List.mem_append.1 hv with hv | hv
    ·exact hc _ (Qs hk) _ hk v (List.mem_of_mem_take (by rw [hkm];exact List.mem_of_mem_drop hv))
    ·exact hlt he hc v hv
   ·obtain ⟨cs,h1,hcell,h2⟩:=hsrc ι a w hR he
    have hlc:cs.length=n*i.size:=h2.len
    obtain ⟨hk1,hR1,hF1⟩:=hR.trunc hk rfl (p.off+len*i.size)
    simp only [hkm] at hk1 hR1 hF1
    have hbk:=hR1.blk _ _ hk1
    have hR2:Rel ι (Bel (H.set p.block (some ⟨km,false,none⟩)).length) (H.set p.block (some ⟨km,false,none⟩)) w:=by rw [hlen1];exact hR1
    have hslice:Qf (H.set p.block (some ⟨km,false,none⟩)) i.size (.slice (some p) len i.size)=some (km.drop p.off):=by
     have h0:Q0m (H.set p.block (some ⟨km,false,none⟩)) p (len*i.size)=Qx (H.set p.block (some ⟨km,false,none⟩)) p (len*i.size):=by
      cases hz:len*i.size with
      | zero =>
       have:Nat.ble (p.off+0) km.length=true:=Nat.ble_eq_true_of_le (by omega)
       simp only [Q0m,Qx,hk1,Q1,this];simp
      | succ m=>rfl
     simp only [Qf,h0,Qx,hk1,Q1]
     have:Nat.ble (p.off+len*i.size) km.length=true:=Nat.ble_eq_true_of_le (by omega)
     rw [this]
     simp only [Option.some.injEq]
     rw [Zs (by simp;omega)]
    have hgrow:∀ (q:Addr) (cap:Nat),a.eval x=.slice (some q) len cap→cap < len+n→o.wp P a w next Q:=by
     intro q cap ex hcap
     have hv:=Qd he hx
     rw [ex] at hv
     obtain ⟨olds,o1,o2,o3,o4,_⟩:=Q2r (P:=P) (hR1.same_heap (w':=w.drew) rfl) hslice hv
     have hg:=h2.grow (some q) len cap olds o4 hcap (by omega) (growslice_fits hcap hroom)
     obtain ⟨r1,r2⟩:=hrow w len cap cs olds o1 hlc
     rw [r1] at hg
     have hrun:(execOp a.eval o).run P w=.ok (.value (.slice (some ⟨w.heap.size,0,none⟩) (len+n) (grownCap w (len+n) cap e))) (w.drew.alloc (.cells ((olds++cs)++(Builtin.zeroCells z.cells (grownCap w (len+n) cap e - (len+n))).toList).toArray e)):=by
      rw [Q4b ho hb ht ha,ex,hg];rfl
     have hkill:Rel ι (Bel (H.set p.block none).length) (H.set p.block none) w.drew:=by rw [hlen];exact (hR.same_heap (w':=w.drew) rfl).kill p.block
     have hall:∀ v∈km.drop p.off++news,isCell v=true:=by
      intro v hv
      rcases List.mem_append.1 hv with hv | hv
      ·exact o3 v hv
      ·exact hcell v hv
     obtain ⟨g1,g2⟩:=hkill.push (vs:=km.drop p.off++news) (cs:=olds++cs) (by rw [hlen];exact o2.append h1) hall (Builtin.zeroCells z.cells (grownCap w (len+n) cap e - (len+n))).toList e (0,0) (Qjq.zero _)
     have hfr:Fr ι H w ι (H.set p.block none) w.drew:=⟨by simp,fun _ _=>rfl,rfl,rfl,rfl,Zd _,fun _ _ _=>rfl,fun b blk hb hr=>.inr ⟨b,blk,Q5r hb,hr,rfl⟩,fun b blk hb _=>Q5r hb⟩
     have hlen2:(Q0d (H.set p.block none) (km.drop p.off++news)).length=H.length+1:=by rw [Qy,hlen]
     rw [hlen] at g1 g2
     refine Q14 hrun (hn _ _ _ g1 ?_ (hfr.trans g2))
     rw [hlen2]
     exact (Qg1 (ι:=ι) (D:=Bel H.length) H.length (by have:=grownCap_ge w (len+n) cap e;omega) r2).mono (by intro b hb';simp [Bel] at hb' ⊢;omega) fun _ _=>rfl
    have hv:=Qd he hx
    generalize hq:a.eval x=q at hv
    cases hv with
    | slGo _ _ _ cap hD hlcap hcap =>
     by_cases hroom':len+n≤cap
     ·have hmul:(len+n)*i.size≤cap*i.size:=Zk _ hroom'
      have hfit:(ι p.block).off+km.length+cs.length≤(ι p.block).size:=by rw [hlc,← hfront];rw [Nat.add_mul] at hmul;omega
      have hplace:(ι p.block).off+p.off+len*i.size=(ι p.block).off+km.length:=by omega
      have hr:=h2.room (ι p.block).blk ((ι p.block).off+p.off) len cap hroom' (fun j hj=>by
       obtain ⟨ety,hshape⟩:=hbk.shape (by omega)
       exact Q4v hshape (by omega)) (fun j hj=>hbk.thaw rfl _ (by omega) (by omega))
      rw [hplace] at hr
      have hrun:(execOp a.eval o).run P w=.ok (.value (.slice (some ⟨(ι p.block).blk,(ι p.block).off+p.off,none⟩) (len+n) cap)) (w.setCells (ι p.block).blk ((ι p.block).off+km.length) cs):=by
       rw [Q4b ho hb ht ha,hq]
       show ((Builtin.append_ #[t,u] o.type #[.slice (some ⟨(ι p.block).blk,(ι p.block).off+p.off,none⟩) len cap,a.eval y]).run P w).andThen _=_
       rw [hr];rfl
      obtain ⟨g1,g2⟩:=hR2.alias hk1 rfl (off:=p.off) (by simp only;omega) (by rw [hlen1];exact h1) hcell (by simp only;exact hfit)
      simp only [hset1,hlen1] at g1 g2
      replace g2:=hF1.trans g2
      have hlen2:(Q0d (H.set p.block none) (km.drop p.off++news)).length=H.length+1:=by rw [Qy,hlen]
      rw [← hlen2] at g1
      refine Q14 hrun (hn _ _ _ g1 ?_ g2)
      rw [hlen2]
      have:=VRel.slGo (ι:=ι.set H.length ⟨(ι p.block).blk,(ι p.block).off+p.off,(ι p.block).size⟩) (D:=Bel (H.length+1)) ⟨H.length,0,none⟩ (len+n) i.size cap (by simp [Bel]) hroom' (by simp only [Io.set_same];omega)
      simp only [Io.addr,Io.set_same,Nat.add_zero] at this
      exact this
     ·exact hgrow _ cap hq (by omega)
    | slEmpty _ b _ hD =>
     by_cases hn0:n=0
     ·subst hn0
      have hcs0:cs=[]:=Z1 (by simpa using hlc)
      subst hcs0
      have hrun:(execOp a.eval o).run P w=.ok (.value (.slice (some b) 0 0)) w:=by
       rw [Q4b ho hb ht ha,hq,h2.nothing rfl (some b) 0 0 (Zd _)];rfl
      obtain ⟨g1,g2⟩:=hR2.alias hk1 rfl (off:=p.off) (by simp only;omega) (by rw [hlen1];exact h1) hcell (by simpa using hbk.fit)
      simp only [hset1,hlen1] at g1 g2
      replace g2:=hF1.trans g2
      have hlen2:(Q0d (H.set p.block none) (km.drop p.off++news)).length=H.length+1:=by rw [Qy,hlen]
      rw [← hlen2] at g1
      refine Q14 hrun (hn _ _ _ g1 ?_ g2)
      rw [hlen2]
      exact .slEmpty _ _ _ (by simp [Bel])
     ·exact hgrow b 0 hq (by omega)
  ·simp at hr0
 ·simp at hr0
end
section
variable {P:Program} {nt lim:Nat} {o:Oper} {env:Env} {H H':Heap} {X:Cx} {β:Type} {K:Value→Heap→Option β} {r:β}
theorem Qkj {c:Call} {t u:TypeId} {x y:Operand} (ho:o.op=.call c) (hb:c.callee=.builtin .copy) (ht:c.argTypes = #[t,u]) (ha:c.args = #[x,y]) (a:Act) (w:World) :
  (execOp a.eval o).run P w=((Builtin.copy_ #[t,u] o.type #[a.eval x,a.eval y]).run P w).andThen fun v w'=>.ok (.value v) w':=by
 obtain ⟨cs,hcs⟩:=Q1r (P:=P) ho hb a.eval w
 rw [hcs,ht,ha]
 simp [builtin]
theorem Qiz {a:Addr} {vs:List Value} (h:Q1u H lim a vs=some H'):H'.length=H.length:=by
 obtain ⟨k,hk,hx⟩:=Q2 h
 split at hx
 ·simp at hx;subst hx;simp
 ·simp at hx
theorem Qe3 {c:Call} {t u e:TypeId} {x y:Operand} {i:TypeInfo} {p:Addr} {n m:Nat} {q:Nat} {vs:List Value} (ho:o.op=.call c) (hb:c.callee=.builtin .copy) (ht:c.argTypes = #[t,u]) (ha:c.args = #[x,y])
  (hu:P.underlying t=some (.slice e)) (hi:P.info? e=some i) (hx:ev env x=some (.slice (some p) n m)) (hle:vs.length≤n*i.size)
  (hsrc:∀ (ι:Io) (a:Act) (w:World),Rel ι (Bel H.length) H w→ERel ι (Bel H.length) nt env a→∃ cs sl,Q07 ι (Bel H.length) vs cs∧(Builtin.lenOf (a.eval y)).run P w=.ok sl w∧Nat.min sl n=q∧(Builtin.firstCells i.size q (a.eval y)).run P w=.ok cs.toArray w)
  (hlt:Q0o (Bel H.length) env→Ql H.length H→LLt (Bel H.length) vs) (hh:Q1u H lim p vs=some H'):EffF P nt lim o env H (.int .i64 q) H':=by
 have hlen:=Qiz hh
 refine ⟨fun _ _=>.int _ _,fun he hc=>Qd4 hh (hlt he hc),fun ι a w hR he next Q hn=>?_⟩
 obtain ⟨cs,sl,h1,h2,h3,h4⟩:=hsrc ι a w hR he
 obtain ⟨g1,g2,g3⟩:=hR.store (P:=P) hh h1
 have hv:=Qd he hx
 have key:∀ (d:Addr) (cap:Nat),a.eval x=.slice (some d) n cap→(storeCells d cs).run P w=.ok () (w.setCells (ι p.block).blk ((ι p.block).off+p.off) cs) →
   o.wp P a w next Q:=by
  intro d cap ex hst
  have hrun:(execOp a.eval o).run P w=.ok (.value (.int .i64 q)) (w.setCells (ι p.block).blk ((ι p.block).off+p.off) cs):=by
   rw [Qkj ho hb ht ha,ex]
   simp [Builtin.copy_,run_underlying hu,h2,h3,sizeOf,typeInfo,hi,h4,hst,goInt]
  rw [← hlen] at g2
  exact Q14 hrun (hn ι _ _ g2 (.int _ _) g3)
 generalize hq:a.eval x=xv at hv
 cases hv with
 | slGo _ _ _ cap hD hl hc=>exact key _ cap hq g1
 | slEmpty _ b _ hD =>
  have hvs:vs=[]:=Z1 (by simpa using hle)
  subst hvs
  have hcs:cs=[]:=Z1 (by have:=h1.1;simpa using this.symm)
  subst hcs
  exact key b 0 hq rfl
theorem Qg2 {c:Call} {t u e:TypeId} {x y:Operand} {i:TypeInfo} {sv:Value} (ho:o.op=.call c) (hb:c.callee=.builtin .copy) (ht:c.argTypes = #[t,u]) (ha:c.args = #[x,y])
  (hu:P.underlying t=some (.slice e)) (hi:P.info? e=some i) (hx:ev env x=some (.slice none 0 0)) (hy:ev env y=some sv) (hs:(∃ a n m,sv=.slice a n m)∨∃ s,sv=.string s):EffF P nt lim o env H (.int .i64 0) H:=by
 refine ⟨fun _ _=>.int _ _,fun he hc=>Ab.refl _ _,fun ι a w hR he next Q hn=>?_⟩
 have hv:=Qd he hx
 have hw:=Qd he hy
 have ex:a.eval x=.slice none 0 0:=by
  generalize a.eval x=xv at hv
  cases hv;rfl
 have hl:∃ sl cs,(Builtin.lenOf (a.eval y)).run P w=.ok sl w∧(Builtin.firstCells i.size 0 (a.eval y)).run P w=.ok cs w:=by
  generalize a.eval y=yv at hw
  rcases hs with ⟨p,n,m,rfl⟩ | ⟨s,rfl⟩
  ·cases hw with
   | slNil=>exact ⟨0,#[],rfl,by simp [Builtin.firstCells]⟩
   | slGo _ _ _ cap hD hl hc=>exact ⟨n,#[],rfl,by simp [Builtin.firstCells,loadCells,loadCellsFrom]⟩
   | slEmpty _ b _ hD=>exact ⟨0,#[],rfl,by simp [Builtin.firstCells,loadCells,loadCellsFrom]⟩
  ·cases hw;exact ⟨s.size,_,rfl,rfl⟩
 obtain ⟨sl,cs,h2,h4⟩:=hl
 have hrun:(execOp a.eval o).run P w=.ok (.value (.int .i64 0)) w:=by
  rw [Qkj ho hb ht ha,ex]
  simp [Builtin.copy_,run_underlying hu,h2,sizeOf,typeInfo,hi,h4,goInt]
 exact Q14 hrun (hn ι _ _ hR (.int _ _) (Fr.refl _ _ _))
def OpF (X:Cx) (o:Oper) (env:Env) (H:Heap) (v:Value) (H':Heap):Prop :=
 match Q24 X.P o.op with
 | 0=>H'=H∧PureF X.P X.nt o env v
 | 1=>H'=H∧∃ raw,ReadF X.P X.nt o env H raw v
 | 2=>∃ vs mk,v=mk H.length∧H'=Q0d H vs∧AllocF X.P X.nt o env vs mk
 | _=>EffF X.P X.nt X.lim o env H v H'
theorem Q02 {v:Value} (hc:Q24 X.P o.op=0) (h:PureF X.P X.nt o env v):OpF X o env H v H:=by unfold OpF;rw [hc];exact ⟨rfl,h⟩
theorem Q7n {raw v:Value} (hc:Q24 X.P o.op=1) (h:ReadF X.P X.nt o env H raw v):OpF X o env H v H:=by unfold OpF;rw [hc];exact ⟨rfl,raw,h⟩
theorem Q5d {vs:List Value} {mk:Nat→Value} (hc:Q24 X.P o.op=2) (h:AllocF X.P X.nt o env vs mk):OpF X o env H (mk H.length) (Q0d H vs):=by unfold OpF;rw [hc];exact ⟨vs,mk,rfl,rfl,h⟩
theorem Q43 {v:Value} (hc:Q24 X.P o.op=3) (h:EffF X.P X.nt X.lim o env H v H'):OpF X o env H v H':=by unfold OpF;rw [hc];exact h
theorem Q8r {v:Value} {F:Bool→Option β} {r:β} (h:Qb2 v F=some r):∃ b,v=.bool b∧F b=some r:=by
 unfold Qb2 at h;split at h
 ·exact ⟨_,rfl,h⟩
 ·simp at h
def Qft:Builtin→Nat
 | .append=>3
 | .copy=>3
 | _=>0
theorem Qj0 {c:Call} {b:Builtin} (hop:o.op=.call c) (hb:c.callee=.builtin b):Q24 P o.op=Qft b:=by
 rw [hop]
 obtain ⟨callee,args,ts⟩:=c
 simp only at hb
 subst hb
 cases b<;>rfl
theorem Qe4 {c:Call} {b:Builtin} {vs:List Value} (hop:o.op=.call c) (hb:c.callee=.builtin b) (hv:evs env c.args.toList=some vs) (h:Q05 X.P X.lim b c.argTypes.toList vs H K=some r) :
  ∃ v H',K v H'=some r∧OpF X o env H v H':=by
 have hcls:=Qj0 (P:=X.P) hop hb
 generalize hts:c.argTypes.toList=ts at h
 unfold Q05 at h
 split at h
 ·rename_i t a n m
  split at h
  ·rename_i e hu;exact ⟨_,_,h,Q02 hcls (Qlz hop hb hts hv hu)⟩
  ·simp at h
 ·rename_i t s
  split at h
  ·rename_i hu;exact ⟨_,_,h,Q02 hcls (Qiv hop hb hts hv hu)⟩
  ·simp at h
 ·rename_i t
  split at h
  ·rename_i e hu;exact ⟨_,_,h,Q02 hcls (Qiu hop hb hts hv hu)⟩
  ·simp at h
 ·split at h
  ·exact ⟨_,_,h,Q02 hcls (Qr9 hop hb hv)⟩
  ·simp at h
 ·split at h
  ·exact ⟨_,_,h,Q02 hcls (Qra hop hb hv)⟩
  ·simp at h
 ·rename_i t u s x
  replace h:=Q2 h
  obtain ⟨⟨e,size,bytes,z⟩,he,h⟩:=h
  obtain ⟨i,hu,hi,rfl,rfl,hz,hz4,hz5,hb1⟩:=Q2i he
  obtain ⟨p,q,hargs,hp,hq⟩:=Q65 hv
  have ht:=Q7i hts
  simp only at h
  split at h
  ·rename_i e' a n m huu
   replace h:=Q2 h
   obtain ⟨news,hnews,h⟩:=h
   obtain ⟨v,H',h1,h2⟩:=Q8q (lim:=X.lim) hop hb ht hargs hu hi hz hz5 hb1 hp (fun ι act w hR hE=>by
    obtain ⟨cs,g1,g2,g3⟩:=Qny (P:=X.P) hR huu hnews (Qd hE hq)
    exact ⟨cs,g1,g2,ASrc.ofSrc hu hi hz g3⟩) (fun hE hc=>Qdz hnews hc) h
   exact ⟨v,H',h1,Q43 hcls h2⟩
  ·rename_i s' huu
   split at h
   ·rename_i hs1
    obtain ⟨v,H',h1,h2⟩:=Q8q (lim:=X.lim) (nt:=X.nt) (news:=byteCells s') (n:=s'.size) hop hb ht hargs hu hi hz hz5 hb1 hp (fun ι act w hR hE=>by
     have hs:=Src.ofString (P:=X.P) w huu s'
     rw [← hs1] at hs
     rw [(Qd hE hq).inv_str]
     exact ⟨byteCells s',Q07.refl_leaf (Q2w s') ι _,fun v hv=>Q1h (Z3 (Q2w s') v hv),ASrc.ofSrc hu hi hz hs⟩) (fun hE hc v hv=>Q0v (Z3 (Q2w s') v hv) _)
     (K:=K) (r:=r) (by rw [hs1];exact h)
    exact ⟨v,H',h1,Q43 hcls h2⟩
   ·simp at h
  ·rename_i k k' l huu
   rcases Q0b h with ⟨hl,h⟩ | ⟨_,h⟩
   ·simp only [Z8,Zj] at hl
    obtain ⟨hl0,hl1⟩:=hl
    obtain ⟨n,rfl⟩:=Int.eq_ofNat_of_zero_le hl0
    simp only [Int.toNat_natCast] at h
    have hl2:n*i.bytes≤140737488355328:=by
     have:((n:Int)*(i.bytes:Int))=((n*i.bytes:Nat):Int):=by push_cast;rfl
     rw [this] at hl1
     have:Q7=140737488355328:=rfl
     omega
    obtain ⟨v,H',h1,h2⟩:=Q8q (lim:=X.lim) (nt:=X.nt) hop hb ht hargs hu hi hz hz5 hb1 hp (fun ι act w hR hE=>by
     rw [(Qd hE hq).inv_int]
     exact ⟨_,Q07.refl_leaf (Q26 hz4 n) ι _,fun v hv=>Q1h (Z3 (Q26 hz4 n) v hv),ASrc.ofZeros hu hi hz huu hl2 hb1 hz4 hz5⟩) (fun hE hc v hv=>Q0v (Z3 (Q26 hz4 n) v hv) _) h
    exact ⟨v,H',h1,Q43 hcls h2⟩
   ·simp at h
  ·simp at h
 ·rename_i t u sa sn sc
  replace h:=Q2 h
  obtain ⟨⟨e,size,bytes,z⟩,he,h⟩:=h
  obtain ⟨i,hu,hi,rfl,rfl,hz,hz4,hz5,hb1⟩:=Q2i he
  obtain ⟨p,q,hargs,hp,hq⟩:=Q65 hv
  have ht:=Q7i hts
  exact ⟨_,_,h,Q43 hcls (Qg2 hop hb ht hargs hu hi hp hq (.inl ⟨_,_,_,rfl⟩))⟩
 ·rename_i t u ss
  replace h:=Q2 h
  obtain ⟨⟨e,size,bytes,z⟩,he,h⟩:=h
  obtain ⟨i,hu,hi,rfl,rfl,hz,hz4,hz5,hb1⟩:=Q2i he
  obtain ⟨p,q,hargs,hp,hq⟩:=Q65 hv
  have ht:=Q7i hts
  exact ⟨_,_,h,Q43 hcls (Qg2 hop hb ht hargs hu hi hp hq (.inr ⟨_,rfl⟩))⟩
 ·rename_i t u d src
  replace h:=Q2 h
  obtain ⟨⟨e,size,bytes,z⟩,he,h⟩:=h
  obtain ⟨i,hu,hi,rfl,rfl,hz,hz4,hz5,hb1⟩:=Q2i he
  simp only at h
  replace h:=Qlg h;obtain ⟨a,n,m,rfl,h⟩:=h
  obtain ⟨p,q,hargs,hp,hq⟩:=Q65 hv
  have ht:=Q7i hts
  replace h:=Q2 h;obtain ⟨⟨cn,H'⟩,hcv,h⟩:=h
  refine ⟨_,_,h,?_⟩
  unfold Qjo at hcv
  split at hcv
  ·replace hcv:=Q2 hcv;obtain ⟨H2,hh,hcv⟩:=hcv
   simp at hcv;obtain ⟨rfl,rfl⟩:=hcv
   refine Q43 hcls (Qe3 (q:=0) hop hb ht hargs hu hi hp (by simp) (fun ι act w hR hE=>⟨[],0,Q07.nil ι _,?_,by simp,?_⟩) (fun _ _ v hv=>by simp at hv) hh)
   ·have ex:act.eval q=.slice none 0 0:=by
     have:=Qd hE hq
     cases hw:act.eval q<;>rw [hw] at this<;>cases this;rfl
    rw [ex];rfl
   ·have ex:act.eval q=.slice none 0 0:=by
     have:=Qd hE hq
     cases hw:act.eval q<;>rw [hw] at this<;>cases this;rfl
    rw [ex];simp [Builtin.firstCells]
  ·rename_i b sl c'
   replace hcv:=Q2 hcv;obtain ⟨l,hl,hcv⟩:=hcv
   replace hcv:=Q2 hcv;obtain ⟨H2,hh,hcv⟩:=hcv
   simp at hcv;obtain ⟨rfl,rfl⟩:=hcv
   have hll:l.length=min sl n*i.size:=by
    cases hz:min sl n*i.size with
    | zero=>rw [hz] at hl;simp only [Q0m,Option.some.injEq] at hl;subst hl;rfl
    | succ mm =>
     rw [hz] at hl
     obtain ⟨k,hk,hx⟩:=Q2 hl
     split at hx
     ·rename_i hle;have:=Zi hle;simp at hx;subst hx;simp;omega
     ·simp at hx
   refine Q43 hcls (Qe3 (q:=min sl n) hop hb ht hargs hu hi hp (by rw [hll];exact Zk _ (Nat.min_le_right _ _)) (fun ι act w hR hE=>?_) (fun _ hc=>Qg0 hl hc) hh)
   obtain ⟨cs,g1,g2,g3,g4⟩:=hR.load0 hl
   have hv':=Qd hE hq
   generalize hw:act.eval q=qv at hv'
   cases hv' with
   | slGo _ _ _ cap hD hl2 hc2 =>
    have hrun:=run_loadCells_list (P:=X.P) w (ι.addr b) cs g3
    rw [g1] at hrun
    exact ⟨cs,sl,g2,rfl,rfl,by simp only [Builtin.firstCells];exact hrun⟩
   | slEmpty _ b' _ hD =>
    have:cs=[]:=Z1 (by simpa using g1)
    subst this
    exact ⟨[],0,g2,rfl,rfl,by simp [Builtin.firstCells,loadCells,loadCellsFrom]⟩
  ·rename_i s'
   split at hcv
   ·rename_i hs1
    replace hcv:=Q2 hcv;obtain ⟨H2,hh,hcv⟩:=hcv
    simp at hcv;obtain ⟨rfl,rfl⟩:=hcv
    have hb':(s'.data.toList.map fun b=>Value.int .u8 b.toNat)=byteCells s':=rfl
    rw [hb'] at hh
    refine Q43 hcls (Qe3 (q:=min s'.size n) hop hb ht hargs hu hi hp (by rw [hs1];simp;omega) (fun ι act w hR hE=>⟨(byteCells s').take n,s'.size,?_,?_,rfl,?_⟩) (fun _ _ v hv=>Q0v (Z3 (Q2w s') v (List.mem_of_mem_take hv)) _) hh)
    ·refine Q07.refl_leaf ?_ ι _
     rw [List.all_eq_true]
     exact fun v hv=>Z3 (Q2w s') v (List.mem_of_mem_take hv)
    ·rw [(Qd hE hq).inv_str];rfl
    ·rw [(Qd hE hq).inv_str]
     simp only [Builtin.firstCells,Sem.run_pure,byteCells]
     congr 1
     apply Array.ext'
     have e1:(s'.extract 0 (min s'.size n)).data.toList=s'.data.toList.take (min s'.size n):=by simp [ByteArray.data_extract]
     rw [Array.toList_map,e1,List.map_take]
     have e2:s'.size=(s'.data.toList.map fun b=>Value.int .u8 b.toNat).length:=by simp
     rw [e2,Nat.min_comm,← List.take_take,List.take_length]
   ·simp at hcv
  ·simp at hcv
 ·simp at h
theorem Q8s (hX:Q1s X.P X.call) (h:Q38 X o env H K=some r):∃ v H',K v H'=some r∧OpF X o env H v H':=by
 have c0:∀ {op:Op},o.op=op→Q24 X.P op=0→Q24 X.P o.op=0:=fun e h=>by rw [e];exact h
 have c1:∀ {op:Op},o.op=op→Q24 X.P op=1→Q24 X.P o.op=1:=fun e h=>by rw [e];exact h
 have c2:∀ {op:Op},o.op=op→Q24 X.P op=2→Q24 X.P o.op=2:=fun e h=>by rw [e];exact h
 have c3:∀ {op:Op},o.op=op→Q24 X.P op=3→Q24 X.P o.op=3:=fun e h=>by rw [e];exact h
 unfold Q38 at h
 split at h
 ·rename_i x hop
  replace h:=Q2 h;obtain ⟨v,hv,h⟩:=h
  exact ⟨v,H,h,Q02 (c0 hop rfl) (Qpg hop hv)⟩
 ·rename_i x hop
  replace h:=Q2 h;obtain ⟨v,hv,h⟩:=h
  exact ⟨v,H,h,Q02 (c0 hop rfl) (Qjr hop hv)⟩
 ·rename_i c a b hop
  replace h:=Q2 h;obtain ⟨v,hv,h⟩:=h
  replace h:=Q8r h;obtain ⟨t,rfl,h⟩:=h
  rcases Q0b h with ⟨rfl,h⟩ | ⟨rfl,h⟩
  ·replace h:=Q2 h;obtain ⟨u,hu,h⟩:=h
   exact ⟨u,H,h,Q02 (c0 hop rfl) (Qhh hop hv (by simpa using hu))⟩
  ·replace h:=Q2 h;obtain ⟨u,hu,h⟩:=h
   exact ⟨u,H,h,Q02 (c0 hop rfl) (Qhh hop hv (by simpa using hu))⟩
 ·rename_i t hop
  replace h:=Q2 h;obtain ⟨z,hz,h⟩:=h
  split at h
  ·rename_i hl
   exact ⟨_,_,h,Q5d (c2 hop rfl) (Qiy hop hz hl)⟩
  ·simp at h
 ·rename_i t x hop
  replace h:=Q2 h;obtain ⟨v,hv,h⟩:=h
  split at h
  ·rename_i hl
   exact ⟨_,_,h,Q5d (c2 hop rfl) (Qnw hop hv hl)⟩
  ·simp at h
 ·rename_i t parts hop
  replace h:=Q2 h;obtain ⟨ps,hp,h⟩:=h
  replace h:=Q2 h;obtain ⟨cs,hc,h⟩:=h
  exact ⟨_,_,h,Q02 (c0 hop rfl) (Qm1 hop hp hc)⟩
 ·rename_i t len parts hop
  replace h:=Q2 h;obtain ⟨ps,hp,h⟩:=h
  replace h:=Q2 h;obtain ⟨⟨e,size,bytes,z⟩,he,h⟩:=h
  simp only at h
  split at h
  ·rename_i h1
   replace h:=Q2 h;obtain ⟨cs,hc,h⟩:=h
   split at h
   ·rename_i g1 g2
    exact ⟨_,_,h,Q5d (c2 hop rfl) (Qa0 hop hp he h1 hc g1 (Z7 g2))⟩
   ·simp at h
  ·simp at h
 ·rename_i t x hop
  split at h
  ·rename_i v hg
   exact ⟨v,H,h,Q7n (c1 hop rfl) (Qix hop hg)⟩
  replace h:=Q2 h;obtain ⟨v,hv,h⟩:=h
  replace h:=Q4f h;obtain ⟨p,rfl,h⟩:=h
  replace h:=Q2 h;obtain ⟨i,hi,h⟩:=h
  split at h
  ·rename_i fs hu
   replace h:=Q2 h;obtain ⟨l,hl,h⟩:=h
   split at h
   ·exact ⟨_,_,Q81 h,Q7n (c1 hop rfl) (Q7k hop hv hi hu (.inl ⟨_,rfl⟩) hl)⟩
   ·simp at h
  ·rename_i n e hu
   replace h:=Q2 h;obtain ⟨l,hl,h⟩:=h
   split at h
   ·exact ⟨_,_,Q81 h,Q7n (c1 hop rfl) (Q7k hop hv hi hu (.inr ⟨_,_,rfl⟩) hl)⟩
   ·simp at h
  ·rename_i d n1 n2 hu
   replace h:=Q2 h;obtain ⟨u,hl,h⟩:=h
   split at h
   ·exact ⟨_,_,Qex h,Q7n (c1 hop rfl) (Qnu hop hv hi hu ⟨fun fs e=>n1 fs (by rw [← e]),fun n e' e=>n2 n e' (by rw [← e])⟩ hl)⟩
   ·simp at h
  ·simp at h
 ·rename_i t x y hop
  replace h:=Q2 h;obtain ⟨v,hv,h⟩:=h
  replace h:=Q2 h;obtain ⟨u,hu,h⟩:=h
  replace h:=Q4f h;obtain ⟨p,rfl,h⟩:=h
  replace h:=Q2 h;obtain ⟨i,hi,h⟩:=h
  split at h
  ·rename_i hs
   replace h:=Q2 h;obtain ⟨H',hh,h⟩:=h
   exact ⟨_,_,h,Q43 (c3 hop rfl) (Qnx hop hv hu hi hs hh)⟩
  ·simp at h
 ·rename_i x hop
  replace h:=Q2 h;obtain ⟨v,hv,h⟩:=h
  split at h
  ·exact ⟨_,_,h,Q02 (c0 hop rfl) (Q82 hop hv)⟩
  ·replace h:=Q4f h;obtain ⟨p,rfl,h⟩:=h
   exact ⟨_,_,h,Q02 (c0 hop rfl) (Q96 hop hv)⟩
 ·rename_i op t x y t' hop
  replace h:=Q2 h;obtain ⟨v,hv,h⟩:=h
  replace h:=Q2 h;obtain ⟨u,hu,h⟩:=h
  obtain ⟨z,h1,h2⟩:=Qpm hop hv hu h
  exact ⟨_,_,h1,Q02 (c0 hop rfl) h2⟩
 ·rename_i op t x hop
  replace h:=Q2 h;obtain ⟨v,hv,h⟩:=h
  obtain ⟨z,h1,h2⟩:=Qez h
  exact ⟨_,_,h2,Q02 (c0 hop rfl) (Qph hop hv h1)⟩
 ·rename_i src dst x hop
  replace h:=Q2 h;obtain ⟨v,hv,h⟩:=h
  unfold Qmt at h
  split at h
  ·rename_i k0 k k' n h1 h2
   exact ⟨_,_,h,Q02 (c0 hop (by simp [Q24,h1,h2])) (Qfx hop hv h1 h2)⟩
  ·rename_i s h1 h2
   exact ⟨_,_,h,Q02 (c0 hop (by simp [Q24,h1,h2])) (Qfy hop hv h1 h2)⟩
  ·rename_i e a n c h1 h2
   split at h
   ·rename_i h3
    replace h:=Q2 h;obtain ⟨l,hl,h⟩:=h
    replace h:=Q2 h;obtain ⟨bs,hb,h⟩:=h
    exact ⟨_,_,h,Q7n (c1 hop (by simp [Q24,h1])) (Qcf hop hv h1 h2 h3 hl hb)⟩
   ·simp at h
  ·rename_i e s h1 h2
   split at h
   ·rename_i h3
    exact ⟨_,_,h,Q5d (c2 hop (by simp [Q24,h1,h2])) (Qe1 hop hv h1 h2 h3)⟩
   ·simp at h
  ·simp at h
 ·rename_i f first cap hop
  replace h:=Q2 h;obtain ⟨fs,hf,h⟩:=h
  replace h:=Q2 h;obtain ⟨cs,hc,h⟩:=h
  exact ⟨_,_,h,Q02 (c0 hop rfl) (Qey hop hf hc)⟩
 ·rename_i t l c hop
  replace h:=Q2 h;obtain ⟨v,hv,h⟩:=h
  replace h:=Q2 h;obtain ⟨u,hu,h⟩:=h
  replace h:=Q98 h;obtain ⟨n,rfl,h⟩:=h
  replace h:=Q98 h;obtain ⟨m,rfl,h⟩:=h
  replace h:=Q2 h;obtain ⟨⟨e,size,bytes,z⟩,he,h⟩:=h
  simp only at h
  rcases Q0b h with ⟨hc,h⟩ | ⟨_,h⟩
  ·simp only [Z8] at hc
   exact ⟨_,_,h,Q5d (c2 hop rfl) (Qan hop hv hu he (Zi hc.1) (Zi hc.2))⟩
  ·simp at h
 ·rename_i t x lo hi hop
  replace h:=Q2 h;obtain ⟨v,hv,h⟩:=h
  split at h
  ·rename_i p n c
   split at h
   ·rename_i e hu
    replace h:=Q2 h;obtain ⟨i,hi',h⟩:=h
    replace h:=Q3y h;obtain ⟨hb,h,hhi⟩:=h
    replace h:=Q3y h;obtain ⟨lb,h,hlo⟩:=h
    replace h:=Q2 h;obtain ⟨u,hsv,h⟩:=h
    replace h:=Qlh h;obtain ⟨a',n',c',hu',h⟩:=h
    rw [← hu'] at h
    refine ⟨_,_,h,Q02 (c0 hop rfl) ?_⟩
    unfold Q1e at hsv
    split at hsv
    ·rcases Q0b hsv with ⟨hc,hsv'⟩ | ⟨_,hsv'⟩
     ·clear hsv
      simp only [Z8] at hc
      obtain ⟨⟨⟨q1,q2⟩,q3⟩,q4⟩:=hc
      have q3:=Z7 q3
      have q4:=Z7 q4
      subst q3;subst q4
      simp only [Option.some.injEq] at hsv';rw [← hsv']
      exact Qdv hop hv hu hi' hhi hlo (Zi q1) (Zi q2)
     ·simp at hsv'
    ·rcases Q0b hsv with ⟨hc,hsv'⟩ | ⟨_,hsv'⟩
     ·clear hsv
      simp only [Z8] at hc
      obtain ⟨⟨q1,q2⟩,q3⟩:=hc
      have q3:=Z7 q3
      simp only [Option.some.injEq] at hsv';rw [← hsv']
      exact Qly hop hv hu hi' hhi hlo (Zi q1) (Zi q2) q3
     ·simp at hsv'
   ·simp at h
  ·rename_i s
   split at h
   ·rename_i hu
    replace h:=Q3y h;obtain ⟨hb,h,hhi⟩:=h
    replace h:=Q3y h;obtain ⟨lb,h,hlo⟩:=h
    rcases Q0b h with ⟨hc,h⟩ | ⟨_,h⟩
    ·simp only [Z8] at hc
     exact ⟨_,_,h,Q02 (c0 hop rfl) (Qdw hop hv hu hhi hlo (Zi hc.1) (Zi hc.2))⟩
    ·simp at h
   ·simp at h
  ·simp at h
 ·rename_i s x f hop
  replace h:=Q2 h;obtain ⟨v,hv,h⟩:=h
  replace h:=Q4f h;obtain ⟨p,rfl,h⟩:=h
  split at h
  ·rename_i fs hu
   replace h:=Q2 h;obtain ⟨fd,hf,h⟩:=h
   replace h:=Q2 h;obtain ⟨i,hi,h⟩:=h
   split at h
   ·rename_i hz
    exact ⟨_,_,h,Q02 (c0 hop rfl) (Qcl hop hv hu hf hi hz)⟩
   ·simp at h
  ·simp at h
 ·rename_i t x f hop
  replace h:=Q2 h;obtain ⟨v,hv,h⟩:=h
  split at h
  ·rename_i cs
   split at h
   ·rename_i fs hu
    replace h:=Q2 h;obtain ⟨fd,hf,h⟩:=h
    replace h:=Q2 h;obtain ⟨u,hp,h⟩:=h
    exact ⟨_,_,h,Q02 (c0 hop rfl) (Qmw hop hv hu hf hp)⟩
   ·simp at h
  ·simp at h
 ·rename_i t x ix hop
  replace h:=Q2 h;obtain ⟨v,hv,h⟩:=h
  replace h:=Q2 h;obtain ⟨j,hj,h⟩:=h
  split at h
  ·rename_i e hu
   replace h:=Qlg h;obtain ⟨p,n,c,rfl,h⟩:=h
   replace h:=Q2 h;obtain ⟨i,hi,h⟩:=h
   replace h:=Q84 h;obtain ⟨kd,k,rfl,h⟩:=h
   rcases Q0b h with ⟨hk,h⟩ | ⟨_,h⟩
   ·have hk:k+1≤n:=by simpa [Nat.blt] using hk
    exact ⟨_,_,h,Q02 (c0 hop rfl) (Qcm hop hv hj hu hi hk)⟩
   ·simp at h
  ·rename_i n e hu
   replace h:=Q4f h;obtain ⟨p,rfl,h⟩:=h
   replace h:=Q2 h;obtain ⟨i,hi,h⟩:=h
   replace h:=Q84 h;obtain ⟨kd,k,rfl,h⟩:=h
   rcases Q0b h with ⟨hk,h⟩ | ⟨_,h⟩
   ·have hk:k+1≤n:=by simpa [Nat.blt] using hk
    exact ⟨_,_,h,Q02 (c0 hop rfl) (Qf0 hop hv hj hu hi hk)⟩
   ·simp at h
  ·simp at h
 ·rename_i t x ix hop
  replace h:=Q2 h;obtain ⟨v,hv,h⟩:=h
  replace h:=Q2 h;obtain ⟨j,hj,h⟩:=h
  split at h
  ·rename_i s
   split at h
   ·rename_i hu
    replace h:=Q84 h;obtain ⟨kd,k,rfl,h⟩:=h
    replace h:=Q2 h;obtain ⟨b,hb,h⟩:=h
    exact ⟨_,_,h,Q02 (c0 hop rfl) (Qmx hop hv hj hu hb)⟩
   ·simp at h
  ·rename_i cs
   split at h
   ·rename_i n e hu
    replace h:=Q2 h;obtain ⟨i,hi,h⟩:=h
    replace h:=Q84 h;obtain ⟨kd,k,rfl,h⟩:=h
    rcases Q0b h with ⟨hk,h⟩ | ⟨_,h⟩
    ·have hk:k+1≤n:=by simpa [Nat.blt] using hk
     replace h:=Q2 h;obtain ⟨u,hp,h⟩:=h
     exact ⟨_,_,h,Q02 (c0 hop rfl) (Qf1 hop hv hj hu hi hk hp)⟩
    ·simp at h
   ·simp at h
  ·simp at h
 ·rename_i x i hop
  replace h:=Q2 h;obtain ⟨v,hv,h⟩:=h
  split at h
  ·rename_i vs
   replace h:=Q2 h;obtain ⟨u,hu,h⟩:=h
   exact ⟨_,_,h,Q02 (c0 hop rfl) (Qhi hop hv hu)⟩
  ·simp at h
 ·rename_i c hop
  split at h
  ·rename_i b hb
   replace h:=Q2 h;obtain ⟨vs,hv,h⟩:=h
   exact Qe4 hop hb hv h
  ·rename_i f hf
   replace h:=Q2 h;obtain ⟨g,hg,h⟩:=h
   replace h:=Q2 h;obtain ⟨vs,hv,h⟩:=h
   have hcls:Q24 X.P o.op=3:=by
    rw [hop]
    obtain ⟨callee,args,ts⟩:=c
    simp only at hf
    subst hf
    rfl
   split at h
   ·rename_i n first cap
    replace h:=Q2 h;obtain ⟨⟨rv,rh⟩,hr,h⟩:=h
    have hk:K rv rh=some r:=by
     simp only at h
     split at h
     ·exact Qsf h
     ·exact h
    exact ⟨_,_,hk,Q43 hcls (Qrc hop hf hg hv (hX _ _ _ _ _ _ hr))⟩
   ·simp at h
  ·simp at h
 ·simp at h
end
end Go.Ev
open Go.MapKept
namespace Go.Ev
def ML (l:List MapEntry) (es:List (Int×Int)):Prop:=l.map (fun e=>(e.key,e.val))=es.map fun p=>(Value.int .i64 p.1,Value.int .i64 p.2)
theorem Qe5 (k:Int):∀ (l:List MapEntry) (es:List (Int×Int)) (i:Nat),ML l es →
  (Q0s es k=none∧Instr.findNow (.int .i64) (.int .i64 k) l i=some none∧∀ v,Q94 es k v=es++[(k,v)]) ∨
  ∃ j v0 e,Q0s es k=some v0∧Instr.findNow (.int .i64) (.int .i64 k) l i=some (some (i+j,.int .i64 v0))∧l[j]? = some e∧e.key=.int .i64 k ∧
   ∀ v,ML (l.modify j fun e=>{ e with key:=.int .i64 k,val:=.int .i64 v }) (Q94 es k v)
 | [],es,i,h=>by
  have:es=[]:=by simpa [ML] using h
  subst this
  exact .inl ⟨rfl,rfl,fun v=>rfl⟩
 | e::l,[],i,h=>by simp [ML] at h
 | e::l,(a,u)::es,i,h=>by
  unfold ML at h
  rw [List.map_cons,List.map_cons,List.cons.injEq,Prod.mk.injEq] at h
  obtain ⟨⟨h1,h2⟩,h3⟩:=h
  cases hb:k==a with
  | true =>
   have hka:k=a:=by simpa using hb
   subst hka
   refine .inr ⟨0,u,e,by simp [Q0s],by simp [Instr.findNow,Instr.sameNow,h1,h2],rfl,h1,fun v=>?_⟩
   unfold ML
   simp only [Q94,hb]
   simp [h3]
  | false =>
   have hs:Instr.sameNow (.int .i64) (.int .i64 k) e.key=some false:=by simp [Instr.sameNow,h1];simpa using hb
   rcases Qe5 k l es (i+1) h3 with ⟨g1,g2,g3⟩ | ⟨j,v0,e',g1,g2,g3,g4,g5⟩
   ·exact .inl ⟨by simp only [Q0s,hb,g1],by simp only [Instr.findNow,hs,g2],fun v=>by simp only [Q94,hb,g3 v];rfl⟩
   ·refine .inr ⟨j+1,v0,e',by simp only [Q0s,hb,g1],by simp only [Instr.findNow,hs,g2];congr 3;omega,by simpa using g3,g4,fun v=>?_⟩
    have:=g5 v
    unfold ML at this ⊢
    simp only [Q94,hb,List.modify_succ_cons,List.map_cons,this,h1,h2]
theorem Qao {P:Program} {t:TypeId} (h:Q9q P t=true) :
  ∃ k e i,P.underlying t=some (.map k e)∧P.underlying k=some (.int .i64)∧P.underlying e=some (.int .i64)∧P.info? e=some i∧i.zero=some (.int .i64 0):=by
 unfold Q9q at h
 split at h
 ·rename_i k e hu
  split at h
  ·rename_i z h1 h2 h3
   obtain ⟨i,hi,hz⟩:=Q2 h3
   have:z=0:=by simpa using h
   subst this
   exact ⟨k,e,i,hu,h1,h2,hi,hz⟩
  ·simp at h
 ·simp at h
theorem Q1z (H:Heap):(Q3x H).length=H.length+1:=by simp [Q3x]
theorem Q6p (H:Heap):hget (Q3x H) H.length=some ⟨[],false,some []⟩:=Q3m H _
theorem Q7o {H:Heap} {b:Nat} (hb:b < H.length):hget (Q3x H) b=hget H b:=Q0h hb
theorem Rel.mapSet {ι:Io} {D:Nat→Prop} {H:Heap} {w w':World} (h:Rel ι D H w) {b:Nat} {k:Blk} (hk:hget H b=some k) (hro:k.ro=false) (hs:(ι b).size=0) {es:List (Int×Int)} (h1:w'.heap.size=w.heap.size)
  (h2:∀ q,q≠(ι b).blk→w'.heap[q]? = w.heap[q]?) (h3:Qzn w' (ι b).blk es) (e1:w'.os=w.os) (e2:w'.tape=w.tape) (e3:w'.output=w.output) :
  Rel ι D (H.set b (some ⟨[],false,some es⟩)) w'∧Fr ι H w ι (H.set b (some ⟨[],false,some es⟩)) w':=by
 have hlt:=Qs hk
 have hb:=h.blk b k hk
 have hcases:∀ {c:Nat} {q:Blk},hget (H.set b (some ⟨[],false,some es⟩)) c=some q→(c=b∧q=⟨[],false,some es⟩)∨(c≠b∧hget H c=some q):=by
  intro c q hq
  by_cases e:b=c
  ·subst e;rw [Q00 hlt] at hq;injection hq with hq;exact .inl ⟨rfl,hq.symm⟩
  ·rw [Qm e] at hq;exact .inr ⟨fun x=>e x.symm,hq⟩
 refine ⟨⟨fun c q hq=>?_,fun c c' q q' g1 g2 hne hr=>?_,fun c q hq hr=>?_,h.gw.stable (by omega) (fun q hq=>h2 q (by have:=h.nog b k hk hro;omega))⟩,⟨by simp,fun _ _=>rfl,e1,e2,e3,by omega,fun q hq hn=>h2 q (Ne.symm (hn b k hk hro)),fun c q hq hr=>?_,fun c q hq hr=>?_⟩⟩
 ·rcases hcases hq with ⟨rfl,rfl⟩ | ⟨g1,g2⟩
  ·have:=hb.fit
   exact ⟨by have:=hb.lt;omega,fun h0=>by omega,fun es' he=>by simp at he;subst he;exact ⟨rfl,hs,h3⟩,by simp;omega,fun i hi=>absurd hi (by simp),fun _ i q1 q2=>by omega⟩
  ·exact (h.blk c q g2).of_block (h2 _ (h.inj c b q k g2 hk g1 (.inr hro))) rfl (fun _ _ _ x=>x)
 ·rcases hcases g1 with ⟨rfl,rfl⟩ | ⟨p1,p2⟩<;>rcases hcases g2 with ⟨rfl,rfl⟩ | ⟨q1,q2⟩
  ·exact absurd rfl hne
  ·exact h.inj c c' k q' hk q2 hne (.inl hro)
  ·exact h.inj c c' q k p2 hk hne (.inr hro)
  ·exact h.inj c c' q q' p2 q2 hne hr
 ·rcases hcases hq with ⟨rfl,rfl⟩ | ⟨_,g2⟩
  ·exact h.nog _ k hk hro
  ·exact h.nog c q g2 hr
 ·rcases hcases hq with ⟨rfl,rfl⟩ | ⟨g1,g2⟩
  ·exact .inr ⟨c,k,hk,hro,rfl⟩
  ·exact .inr ⟨c,q,g2,hr,rfl⟩
 ·rcases hcases hq with ⟨rfl,rfl⟩ | ⟨g1,g2⟩
  ·simp at hr
  ·exact g2
theorem Rel.mapNew {ι:Io} {H:Heap} {w:World} (h:Rel ι (Bel H.length) H w) :
  Rel (ι.set H.length ⟨w.heap.size,0,0⟩) (Bel (Q3x H).length) (Q3x H) (w.alloc (.map #[] 0)) ∧
  Fr ι H w (ι.set H.length ⟨w.heap.size,0,0⟩) (Q3x H) (w.alloc (.map #[] 0)):=by
 have hlen:(Q3x H).length=H.length+1:=Q1z H
 have hcases:∀ {c:Nat} {q:Blk},hget (Q3x H) c=some q→(c < H.length∧hget H c=some q)∨(c=H.length∧q=⟨[],false,some []⟩):=by
  intro c q hq
  have hlt:=Qs hq
  rw [hlen] at hlt
  by_cases e:c=H.length
  ·subst e;rw [Q6p] at hq;exact .inr ⟨rfl,(Option.some.inj hq).symm⟩
  ·rw [Q7o (by omega)] at hq;exact .inl ⟨by omega,hq⟩
 have hup:∀ {v c:Value},VRel ι (Bel H.length) v c→VRel (ι.set H.length ⟨w.heap.size,0,0⟩) (Bel (Q3x H).length) v c :=
  fun hr=>hr.mono (Bel.mono (by omega)) fun c hc=>Io.set_ne _ _ (by simp [Bel] at hc;omega)
 refine ⟨⟨fun c q hq=>?_,fun c c' q q' g1 g2 hne hr=>?_,fun c q hq hr=>?_,h.gw.stable (by simp) (fun q hq=>Q1a _ _ (by have:=h.gw.1;omega))⟩,⟨by omega,fun c hc=>Io.set_ne _ _ (by omega),rfl,rfl,rfl,by simp,fun q hq _=>Q1a _ _ hq,fun c q hq hr=>?_,fun c q hq hr=>?_⟩⟩
 ·rcases hcases hq with ⟨g1,g2⟩ | ⟨rfl,rfl⟩
  ·exact (h.blk c q g2).of_block (Q1a _ _ (h.lt g2)) (Io.set_ne _ _ (by omega)) (fun i hi c hr=>hup hr)
  ·refine ⟨by rw [Io.set_same];simp,fun h0=>by rw [Io.set_same] at h0;simp at h0,fun es' he=>?_,by rw [Io.set_same];simp,fun i hi=>absurd hi (by simp),fun _ i q1 q2=>by rw [Io.set_same] at q2;simp at q2⟩
   simp at he;subst he
   exact ⟨rfl,by rw [Io.set_same],by rw [Io.set_same];exact ⟨#[],0,Q2u _ _,rfl⟩⟩
 ·rcases hcases g1 with ⟨p1,p2⟩ | ⟨rfl,rfl⟩<;>rcases hcases g2 with ⟨q1,q2⟩ | ⟨rfl,rfl⟩
  ·rw [Io.set_ne _ _ (by omega),Io.set_ne _ _ (by omega)];exact h.inj c c' q q' p2 q2 hne hr
  ·rw [Io.set_ne _ _ (by omega),Io.set_same];have:=h.lt p2;simp only;omega
  ·rw [Io.set_same,Io.set_ne _ _ (by omega)];have:=h.lt q2;simp only;omega
  ·exact absurd rfl hne
 ·rcases hcases hq with ⟨g1,g2⟩ | ⟨rfl,rfl⟩
  ·rw [Io.set_ne _ _ (by omega)];exact h.nog c q g2 hr
  ·rw [Io.set_same];exact h.gw.1
 ·rcases hcases hq with ⟨g1,g2⟩ | ⟨rfl,rfl⟩
  ·exact .inr ⟨c,q,g2,hr,by rw [Io.set_ne _ _ (by omega)]⟩
  ·exact .inl (by rw [Io.set_same];exact Zd _)
 ·rcases hcases hq with ⟨g1,g2⟩ | ⟨rfl,rfl⟩
  ·exact g2
  ·simp at hr
section
variable {P:Program} {nt lim:Nat} {o:Oper} {env:Env} {H H':Heap} {X:Cx} {β:Type} {K:Value→Heap→Option β} {r:β}
theorem Qg3 {b:Nat} {es:List (Int×Int)} (h:Qw6 H b=some es):∃ k,hget H b=some k∧k.ro=false∧k.mp=some es:=by
 obtain ⟨k,hk,h⟩:=Q2 h
 split at h
 ·exact ⟨k,hk,by assumption,h⟩
 ·simp at h
theorem Qg4 {v:Value} {F:Nat→Option β} (h:Qx3 v F=some r):∃ b,v=.map (some b)∧F b=some r:=by
 unfold Qx3 at h
 split at h
 ·exact ⟨_,rfl,h⟩
 ·simp at h
theorem Qap {v:Value} {F:Int→Option β} (h:Qw7 v F=some r):∃ n,v=.int .i64 n∧F n=some r:=by
 unfold Qw7 at h
 split at h
 ·exact ⟨_,rfl,h⟩
 ·simp at h
theorem VRel.inv_map {ι:Io} {D:Nat→Prop} {b:Nat} {c:Value} (h:VRel ι D (.map (some b)) c):c=.map (some (ι b).blk):=by cases h;rfl
theorem Qj1 {t:TypeId} (ho:o.op=.makeMap t none):EffF P nt lim o env H (.map (some H.length)) (Q3x H):=by
 refine ⟨fun _ _=>.map _ (by rw [Q1z];simp [Bel]),fun _ _=>?_,fun ι a w hR he next Q hn=>?_⟩
 ·have hc:∀ {c:Nat} {q:Blk},hget (Q3x H) c=some q→∀ v∈q.cells,hget H c=some q:=by
   intro c q hq v hv
   by_cases e:c < H.length
   ·rw [Q7o e] at hq;exact hq
   ·have hlt:=Qs hq
    rw [Q1z] at hlt
    have e:c=H.length:=by omega
    subst e
    rw [Q6p] at hq
    obtain rfl:=Option.some.inj hq
    simp at hv
  exact ⟨by rw [Q1z];omega,fun h c hcl q hq v hv=>(h c (Qs (hc hq v hv)) q (hc hq v hv) v hv).mono (Bel.mono (by rw [Q1z];omega)),fun m _ _ h c hcl q hq v hv=>h c hcl q (hc hq v hv) v hv⟩
 ·obtain ⟨g1,g2⟩:=hR.mapNew
  have hrun:(execOp a.eval o).run P w=.ok (.value (.map (some w.heap.size))) (w.alloc (.map #[] 0)):=by
   simp only [execOp,ho,Option.map_none,Sem.run_bind,Instr.makeMap,Sem.run_pure,run_newObj,Result.andThen_ok]
   rfl
  refine Q14 hrun (hn _ _ _ g1 ?_ g2)
  have:=VRel.map (ι:=ι.set H.length ⟨w.heap.size,0,0⟩) (D:=Bel (Q3x H).length) H.length (by rw [Q1z];simp [Bel])
  rw [Io.set_same] at this
  exact this
theorem Qe6 {t:TypeId} {m x y:Operand} {b:Nat} {k v:Int} {es:List (Int×Int)} (ho:o.op=.mapUpdate t m x y) (ht:Q9q P t=true) (hm:ev env m=some (.map (some b))) (hx:ev env x=some (.int .i64 k)) (hy:ev env y=some (.int .i64 v))
  (hb:Qw6 H b=some es):EffF P nt lim o env H undef (H.set b (some ⟨[],false,some (Q94 es k v)⟩)):=by
 obtain ⟨kb,hk,hro,hmp⟩:=Qg3 hb
 have hlt:=Qs hk
 obtain ⟨kt,et,i,u1,u2,u3,u4,u5⟩:=Qao ht
 refine ⟨fun _ _=>Q7m _,fun _ _=>?_,fun ι a w hR he next Q hn=>?_⟩
 ·have hc:∀ {c:Nat} {q:Blk},hget (H.set b (some ⟨[],false,some (Q94 es k v)⟩)) c=some q→∀ v∈q.cells,hget H c=some q:=by
   intro c q hq v hv
   by_cases e:b=c
   ·subst e
    rw [Q00 hlt] at hq
    obtain rfl:=Option.some.inj hq
    simp at hv
   ·rw [Qm e] at hq;exact hq
  exact ⟨by simp,fun h c hcl q hq v hv=>by rw [List.length_set];exact h c (Qs (hc hq v hv)) q (hc hq v hv) v hv,fun m _ _ h c hcl q hq v hv=>h c hcl q (hc hq v hv) v hv⟩
 ·obtain ⟨hcells,hsize,ents,clock,hobj,hML⟩:=(hR.blk b kb hk).map es hmp
  have ex:=(Qd he hm).inv_map
  have ek:=(Qd he hx).inv_int
  have ey:=(Qd he hy).inv_int
  have hkey:IsKey (.int .i64) (.int .i64 k):=by simp [IsKey]
  have main:∀ ents' clock',ML ents'.toList (Q94 es k v)→(Instr.mapUpdate t (.map (some (ι b).blk)) (.int .i64 k) (.int .i64 v)).run P w=.ok () { w with heap:=w.heap.setIfInBounds (ι b).blk (.map ents' clock') }→o.wp P a w next Q:=by
   intro ents' clock' h1 hrun
   obtain ⟨q1,q2⟩:=MapKept.heap_set (o':=.map ents' clock') hobj
   obtain ⟨g1,g2⟩:=hR.mapSet (w':={ w with heap:=w.heap.setIfInBounds (ι b).blk (.map ents' clock') }) hk hro hsize (es:=Q94 es k v) (by simp) q2 ⟨ents',clock',q1,h1⟩ rfl rfl rfl
   have hrun':(execOp a.eval o).run P w=.ok .skip { w with heap:=w.heap.setIfInBounds (ι b).blk (.map ents' clock') }:=by
    simp only [execOp,ho,ex,ek,ey,Sem.run_bind,hrun,Result.andThen_ok,Sem.run_pure]
   unfold Oper.wp;rw [hrun']
   have hl:(H.set b (some (⟨[],false,some (Q94 es k v)⟩:Blk))).length=H.length:=by simp
   rw [← hl] at g1
   exact hn ι _ undef g1 (Q4a _ _) g2
  rcases Qe5 k ents.toList es 0 hML with ⟨f1,f2,f3⟩ | ⟨j,v0,e,f1,f2,f3,f4,f5⟩
  ·refine main (ents.push { key:=.int .i64 k,val:=.int .i64 v,born:=clock }) (clock+1) ?_ ?_
   ·rw [f3 v];unfold ML;simp;simpa using hML
   ·simp [Instr.mapUpdate,run_underlying u1,MapKept.run_getObj_map hobj,MapKept.run_checkKey u2 hkey,MapKept.run_findKey u2 f2,MapKept.run_setObj_map _ hobj,Result.andThen]
  ·refine main (ents.modify j fun e=>{ e with key:=.int .i64 k,val:=.int .i64 v }) clock ?_ ?_
   ·have:=f5 v
    rwa [← Array.toList_modify] at this
   ·have hj:ents[j]? = some e:=by rw [← Array.getElem?_toList];exact f3
    rw [Zo] at f2
    simp [Instr.mapUpdate,run_underlying u1,MapKept.run_getObj_map hobj,MapKept.run_checkKey u2 hkey,MapKept.run_findKey u2 f2,hj,f4,MapKept.run_keyThatStays hkey,MapKept.run_setObj_map _ hobj,Result.andThen]
theorem Qm4 {t:TypeId} {m x:Operand} {ok:Bool} {b:Nat} {k:Int} {es:List (Int×Int)} (ho:o.op=.lookup t m x ok) (ht:Q9q P t=true) (hm:ev env m=some (.map (some b))) (hx:ev env x=some (.int .i64 k))
  (hb:Qw6 H b=some es):EffF P nt lim o env H (Qb6 ok (Q0s es k)) H:=by
 obtain ⟨kb,hk,hro,hmp⟩:=Qg3 hb
 obtain ⟨kt,et,i,u1,u2,u3,u4,u5⟩:=Qao ht
 have hrel:∀ (ι:Io) (D:Nat→Prop) (ok:Bool) (x:Option Int),VRel ι D (Qb6 ok x) (Qb6 ok x):=by
  intro ι D ok x
  cases ok with
  | true =>
   refine .tuple _ _ rfl fun i h1 h2=>?_
   simp at h1
   rcases (show i=0∨i=1 by omega) with rfl | rfl
   ·exact .int _ _
   ·exact .bool _
  | false=>exact .int _ _
 refine ⟨fun _ _=>(hrel (fun _=>⟨0,0,0⟩) _ _ _).lt,fun _ _=>Ab.refl _ _,fun ι a w hR he next Q hn=>?_⟩
 obtain ⟨hcells,hsize,ents,clock,hobj,hML⟩:=(hR.blk b kb hk).map es hmp
 have ex:=(Qd he hm).inv_map
 have ek:=(Qd he hx).inv_int
 have hkey:IsKey (.int .i64) (.int .i64 k):=by simp [IsKey]
 have hzero:(zeroValue et).run P w=.ok (.int .i64 0) w:=by
  simp only [zeroValue,typeInfo,Sem.run_bind,run_program,Result.andThen_ok,u4,Sem.run_pure,u5]
 have hrun:(execOp a.eval o).run P w=.ok (.value (Qb6 ok (Q0s es k))) w:=by
  rcases Qe5 k ents.toList es 0 hML with ⟨f1,f2,f3⟩ | ⟨j,v0,e,f1,f2,f3,f4,f5⟩
  ·rw [f1]
   cases ok<;>simp [execOp,ho,ex,ek,Instr.lookup,run_underlying u1,MapKept.run_getObj_map hobj,MapKept.run_checkKey u2 hkey,MapKept.run_findKey u2 f2,hzero,Qb6,Result.andThen]
  ·rw [f1]
   cases ok<;>simp [execOp,ho,ex,ek,Instr.lookup,run_underlying u1,MapKept.run_getObj_map hobj,MapKept.run_checkKey u2 hkey,MapKept.run_findKey u2 f2,Qb6,Result.andThen]
 exact Q14 hrun (hn ι w _ hR (hrel ι _ _ _) (Fr.refl ι H w))
def OpFM (X:Cx) (o:Oper) (env:Env) (H:Heap) (v:Value) (H':Heap):Prop:=OpF X o env H v H'∨EffF X.P X.nt X.lim o env H v H'
theorem Qaq (hX:Q1s X.P X.call) (h:Qer X o env H K=some r):∃ v H',K v H'=some r∧OpFM X o env H v H':=by
 unfold Qer at h
 split at h
 ·rename_i t ho
  exact ⟨_,_,h,.inr (Qj1 ho)⟩
 ·rename_i t m k v ho
  split at h
  ·rename_i ht
   replace h:=Q2 h;obtain ⟨mv,hm,h⟩:=h
   replace h:=Q2 h;obtain ⟨kv,hk,h⟩:=h
   replace h:=Q2 h;obtain ⟨vv,hv,h⟩:=h
   replace h:=Qg4 h;obtain ⟨b,rfl,h⟩:=h
   replace h:=Qap h;obtain ⟨a,rfl,h⟩:=h
   replace h:=Qap h;obtain ⟨u,rfl,h⟩:=h
   replace h:=Q2 h;obtain ⟨es,hb,h⟩:=h
   exact ⟨_,_,h,.inr (Qe6 ho ht hm hk hv hb)⟩
  ·simp at h
 ·rename_i t m k ok ho
  split at h
  ·rename_i ht
   replace h:=Q2 h;obtain ⟨mv,hm,h⟩:=h
   replace h:=Q2 h;obtain ⟨kv,hk,h⟩:=h
   replace h:=Qg4 h;obtain ⟨b,rfl,h⟩:=h
   replace h:=Qap h;obtain ⟨a,rfl,h⟩:=h
   replace h:=Q2 h;obtain ⟨es,hb,h⟩:=h
   exact ⟨_,_,h,.inr (Qm4 ho ht hm hk hb)⟩
  ·simp at h
 ·obtain ⟨v,H',h1,h2⟩:=Q8s hX h
  exact ⟨v,H',h1,.inl h2⟩
end
section
variable {o:Oper} {env:Env} {H H':Heap} {X:Cx} {β:Type} {r:β}
theorem Rel.closed {ι:Io} {w:World} (h:Rel ι (Bel H.length) H w):Ql H.length H:=by
 intro b hb k hk v hv
 obtain ⟨i,hi,e⟩:=List.getElem_of_mem hv
 obtain ⟨c,h1,h2,h3⟩:=(h.blk b k hk).cell i hi
 exact e▸h2.lt
theorem Qkk {v:Value} (h:OpF X o env H v H') (he:Q0o (Bel H.length) env) (hc:Ql H.length H):Ab X.lim H H'∧VLt (Bel H'.length) v:=by
 unfold OpF at h
 split at h
 ·obtain ⟨rfl,h⟩:=h;exact ⟨Ab.refl _ _,h.lt _ he⟩
 ·obtain ⟨rfl,raw,h⟩:=h;exact ⟨Ab.refl _ _,h.lt he hc⟩
 ·obtain ⟨vs,mk,rfl,rfl,h⟩:=h
  exact ⟨Qew _ (h.lt _ he),h.ltv _ _ (by simp [Bel,Qy])⟩
 ·exact ⟨h.ab he hc,h.lt he hc⟩
theorem Qv1 {v:Value} (h:OpF X o env H v H') {ι:Io} {a:Act} {w:World} (hR:Rel ι (Bel H.length) H w) (hE:ERel ι (Bel H.length) X.nt env a) {next:Act→World→Prop} {Q:Exit→Act→World→Prop}
  (hn:∀ ι' w' c,Rel ι' (Bel H'.length) H' w'→VRel ι' (Bel H'.length) v c→Fr ι H w ι' H' w'→next (a.put o.dst c) w'):o.wp X.P a w next Q:=by
 unfold OpF at h
 split at h
 ·obtain ⟨rfl,h⟩:=h
  obtain ⟨c,h1,h2⟩:=h.run ι _ a w hE
  exact Q14 h1 (hn ι w c hR h2 (Fr.refl _ _ _))
 ·obtain ⟨rfl,raw,h⟩:=h
  obtain ⟨c,h1,h2⟩:=h.run ι _ a w H' h.rd hR hE
  exact Q14 h1 (hn ι w c hR h2 (Fr.refl _ _ _))
 ·obtain ⟨vs,mk,rfl,rfl,h⟩:=h
  obtain ⟨cs,rest,ety,fz,w0,c,h1,h2,e1,e2,e3,e4,h3,h4⟩:=h.run ι _ a w hE
  obtain ⟨g1,g2⟩:=(hR.same_heap e1).push h1 h.cells rest ety fz h2
  have hw:w0.heap.size=w.heap.size:=by rw [e1]
  have h4':=h4 H.length
  rw [← hw] at h4'
  refine Q14 h3 (hn _ _ c g1 ?_ (((Fr.refl ι H w).same_heap e1 e2 e3 e4).trans g2))
  rw [Qy]
  exact h4'.mono (by intro b hb;simp [Bel] at hb ⊢;omega) fun _ _=>rfl
 ·exact h.run ι a w hR hE next Q hn
theorem Qnz {v:Value} (h:OpFM X o env H v H') (he:Q0o (Bel H.length) env) (hc:Ql H.length H):Ab X.lim H H'∧VLt (Bel H'.length) v:=by
 rcases h with h | h
 ·exact Qkk h he hc
 ·exact ⟨h.ab he hc,h.lt he hc⟩
theorem Qrd {v:Value} (h:OpFM X o env H v H') {ι:Io} {a:Act} {w:World} (hR:Rel ι (Bel H.length) H w) (hE:ERel ι (Bel H.length) X.nt env a) {next:Act→World→Prop} {Q:Exit→Act→World→Prop}
  (hn:∀ ι' w' c,Rel ι' (Bel H'.length) H' w'→VRel ι' (Bel H'.length) v c→Fr ι H w ι' H' w'→next (a.put o.dst c) w'):o.wp X.P a w next Q:=by
 rcases h with h | h
 ·exact Qv1 h hR hE hn
 ·exact h.run ι a w hR hE next Q hn
theorem Q2x {nt:Nat} {dst:Option Tmp} {v:Value} {K:Env→Option β} (h:Quj nt dst v env K=some r):∃ env',K env'=some r∧((dst=none∧env'=env)∨∃ d,dst=some d∧d < nt∧env'=(d,v)::env):=by
 unfold Quj at h
 split at h
 ·exact ⟨env,h,.inl ⟨rfl,rfl⟩⟩
 ·rename_i d
  split at h
  ·rename_i hd
   have hd':d+1≤nt:=by simpa [Nat.blt] using hd
   exact ⟨_,h,.inr ⟨d,rfl,hd',rfl⟩⟩
  ·simp at h
theorem Qo0 {ι:Io} {D:Nat→Prop} {nt:Nat} {env':Env} {a:Act} {dst:Option Tmp} {v c:Value} (hE:ERel ι D nt env a) (hv:VRel ι D v c) (h:(dst=none∧env'=env)∨∃ d,dst=some d∧d < nt∧env'=(d,v)::env):ERel ι D nt env' (a.put dst c):=by
 rcases h with ⟨rfl,rfl⟩ | ⟨d,rfl,hd,rfl⟩
 ·exact hE
 ·exact hE.put hd hv
theorem Qg5 {D:Nat→Prop} {nt:Nat} {env':Env} {dst:Option Tmp} {v:Value} (hE:Q0o D env) (hv:VLt D v) (h:(dst=none∧env'=env)∨∃ d,dst=some d∧d < nt∧env'=(d,v)::env):Q0o D env':=by
 rcases h with ⟨rfl,rfl⟩ | ⟨d,rfl,hd,rfl⟩
 ·exact hE
 ·exact hE.put hv
structure WantF (nt:Nat) (ops:Array Oper) (o:Oper) (env:Env) (t:Bool) (env':Env):Prop where
 run:∀ (ι:Io) (D:Nat→Prop) (a:Act),ERel ι D nt env a→ERel ι D nt env' a∧Region.wanted o (yielded ops a.tmps)=t
 lt:∀ D:Nat→Prop,Q0o D env→Q0o D env'
theorem Q5e {nt:Nat} {ops:Array Oper} {K:Bool→Env→Option β} (h:Q5m ops o env K=some r):∃ t env',K t env'=some r∧WantF nt ops o env t env':=by
 unfold Q5m at h
 split at h
 ·rename_i hg
  exact ⟨true,env,h,fun ι D a hE=>⟨hE,by simp [Region.wanted,hg]⟩,fun D hE=>hE⟩
 ·rename_i j want hg
  split at h
  ·rename_i d hd
   replace h:=Q2 h;obtain ⟨v,hv,h⟩:=h
   have hy:∀ (ι:Io) (D:Nat→Prop) (a:Act),ERel ι D nt env a→yielded ops a.tmps j=match v with | .bool b=>some b | _=>none:=by
    intro ι D a hE
    have hr:=hE.get d v hv
    unfold yielded
    rw [hd]
    simp only [Option.bind_some]
    by_cases hlt:d < a.tmps.size
    ·rw [Array.getElem?_eq_getElem hlt]
     have e:a.tmps.getD d undef=a.tmps[d]:=by simp [Array.getD,hlt]
     rw [e] at hr
     generalize a.tmps[d]=c at hr ⊢
     cases hr<;>rfl
    ·rw [Array.getElem?_eq_none (Nat.le_of_not_lt hlt)]
     have e:a.tmps.getD d undef=undef:=by simp [Array.getD,hlt]
     rw [e] at hr
     cases hr<;>rfl
   split at h
   ·rename_i b
    rcases Q0b h with ⟨rfl,h⟩ | ⟨rfl,h⟩
    ·refine ⟨_,_,h,fun ι D a hE=>⟨hE.lit hv,?_⟩,fun D hE=>hE.put (.bool _)⟩
     simp only [Region.wanted,hg,hy ι D a hE]
     cases want<;>rfl
    ·refine ⟨_,_,h,fun ι D a hE=>⟨hE.lit hv,?_⟩,fun D hE=>hE.put (.bool _)⟩
     simp only [Region.wanted,hg,hy ι D a hE]
     cases want<;>rfl
   ·rename_i hnb
    refine ⟨_,_,h,fun ι D a hE=>⟨hE,?_⟩,fun D hE=>hE⟩
    simp only [Region.wanted,hg,hy ι D a hE]
    cases v<;>first | rfl | exact absurd rfl (hnb _)
  ·simp at h
def exOf:AExit→Exit
 | .normal=>.normal
 | .exit id=>.exit id
 | .ret=>.ret
def Qxp (X:Cx) (ι₀:Io) (H₀:Heap) (w₀:World) (K:AExit→Env→Heap→Option β) (r:β) (ex:Exit) (a:Act) (w:World):Prop :=
 ∃ aex env ι H,exOf aex=ex∧Rel ι (Bel H.length) H w∧ERel ι (Bel H.length) X.nt env a∧Fr ι₀ H₀ w₀ ι H w∧Ab X.lim H₀ H∧a.defers=[]∧K aex env H=some r
theorem Qxp.later {ι₀ ι:Io} {H₀:Heap} {w₀ w:World} {K:AExit→Env→Heap→Option β} {ex:Exit} {a:Act} {w':World} (h:Qxp X ι H w K r ex a w') (hf:Fr ι₀ H₀ w₀ ι H w) (ha:Ab X.lim H₀ H):Qxp X ι₀ H₀ w₀ K r ex a w':=by
 obtain ⟨aex,env,ι',H',h1,h2,h3,h4,h5,h6,h7⟩:=h
 exact ⟨aex,env,ι',H',h1,h2,h3,hf.trans h4,ha.trans h5,h6,h7⟩
theorem Q3g (a:Act) (dst:Option Tmp) (c:Value):(a.put dst c).defers=a.defers:=by cases dst<;>rfl
theorem Qe7 (hX:Q1s X.P X.call) {ops:Array Oper} {K:Env→Heap→Option β} {Q:Exit→Act→World→Prop}:∀ (l:List Oper) (i:Nat) (env:Env) (H:Heap),(∀ k,l[k]? = ops[i+k]?)→i+l.length=ops.size→Qes X ops l env H K=some r →
  ∀ (ι:Io) (a:Act) (w:World),Rel ι (Bel H.length) H w→ERel ι (Bel H.length) X.nt env a→a.defers=[] →
  (∀ env' ι' H' a' w',Rel ι' (Bel H'.length) H' w'→ERel ι' (Bel H'.length) X.nt env' a'→Fr ι H w ι' H' w'→Ab X.lim H H'→a'.defers=[]→K env' H'=some r→Q .normal a' w') →
  wpOps X.P ops Q (List.range' i l.length) a w
 | [],i,env,H,hl,hs,h,ι,a,w,hR,hE,hd,hQ=>hQ env ι H a w hR hE (Fr.refl _ _ _) (Ab.refl _ _) hd h
 | o::l,i,env,H,hl,hs,h,ι,a,w,hR,hE,hd,hQ=>by
  have ho:ops[i]? = some o:=by have:=hl 0;simpa using this.symm
  have hl':∀ k,l[k]? = ops[i+1+k]?:=fun k=>by have:=hl (k+1);rw [show i+1+k=i+(k+1) by omega];simpa using this
  rw [Z9,List.range'_succ]
  simp only [wpOps,ho]
  unfold Qes at h
  obtain ⟨t,env1,h,hw⟩:=Q5e (nt:=X.nt) h
  obtain ⟨hE1,hwt⟩:=hw.run ι _ a hE
  cases t with
  | true =>
   rw [if_pos hwt]
   left
   simp only at h
   obtain ⟨v,H',h,hF⟩:=Qaq hX h
   obtain ⟨hab,hvl⟩:=Qnz hF hE1.lt hR.closed
   refine Qrd hF hR hE1 fun ι' w' c hR' hv' hf=>?_
   obtain ⟨env2,h,hp⟩:=Q2x h
   have hE2:ERel ι' (Bel H'.length) X.nt env1 a:=hE1.mono (Bel.mono hf.len) hf.io
   refine Qe7 hX l (i+1) env2 H' hl' (by simp at hs;omega) h ι' _ w' hR' (Qo0 hE2 hv' hp) (by rw [Q3g];exact hd) ?_
   intro env' ι2 H2 a2 w2 g1 g2 g3 g4 g5 g6
   exact hQ env' ι2 H2 a2 w2 g1 g2 (hf.trans g3) (hab.trans g4) g5 g6
  | false =>
   rw [if_neg (by rw [hwt];simp)]
   simp only at h
   obtain ⟨env2,h,hp⟩:=Q2x h
   refine Qe7 hX l (i+1) env2 H hl' (by simp at hs;omega) h ι _ w hR (Qo0 hE1 (Q4a _ _) hp) (by rw [Q3g];exact hd) ?_
   intro env' ι2 H2 a2 w2 g1 g2 g3 g4 g5 g6
   exact hQ env' ι2 H2 a2 w2 g1 g2 g3 g4 g5 g6
theorem Qe8 (hX:Q1s X.P X.call) {ops:Array Oper} {K:Env→Heap→Option β}:∀ (l:List Oper) (env:Env) (H:Heap),Qes X ops l env H K=some r→Q0o (Bel H.length) env→Ql H.length H →
  ∃ env' H',K env' H'=some r∧Q0o (Bel H'.length) env'∧Ql H'.length H'∧Ab X.lim H H'
 | [],env,H,h,hE,hc=>⟨env,H,h,hE,hc,Ab.refl _ _⟩
 | o::l,env,H,h,hE,hc=>by
  unfold Qes at h
  obtain ⟨t,env1,h,hw⟩:=Q5e (nt:=X.nt) h
  have hE1:=hw.lt _ hE
  cases t with
  | true =>
   simp only at h
   obtain ⟨v,H',h,hF⟩:=Qaq hX h
   obtain ⟨hab,hvl⟩:=Qnz hF hE1 hc
   obtain ⟨env2,h,hp⟩:=Q2x h
   obtain ⟨env',H2,g1,g2,g3,g4⟩:=Qe8 hX l env2 H' h (Qg5 (hE1.mono (Bel.mono hab.len)) hvl hp) (hab.all hc)
   exact ⟨env',H2,g1,g2,g3,hab.trans g4⟩
  | false =>
   simp only at h
   obtain ⟨env2,h,hp⟩:=Q2x h
   exact Qe8 hX l env2 H h (Qg5 hE1 (Q7m _) hp) hc
end
end Go.Ev
