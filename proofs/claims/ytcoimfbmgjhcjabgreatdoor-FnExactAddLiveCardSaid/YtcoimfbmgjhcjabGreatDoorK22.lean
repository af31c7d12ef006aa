/-
  Configurations by value. And what stood behind it in 6 texts.
  Conditions: said at the theorems.
-/
import Derived.Test.YtcoimfbmgjhcjabGreatDoorK15
set_option linter.all false
namespace Go.Proofs.YtcoimfbmgjhcjabGreatDoor
open Go.Ev Go.Pv
instance aad:DecidableEq (Int×Int×Int×Int):=inferInstance
theorem Quz {p:aA->Bool}:∀ {l:List aA},(∀ y∈l,p y=true)->l.takeWhile p=l
 | [],_=>rfl
 | z::l,h=>by rw [List.takeWhile_cons,if_pos (h z (by simp)),Quz (fun y hy=>h y (by simp [hy]))]
def jM (l:List aA) (x:aA):List aA:=(l.takeWhile fun y=>decide (y.1 < x.1))++x::l.dropWhile fun y=>decide (y.1 < x.1)
def DR (l:List aA):List aA:=cF (fun x _ t=>jM t x) l 0 []
theorem SX {l:List aA} {x:aA}:(jM l x).Perm (x::l):=by
 unfold jM
 refine List.perm_middle.trans (List.Perm.cons x ?_)
 rw [List.takeWhile_append_dropWhile]
theorem S0 {l:List aA} {x:aA}:(jM l x).length=l.length+1:=by rw [SX.length_eq];rfl
theorem Q9y {x:aA}:∀ {l:List aA},cJ bO l->∀ y∈l.dropWhile (fun y=>decide (y.1 < x.1)),x.1<=y.1
 | [],_,y,hy=>by simp at hy
 | z::l,h,y,hy=>by
  rw [List.dropWhile_cons] at hy
  have h':=List.pairwise_cons.1 h
  by_cases hz:z.1 < x.1
  .rw [if_pos (by simpa using hz)] at hy
   exact Q9y h'.2 y hy
  .rw [if_neg (by simpa using hz)] at hy
   rcases Z2 hy with rfl | hy
   .omega
   .have:=h'.1 y hy;unfold bO at this;omega
theorem Q9z {x:aA}:∀ {l:List aA},∀ y∈l.takeWhile (fun y=>decide (y.1 < x.1)),y.1 < x.1
 | [],y,hy=>by simp at hy
 | z::l,y,hy=>by
  rw [List.takeWhile_cons] at hy
  by_cases hz:z.1 < x.1
  .rw [if_pos (by simpa using hz)] at hy
   rcases Z2 hy with rfl | hy
   .exact hz
   .exact Q9z y hy
  .rw [if_neg (by simpa using hz)] at hy;simp at hy
theorem ZZ {l:List aA} {x:aA} (h:cJ bO l):cJ bO (jM l x):=by
 have hl:cJ bO (l.takeWhile (fun y=>decide (y.1 < x.1))++l.dropWhile (fun y=>decide (y.1 < x.1))):=by rw [List.takeWhile_append_dropWhile];exact h
 unfold jM cJ
 unfold cJ at hl
 rw [List.pairwise_append] at hl ⊢
 refine ⟨hl.1,List.pairwise_cons.2 ⟨fun y hy=>Q9y h y hy,hl.2.1⟩,fun a ha b hb=>?_⟩
 rcases Z2 hb with rfl | hb
 .have:=Q9z a ha;unfold bO;omega
 .exact hl.2.2 a ha b hb
theorem VY:∀ (l:List aA) (i:Nat) (t:List aA),cJ bO t->cJ bO (cF (fun x _ t=>jM t x) l i t)/\(cF (fun x _ t=>jM t x) l i t).Perm (l++t)
 | [],i,t,h=>⟨h,List.Perm.refl _⟩
 | x::r,i,t,h=>by
  simp only [cF]
  obtain ⟨h1,h2⟩:=VY r (i+1) (jM t x) (ZZ h)
  refine ⟨h1,h2.trans ?_⟩
  exact (List.Perm.append_left r SX).trans List.perm_middle
theorem ZL {l:List aA}:cJ bO (DR l):=(VY l 0 [] List.Pairwise.nil).1
theorem Bi {l:List aA}:(DR l).Perm l:=by
 have:=(VY l 0 [] List.Pairwise.nil).2
 rw [List.append_nil] at this;exact this
theorem Sb {l:List aA} (h:rQ l=true):(l.map (·.1)).Nodup:=by
 rw [List.nodup_iff_pairwise_ne,List.pairwise_map,List.pairwise_iff_getElem]
 intro i j hi hj lg e
 have:=I9 h j i _ _ lg (Z6 hi) (Z6 hj)
 omega
theorem Sd {l:List aA} (h:(l.map (·.1)).Nodup) {a b:aA} (ha:a∈l) (hb:b∈l) (e:a.1=b.1):a=b:=by
 obtain ⟨i,hi⟩:=List.getElem?_of_mem ha
 obtain ⟨j,hj⟩:=List.getElem?_of_mem hb
 obtain ⟨hi1,hi2⟩:=Z0 hi
 obtain ⟨Vu,vj⟩:=Z0 hj
 have:=(List.getElem_inj (h₀:=show i < (l.map (·.1)).length by simpa using hi1) (h₁:=show j < (l.map (·.1)).length by simpa using Vu) h).1 (by simp [hi2,vj,e])
 subst this
 rw [<- hi2,<- vj]
theorem Qzs {l S:List aA} (h:cS bO l S) (hd:(l.map (·.1)).Nodup):S=DR l:=by
 refine List.Perm.eq_of_pairwise (le:=fun a b=>bO a<=bO b) (fun a b ha hb h1 h2=>?_) h.tI ZL (h.perm.trans Bi.symm)
 unfold bO at h1 h2
 exact Sd hd (h.perm.mem_iff.1 ha) (Bi.mem_iff.1 hb) (by omega)
theorem K5 {c:Cf} {l:List aA} (h:eS c=true) (hp:c.2.1.Perm l):(l.map (·.1)).Nodup:=by
 have hc:=(oG h).cl
 unfold kD at hc
 simp only [Z8] at hc
 exact (hp.map _).nodup_iff.1 (Sb hc.2.1)
def Ca (x:Ld):Int:=if 0<=x.2.2.2.2.2.2.2.2/\x.2.2.2.2.2.2.2.2 < ((x.2.1.length:Nat):Int) then (aV x.2.1 x.2.2.2.2.2.2.2.2).1 else 0
def eL (x:Ld):Cf:=(x.1,DR x.2.1,x.2.2.2.2.2.2.1,Ca x)
theorem Qzt {x:Ld} {c:Cf} (h1:c.1=x.1) (h2:cS bO x.2.1 c.2.1) (h3:c.2.2.1=x.2.2.2.2.2.2.1) (h4:c.2.2.2=Ca x):eS c=eS (eL x)/\(eS (eL x)=true->c=eL x):=by
 obtain ⟨c1,c2,c3,c4⟩:=c
 simp only at h1 h2 h3 h4
 subst h1 h3 h4
 by_cases hd:(x.2.1.map (·.1)).Nodup
 .have e:=Qzs h2 hd
  subst e
  exact ⟨rfl,fun _=>rfl⟩
 .have e1:eS (x.1,c2,x.2.2.2.2.2.2.1,Ca x)=false:=Bool.eq_false_iff.2 fun h=>hd (K5 h h2.perm)
  have e2:eS (eL x)=false:=Bool.eq_false_iff.2 fun h=>hd (K5 h Bi)
  exact ⟨by rw [e1,e2],fun h=>by rw [e2] at h;simp at h⟩
theorem OW {d:Nat} {l:List aA} {b:Bool} (hl:l.length<=1000000):Ok (zF (d+25) l b) fun r=>cS bO l r:=by
 rw [UB]
 exact Ok.bind (Qpq hl) fun r hr=>Ok.some hr
theorem Qlx {d:Nat} {x:Ld} (hl:x.2.1.length<=1000) (hf:x.2.2.2.2.2.2.1.length<=1000):Ok (LJ (d+26) x) fun c=>c.1=x.1/\cS bO x.2.1 c.2.1/\c.2.2.1=x.2.2.2.2.2.2.1/\c.2.2.2=Ca x:=by
 rw [e71,ZX hl,Q9,SL (by omega),Q9]
 unfold zG Ca
 by_cases h0:x.2.2.2.2.2.2.2.2>=0
 .rw [Z5 h0,Q4]
  by_cases h1:x.2.2.2.2.2.2.2.2 < ((x.2.1.length:Nat):Int)
  .rw [Z5 h1,Q4,Q4,Hl h0 h1,Q9,if_pos ⟨h0,h1⟩]
   exact Ok.bind (OW (by omega)) fun r hr=>Ok.some ⟨rfl,hr,rfl,rfl⟩
  .rw [Z4 h1,Q5,if_neg (fun h=>h1 h.2)]
   exact Ok.bind (OW (by omega)) fun r hr=>Ok.some ⟨rfl,hr,rfl,rfl⟩
 .rw [Z4 h0,Q5,Q5,if_neg (fun h=>h0 h.1)]
  exact Ok.bind (OW (by omega)) fun r hr=>Ok.some ⟨rfl,hr,rfl,rfl⟩
theorem S4 {d:Nat} {l:List aA} {x:aA} (hl:l.length<=10000):Ji (d+1) l x=some (jM l x):=by
 rw [e64]
 have fin:sj d l x (((l.takeWhile fun y=>decide (y.1 < x.1)).length:Nat):Int)=some (jM l x):=by
  have hle:(l.takeWhile fun y=>decide (y.1 < x.1)).length<=l.length:=by
   have:=congrArg List.length (List.takeWhile_append_dropWhile (p:=fun y:aA=>decide (y.1 < x.1)) (l:=l))
   rw [Zf] at this;omega
  have ht:l.take (l.takeWhile fun y=>decide (y.1 < x.1)).length=l.takeWhile fun y=>decide (y.1 < x.1):=by
   conv=>lhs;arg 2;rw [<- List.takeWhile_append_dropWhile (p:=fun y:aA=>decide (y.1 < x.1)) (l:=l)]
   rw [List.take_left]
  have hd:l.drop (l.takeWhile fun y=>decide (y.1 < x.1)).length=l.dropWhile fun y=>decide (y.1 < x.1):=by
   conv=>lhs;arg 2;rw [<- List.takeWhile_append_dropWhile (p:=fun y:aA=>decide (y.1 < x.1)) (l:=l)]
   rw [List.drop_left]
  unfold sj
  simp only [nn,Q3,Q4]
  rw [LW hle,Q4,Q4,room (by simp;omega),Q4,room (by simp;omega),Q4,room (by simp;omega),Q4,ht,hd]
  unfold jM
  simp
 have key:∀ (B A:List aA) (fuel:Nat),l=A++B->(∀ y∈A,y.1 < x.1)->B.length < fuel->Q8 (sk d l x (sj d l x)) fuel ((A.length:Nat):Int)=some (jM l x):=by
  intro B
  induction B with
  | nil =>
   intro A fuel e hA hf
   obtain ⟨g,rfl⟩:∃ g,fuel=g+1:=⟨fuel - 1,by omega⟩
   rw [List.append_nil] at e
   have ht:(l.takeWhile fun y=>decide (y.1 < x.1))=A:=by rw [e];exact Quz (fun y hy=>by simpa using hA y hy)
   simp only [Q8,sk]
   rw [show (l.length:Int)=((A.length:Nat):Int) by rw [e],bB,Q5]
   rw [ht] at fin;exact fin
  | cons z B ih =>
   intro A fuel e hA hf
   obtain ⟨g,rfl⟩:∃ g,fuel=g+1:=⟨fuel - 1,by omega⟩
   have au:A.length < l.length:=by rw [e];simp
   have hg:l[A.length]? = some z:=by rw [e];simp
   simp only [Q8,sk]
   rw [Z5 (show ((A.length:Nat):Int) < ((l.length:Nat):Int) by omega),Q4,nn,Q4,Q3,hg,Q9]
   by_cases hz:z.1 < x.1
   .rw [Z5 hz,Q4,aN (by omega)]
    have:=ih (A++[z]) g (by rw [e];simp) (fun y hy=>by
     rcases List.mem_append.1 hy with h | h
     .exact hA y h
     .simp at h;subst h;exact hz) (by simpa using hf)
    rw [Zf] at this
    exact this
   .rw [Z4 hz,Q5]
    have ht:(l.takeWhile fun y=>decide (y.1 < x.1))=A:=by
     rw [e,List.takeWhile_append_of_pos (fun y hy=>by simpa using hA y hy),List.takeWhile_cons,if_neg (by simpa using hz),List.append_nil]
    rw [ht] at fin;exact fin
 exact key l [] Qc rfl (by simp) (by rw [Q6];omega)
theorem Qly {d:Nat} {x:Ld} (hl:x.2.1.length<=1000) (hf:x.2.2.2.2.2.2.1.length<=1000):O1 (d+2) x=some (eL x):=by
 rw [e26,room (by simp;omega),Q4,List.nil_append]
 refine (Qd (fun (t:List aA) (i:Int)=>(i,((x.1,t,x.2.2.2.2.2.2.1,0):Cf))) x.2.1 (fun y _ t k=>Q1 (Ji (d+1) t y) fun r=>k r) (fun t=>ye (d+1) x x.1 0 t x.2.2.2.2.2.2.1) ?_ ?_ (by rw [Q6];omega) []).trans ?_
 .intro ag t i y hx
  have hi:=(Z0 hx).1
  simp only [yg,bX hx,nn,Q3,hx,Q9,Q4]
  rw [aN (by omega)]
 .intro ag t;simp only [yg,bB,Q5]
 .rw [VP (f:=fun y _ t=>jM t y) (fun k t=>t.length=k) x.2.1 0 [] rfl (fun j y t k hy ht=>by
   have hj:=(Z0 hy).1
   rw [S4 (by omega),Q9]
   exact ⟨rfl,by rw [S0];omega⟩)]
  unfold ye
  rw [wj,Q9]
  show _=some (x.1,DR x.2.1,x.2.2.2.2.2.2.1,Ca x)
  unfold Ca
  rw [wr (by omega) (by omega)]
  by_cases h:0<=x.2.2.2.2.2.2.2.2/\x.2.2.2.2.2.2.2.2 < ((x.2.1.length:Nat):Int)
  .rw [if_pos h,Z5 (show 0<=x.2.2.2.2.2.2.2.2/\x.2.2.2.2.2.2.2.2<=((x.2.1.length:Nat):Int) - 1 by omega),Q4,Z5 h.1,Q4,Hl h.1 h.2,Q9]
   rfl
  .rw [if_neg h,Z4 (show ¬ (0<=x.2.2.2.2.2.2.2.2/\x.2.2.2.2.2.2.2.2<=((x.2.1.length:Nat):Int) - 1) by omega),Q5]
   rfl
theorem JE {α:Type} [DecidableEq α]:∀ {a b:List α} {i:Nat} {c:List α},i=c.length->a.length=b.length->eI (fun x j=>decide ((c++b)[j]? = some x)) a i=decide (a=b)
 | [],[],i,c,_,_=>by simp [eI]
 | x::a,y::b,i,c,hi,h=>by
  subst hi
  have h1:(c++y::b)[c.length]? = some y:=by simp
  have ih:=JE (a:=a) (b:=b) (i:=c.length+1) (c:=c++[y]) (by simp) (by simpa using h)
  rw [show c++[y]++b=c++y::b by simp] at ih
  simp only [eI]
  rw [ih,h1]
  by_cases gQ:x=y
  .subst gQ;simp
  .rw [Z4 (show ¬ some y=some x by simp;exact fun e=>gQ e.symm),Bool.false_and,Z4 (by simp [gQ])]
 | [],_::_,_,_,_,h=>by simp at h
 | _::_,[],_,_,_,h=>by simp at h
theorem Mj {d:Nat} {a b:List Int} (hl:a.length < 4000000):qE (d+1) a b=some (decide (a=b)):=by
 rw [UT]
 by_cases h:a.length=b.length
 case neg=>rw [show ((((a.length:Nat):Int)) != ((b.length:Nat):Int))=true by simp;omega,Q4,Z4 (fun e=>h (by rw [e]))]
 rw [show ((((a.length:Nat):Int)) != ((b.length:Nat):Int))=false by simp;omega,Q5]
 refine (Qd (fun (t:Bool) (i:Int)=>(t,i)) a (fun x i t k=>aa (decide (([]++b)[i]? = some x)) (k t) (some false)) (fun _=>some true) ?_ ?_ (by rw [Q6];omega) false).trans ?_
 .intro ag t i x hx;have hi:=(Z0 hx).1;simp only [qD,bX hx,nn,Q3,hx,Q9,Q4];rw [aN (by omega)]
  have hb:i < b.length:=by omega
  rw [List.nil_append,Z6 hb,Q9]
  by_cases gQ:x=b[i]
  .rw [show (x != b[i])=false by simp [gQ],Q5,Z5 (by rw [gQ]),Q4]
  .rw [show (x != b[i])=true by simp [gQ],Q4,Z4 (show ¬ some b[i]=some x by simp;exact fun e=>gQ e.symm),Q5]
 .intro ag t;simp only [qD,bB,Q5];rfl
 .rw [qQ,JE (i:=0) (c:=[]) rfl h];cases decide (a=b)<;>rfl
theorem Mk {d:Nat} {a b:List Int} (hl:a.length < 4000000):pG (d+1) a b=some (decide (a=b)):=by
 rw [TL]
 by_cases h:a.length=b.length
 case neg=>rw [show ((((a.length:Nat):Int)) != ((b.length:Nat):Int))=true by simp;omega,Q4,Z4 (fun e=>h (by rw [e]))]
 rw [show ((((a.length:Nat):Int)) != ((b.length:Nat):Int))=false by simp;omega,Q5]
 refine (Qd (fun (t:Bool) (i:Int)=>(t,i)) a (fun x i t k=>aa (decide (([]++b)[i]? = some x)) (k t) (some false)) (fun _=>some true) ?_ ?_ (by rw [Q6];omega) false).trans ?_
 .intro ag t i x hx;have hi:=(Z0 hx).1;simp only [pE,bX hx,nn,Q3,hx,Q9,Q4];rw [aN (by omega)]
  have hb:i < b.length:=by omega
  rw [List.nil_append,Z6 hb,Q9]
  by_cases gQ:x=b[i]
  .rw [show (x != b[i])=false by simp [gQ],Q5,Z5 (by rw [gQ]),Q4]
  .rw [show (x != b[i])=true by simp [gQ],Q4,Z4 (show ¬ some b[i]=some x by simp;exact fun e=>gQ e.symm),Q5]
 .intro ag t;simp only [pE,bB,Q5];rfl
 .rw [qQ,JE (i:=0) (c:=[]) rfl h];cases decide (a=b)<;>rfl
theorem Qv1 {x y:aA}:((x.1==y.1)&&((x.2.1==y.2.1)&&((x.2.2.1==y.2.2.1)&&((x.2.2.2.1==y.2.2.2.1)&&((x.2.2.2.2.1==y.2.2.2.2.1)&&((x.2.2.2.2.2.1==y.2.2.2.2.2.1)&&((x.2.2.2.2.2.2.1==y.2.2.2.2.2.2.1)&&((x.2.2.2.2.2.2.2==y.2.2.2.2.2.2.2)&&true))))))))=decide (x=y):=by
 obtain ⟨x1,x2,x3,x4,x5,x6,x7,x8⟩:=x
 obtain ⟨y1,y2,y3,y4,y5,y6,y7,y8⟩:=y
 rw [Bool.eq_iff_iff];simp
theorem Qzu {x y:dJ}:((x.1==y.1)&&((x.2.1==y.2.1)&&((x.2.2.1==y.2.2.1)&&((x.2.2.2.1==y.2.2.2.1)&&((x.2.2.2.2==y.2.2.2.2)&&true)))))=decide (x=y):=by
 obtain ⟨x1,x2,x3,x4,x5⟩:=x
 obtain ⟨y1,y2,y3,y4,y5⟩:=y
 rw [Bool.eq_iff_iff];simp
theorem VZ {d:Nat} {a b:List aA} (hl:a.length < 4000000):GX (d+1) a b=some (decide (a=b)):=by
 rw [US]
 by_cases h:a.length=b.length
 case neg=>rw [show ((((a.length:Nat):Int)) != ((b.length:Nat):Int))=true by simp;omega,Q4,Z4 (fun e=>h (by rw [e]))]
 rw [show ((((a.length:Nat):Int)) != ((b.length:Nat):Int))=false by simp;omega,Q5]
 refine (Qd (fun (t:Bool) (i:Int)=>(t,i)) a (fun x i t k=>aa (decide (([]++b)[i]? = some x)) (k t) (some false)) (fun _=>some true) ?_ ?_ (by rw [Q6];omega) false).trans ?_
 .intro ag t i x hx;have hi:=(Z0 hx).1;simp only [qC,bX hx,nn,Q3,hx,Q9,Q4];rw [aN (by omega)]
  have hb:i < b.length:=by omega
  rw [List.nil_append,Z6 hb,Q9,Qv1]
  by_cases gQ:x=b[i]
  .rw [Z5 gQ,Zl,Q5,Z5 (by rw [gQ]),Q4]
  .rw [Z4 gQ,Bool.not_false,Q4,Z4 (show ¬ some b[i]=some x by simp;exact fun e=>gQ e.symm),Q5]
 .intro ag t;simp only [qC,bB,Q5];rfl
 .rw [qQ,JE (i:=0) (c:=[]) rfl h];cases decide (a=b)<;>rfl
def DS (x y:Ld):Bool:=decide (x.2.1=y.2.1)&&(decide (x.2.2.1=y.2.2.1)&&(decide (x.2.2.2.1=y.2.2.2.1)&&(decide (x.2.2.2.2.1=y.2.2.2.2.1)&&(decide (x.2.2.2.2.2.1=y.2.2.2.2.2.1)&&(decide (x.2.2.2.2.2.2.2.1=y.2.2.2.2.2.2.2.1)&&(x.2.2.2.2.2.2.2.2==y.2.2.2.2.2.2.2.2))))))
def eT (x:Ld):Bool:=decide (x.2.1.length<=24/\x.2.2.2.2.2.2.1.length<=16)&&(eS (eL x)&&DS x (bU (eL x)))
def xg (x:Ld):Prop:=x.1.size < 4000000/\x.2.1.length < 4000000/\x.2.2.1.length < 4000000/\x.2.2.2.1.length < 4000000/\x.2.2.2.2.1.length < 4000000/\x.2.2.2.2.2.1.length < 4000000/\x.2.2.2.2.2.2.1.length < 4000000/\x.2.2.2.2.2.2.2.1.length < 4000000
theorem Qn7 {d:Nat} {x:Ld} (h:xg x):GZ (d+27) x=some (eT x):=by
 obtain ⟨z1,z2,z3,z4,z5,z6,z7,z8⟩:=h
 rw [UU]
 unfold qF eT
 by_cases h1:x.2.1.length<=24
 case neg=>rw [Z5 (show ((x.2.1.length:Nat):Int) > 24 by omega),Q4,Q4,Z4 (fun h=>h1 h.1)];rfl
 rw [Z4 (show ¬ ((x.2.1.length:Nat):Int) > 24 by omega),Q5]
 by_cases h2:x.2.2.2.2.2.2.1.length<=16
 case neg=>rw [Z5 (show ((x.2.2.2.2.2.2.1.length:Nat):Int) > 16 by omega),Q4,Z4 (fun h=>h2 h.2)];rfl
 rw [Z4 (show ¬ ((x.2.2.2.2.2.2.1.length:Nat):Int) > 16 by omega),Q5,Z5 ⟨h1,h2⟩,Zg]
 obtain ⟨c,hc,c1,c2,c3,c4⟩:=Qlx (d:=d) (x:=x) (by omega) (by omega)
 obtain ⟨u1,u2⟩:=Qzt c1 c2 c3 c4
 have fE:=c2.len
 rw [hc,Q9,show d+26=(d+18)+8 by omega,OT (by omega) (by rw [c3];omega),Q9,u1]
 cases hg:eS (eL x) with
 | false=>rfl
 | true =>
  have e:=u2 hg
  subst e
  rw [Zl,Q5,show d+18+8=(d+12)+14 by omega,ZR (oG hg),Q9,Zg]
  unfold DS
  rw [show d+12+14=(d+25)+1 by omega,VZ (by omega),Q9]
  cases decide (x.2.1=(bU (eL x)).2.1) with
  | false=>rfl
  | true =>
  rw [Q4,Mj (by omega),Q9]
  cases decide (x.2.2.1=(bU (eL x)).2.2.1) with
  | false=>rfl
  | true =>
  rw [Q4,Mj (by omega),Q9]
  cases decide (x.2.2.2.1=(bU (eL x)).2.2.2.1) with
  | false=>rfl
  | true =>
  rw [Q4,Mj (by omega),Q9]
  cases decide (x.2.2.2.2.1=(bU (eL x)).2.2.2.2.1) with
  | false=>rfl
  | true =>
  rw [Q4,Mj (by omega),Q9]
  cases decide (x.2.2.2.2.2.1=(bU (eL x)).2.2.2.2.2.1) with
  | false=>rfl
  | true =>
  rw [Q4,Mj (by omega),Q9]
  cases decide (x.2.2.2.2.2.2.2.1=(bU (eL x)).2.2.2.2.2.2.2.1) with
  | false=>rfl
  | true=>rw [Q4];rfl
theorem Qsv {d:Nat} {u y:Ld} (h:xg u) (hn:u.1=y.1) (hf:u.2.2.2.2.2.2.1=y.2.2.2.2.2.2.1):F7 (d+2) u y=some (DS u y):=by
 obtain ⟨z1,z2,z3,z4,z5,z6,z7,z8⟩:=h
 rw [TN,Pf,Z5 (by rw [hn]),Zl,Q5]
 unfold jh DS
 by_cases hc:u.2.1.length=y.2.1.length
 case neg=>rw [show ((((u.2.1.length:Nat):Int)) != ((y.2.1.length:Nat):Int))=true by simp;omega,Q4,Q4,Z4 (fun e=>hc (by rw [e]))];rfl
 rw [show ((((u.2.1.length:Nat):Int)) != ((y.2.1.length:Nat):Int))=false by simp;omega,Q5,show ((((u.2.2.2.2.2.2.1.length:Nat):Int)) != ((y.2.2.2.2.2.2.1.length:Nat):Int))=false by rw [hf];simp,Q5]
 by_cases hd:u.2.2.2.2.2.2.2.2=y.2.2.2.2.2.2.2.2
 case neg=>rw [show (u.2.2.2.2.2.2.2.2 != y.2.2.2.2.2.2.2.2)=true by simp [hd],Q4,show (u.2.2.2.2.2.2.2.2==y.2.2.2.2.2.2.2.2)=false by simp [hd]];simp
 rw [show (u.2.2.2.2.2.2.2.2 != y.2.2.2.2.2.2.2.2)=false by simp [hd],Q5,show (u.2.2.2.2.2.2.2.2==y.2.2.2.2.2.2.2.2)=true by simp [hd],Bool.and_true]
 refine (Qd (fun (t:Bool) (i:Int)=>(t,i)) u.2.1 (fun z i t k=>aa (decide (([]++y.2.1)[i]? = some z)) (k t) (some false)) (fun t=>pJ (d+1) u y t) ?_ ?_ (by rw [Q6];omega) false).trans ?_
 .intro ag t i x hx;have hi:=(Z0 hx).1;simp only [pK,bX hx,nn,Q3,hx,Q9,Q4];rw [aN (by omega)]
  have hb:i < y.2.1.length:=by omega
  rw [List.nil_append,Z6 hb,Q9,Qv1]
  by_cases gQ:x=y.2.1[i]
  .rw [Z5 gQ,Zl,Q5,Z5 (by rw [gQ]),Q4]
  .rw [Z4 gQ,Bool.not_false,Q4,Z4 (show ¬ some y.2.1[i]=some x by simp;exact fun e=>gQ e.symm),Q5]
 .intro ag t;simp only [pK,bB,Q5]
 .rw [qQ,JE (i:=0) (c:=[]) rfl hc]
  cases decide (u.2.1=y.2.1) with
  | false=>rfl
  | true =>
  rw [Q4,Zg]
  unfold pJ
  have cH:u.2.2.2.2.2.2.1.length=y.2.2.2.2.2.2.1.length:=by rw [hf]
  refine (Qd (fun (t:Bool) (i:Int)=>(t,i)) u.2.2.2.2.2.2.1 (fun z i t k=>aa (decide (([]++y.2.2.2.2.2.2.1)[i]? = some z)) (k t) (some false)) (fun t=>pH (d+1) u y t) ?_ ?_ (by rw [Q6];omega) false).trans ?_
  .intro ag t i x hx;have hi:=(Z0 hx).1;simp only [pI,bX hx,nn,Q3,hx,Q9,Q4];rw [aN (by omega)]
   have hb:i < y.2.2.2.2.2.2.1.length:=by omega
   rw [List.nil_append,Z6 hb,Q9,Qzu]
   by_cases gQ:x=y.2.2.2.2.2.2.1[i]
   .rw [Z5 gQ,Zl,Q5,Z5 (by rw [gQ]),Q4]
   .rw [Z4 gQ,Bool.not_false,Q4,Z4 (show ¬ some y.2.2.2.2.2.2.1[i]=some x by simp;exact fun e=>gQ e.symm),Q5]
  .intro ag t;simp only [pI,bB,Q5]
  .rw [qQ,JE (i:=0) (c:=[]) rfl cH,Z5 hf,Q4]
   unfold pH
   rw [Mk (by omega),Q9]
   cases decide (u.2.2.1=y.2.2.1) with
   | false=>rfl
   | true =>
   rw [Q4,Mk (by omega),Q9]
   cases decide (u.2.2.2.1=y.2.2.2.1) with
   | false=>rfl
   | true =>
   rw [Q4,Mk (by omega),Q9]
   cases decide (u.2.2.2.2.1=y.2.2.2.2.1) with
   | false=>rfl
   | true =>
   rw [Q4,Mk (by omega),Q9]
   cases decide (u.2.2.2.2.2.1=y.2.2.2.2.2.1) with
   | false=>rfl
   | true=>rw [Q4,Mk (by omega),Q9];rfl
theorem Qsw {d:Nat} {x:Ld} (h:xg x):TS (d+11) x=some (eT x):=by
 have h':=h
 obtain ⟨z1,z2,z3,z4,z5,z6,z7,z8⟩:=h
 rw [e90]
 unfold yF eT
 by_cases h1:x.2.1.length<=24
 case neg=>rw [Z5 (show ((x.2.1.length:Nat):Int) > 24 by omega),Q4,Q4,Z4 (fun h=>h1 h.1)];rfl
 rw [Z4 (show ¬ ((x.2.1.length:Nat):Int) > 24 by omega),Q5]
 by_cases h2:x.2.2.2.2.2.2.1.length<=16
 case neg=>rw [Z5 (show ((x.2.2.2.2.2.2.1.length:Nat):Int) > 16 by omega),Q4,Z4 (fun h=>h2 h.2)];rfl
 rw [Z4 (show ¬ ((x.2.2.2.2.2.2.1.length:Nat):Int) > 16 by omega),Q5,Z5 ⟨h1,h2⟩,Zg]
 rw [show d+10=(d+8)+2 by omega,Qly (by omega) (by omega),Q9,show d+8+2=(d+5)+5 by omega,OU (c:=eL x) z1 (show x.2.2.2.2.2.2.1.length < 4000000 by omega),Q9]
 cases hg:eS (eL x) with
 | false=>rfl
 | true=>rw [Q4,show d+5+5=d+10 by omega,ZS (oG hg),Q9,show d+10=(d+8)+2 by omega,Qsv (y:=bU (eL x)) h' rfl rfl,Q9,Zg]
theorem Ml {α:Type} {l:List α} {z x:α} {k:Nat} (hx:l[k]? = some x):(l.take k++List.replicate (l.length - k) z).set k x=l.take (k+1)++List.replicate (l.length - (k+1)) z:=by
 have hk:=(Z0 hx).1
 have e:=(Z0 hx).2
 have hl:(l.take k).length=k:=by rw [List.length_take];omega
 rw [List.set_append_right _ _ (by omega),hl,Nat.sub_self,show l.length - k=(l.length - (k+1))+1 by omega,List.replicate_succ,List.set_cons_zero,List.take_succ_eq_append_getElem hk,e]
 simp
theorem Qn8 {d:Nat} {l:List aA} (hl:l.length<=1048576):Tb (d+2) l=some l:=by
 rw [e66,nn,Q4,Q4,Q3,show (Nat.ble l.length l.length&&Nat.ble (l.length*64) Q7)=true by rw [Z8,Nat.ble_eq,Nat.ble_eq];unfold Q7;omega,Q4]
 refine Ok.val (mH (fun j (s:Int×List aA)=>∃ k:Nat,k+j=l.length/\s.1=(k:Int)/\s.2=l.take k++List.replicate (l.length - k) ((0,0,0,0,0,0,0,0):aA)) ?_ _ l.length _ (by rw [Q6];omega) ⟨0,by omega,rfl,by simp⟩)
 rintro j ⟨n,r⟩ ag ⟨k,hk,h1,h2⟩ ez
 simp only at h1 h2
 subst h1
 have kG:r.length=l.length:=by rw [h2];simp;omega
 simp only [D8]
 rcases Nat.lt_or_ge k l.length with au | tA
 .have hx:=Z6 au
  rw [bX hx,Q4,nn,Q4,Q3,hx,Q9,e19,Q9,Q4,Qk (by omega),Q4,Z6 (by omega),Q9,aN (by omega)]
  exact ez (j - 1) _ (by omega) ⟨k+1,by omega,rfl,by rw [h2];exact Ml hx⟩
 .have:k=l.length:=by omega
  subst this
  rw [bB,Q5]
  unfold D7
  exact Ok.some (by rw [h2];simp)
theorem Qk2 {d:Nat} {l:List dJ} (hl:l.length<=1048576):Td (d+2) l=some l:=by
 rw [e68,nn,Q4,Q4,Q3,show (Nat.ble l.length l.length&&Nat.ble (l.length*40) Q7)=true by rw [Z8,Nat.ble_eq,Nat.ble_eq];unfold Q7;omega,Q4]
 refine Ok.val (mH (fun j (s:Int×List dJ)=>∃ k:Nat,k+j=l.length/\s.1=(k:Int)/\s.2=l.take k++List.replicate (l.length - k) ((0,0,0,0,0):dJ)) ?_ _ l.length _ (by rw [Q6];omega) ⟨0,by omega,rfl,by simp⟩)
 rintro j ⟨n,r⟩ ag ⟨k,hk,h1,h2⟩ ez
 simp only at h1 h2
 subst h1
 have kG:r.length=l.length:=by rw [h2];simp;omega
 simp only [Eb]
 rcases Nat.lt_or_ge k l.length with au | tA
 .have hx:=Z6 au
  rw [bX hx,Q4,nn,Q4,Q3,hx,Q9,Tc,Q9,Q4,Qk (by omega),Q4,Z6 (by omega),Q9,aN (by omega)]
  exact ez (j - 1) _ (by omega) ⟨k+1,by omega,rfl,by rw [h2];exact Ml hx⟩
 .have:k=l.length:=by omega
  subst this
  rw [bB,Q5]
  unfold Ea
  exact Ok.some (by rw [h2];simp)
theorem Hz {d:Nat} {l:List Int} (hl:l.length<=1048576):Cn (d+1) l=some l:=by
 rw [e67,nn,Q4,Q4,Q3,show (Nat.ble l.length l.length&&Nat.ble (l.length*8) Q7)=true by rw [Z8,Nat.ble_eq,Nat.ble_eq];unfold Q7;omega,Q4]
 refine Ok.val (mH (fun j (s:Int×List Int)=>∃ k:Nat,k+j=l.length/\s.1=(k:Int)/\s.2=l.take k++List.replicate (l.length - k) (0:Int)) ?_ _ l.length _ (by rw [Q6];omega) ⟨0,by omega,rfl,by simp⟩)
 rintro j ⟨n,r⟩ ag ⟨k,hk,h1,h2⟩ ez
 simp only at h1 h2
 subst h1
 have kG:r.length=l.length:=by rw [h2];simp;omega
 simp only [D_]
 rcases Nat.lt_or_ge k l.length with au | tA
 .have hx:=Z6 au
  rw [bX hx,Q4,nn,Q4,Q3,hx,Q9,Q4,Qk (by omega),Q4,Z6 (by omega),Q9,aN (by omega)]
  exact ez (j - 1) _ (by omega) ⟨k+1,by omega,rfl,by rw [h2];exact Ml hx⟩
 .have:k=l.length:=by omega
  subst this
  rw [bB,Q5]
  unfold D9
  exact Ok.some (by rw [h2];simp)
def V0 (n:Int) (k:Nat) (r:Int):Prop:=r < 0\/(0<=r/\r<=n/\(k:Int)<=n)
theorem Qn9 {d:Nat} {l:List aA} {n:Int} (h0:0<=n) (h1:n<=1048576) (hl:l.length<=9223372036854775807):Ok (S_ (d+1) l n) fun r=>V0 n l.length r:=by
 rw [e49,wr (by omega) (by omega)]
 by_cases h:n - ((l.length:Nat):Int) < 0
 .rw [Z5 h,Q4];exact Ok.some (Or.inl (by omega))
 .rw [Z4 h,Q5];exact Ok.some (Or.inr ⟨by omega,by omega,by omega⟩)
theorem Qk3 {d:Nat} {l:List dJ} {n:Int} (h0:0<=n) (h1:n<=1048576) (hl:l.length<=9223372036854775807):Ok (Ta (d+1) l n) fun r=>V0 n l.length r:=by
 rw [e51,wr (by omega) (by omega)]
 by_cases h:n - ((l.length:Nat):Int) < 0
 .rw [Z5 h,Q4];exact Ok.some (Or.inl (by omega))
 .rw [Z4 h,Q5];exact Ok.some (Or.inr ⟨by omega,by omega,by omega⟩)
theorem HA {d:Nat} {l:List Int} {n:Int} (h0:0<=n) (h1:n<=1048576) (hl:l.length<=9223372036854775807):Ok (Cm (d+1) l n) fun r=>V0 n l.length r:=by
 rw [e50,wr (by omega) (by omega)]
 by_cases h:n - ((l.length:Nat):Int) < 0
 .rw [Z5 h,Q4];exact Ok.some (Or.inl (by omega))
 .rw [Z4 h,Q5];exact Ok.some (Or.inr ⟨by omega,by omega,by omega⟩)
theorem Qna {d:Nat} {l:List aA} (hl:l.length<=2000000):Tl (d+2) l l=some true:=by
 rw [e78,bne_self_eq_false,Q5]
 refine (Qd (fun (t:Bool) (i:Int)=>(t,i)) l (fun x i t k=>k t) (Eh (d+1)) ?_ ?_ (by rw [Q6];omega) false).trans ?_
 .intro ag t i x hx;have hi:=(Z0 hx).1;simp only [xK,bX hx,nn,Q3,hx,Q9,Q4]
  rw [Tj]
  simp only [bne_self_eq_false,Q5,Zl,Q9]
  rw [aN (by omega)]
 .intro ag t;simp only [xK,bB,Q5]
 .rw [xe (f:=fun _ _ t=>t)];rfl
theorem Qk4 {d:Nat} {l:List dJ} (hl:l.length<=2000000):Tn (d+2) l l=some true:=by
 rw [e79,bne_self_eq_false,Q5]
 refine (Qd (fun (t:Bool) (i:Int)=>(t,i)) l (fun x i t k=>k t) (Ei (d+1)) ?_ ?_ (by rw [Q6];omega) false).trans ?_
 .intro ag t i x hx;have hi:=(Z0 hx).1;simp only [xM,bX hx,nn,Q3,hx,Q9,Q4]
  rw [Tm]
  simp only [bne_self_eq_false,Q5,Zl,Q9]
  rw [aN (by omega)]
 .intro ag t;simp only [xM,bB,Q5]
 .rw [xe (f:=fun _ _ t=>t)];rfl
theorem D5 {d:Nat} {l:List Int} (hl:l.length<=2000000):g11 (d+1) l l=some true:=by
 rw [e11,bne_self_eq_false,Q5]
 refine (Qd (fun (t:Bool) (i:Int)=>(t,i)) l (fun x i t k=>k t) (Eg d) ?_ ?_ (by rw [Q6];omega) false).trans ?_
 .intro ag t i x hx;have hi:=(Z0 hx).1;simp only [xI,bX hx,nn,Q3,hx,Q9,Q4]
  simp only [bne_self_eq_false,Q5]
  rw [aN (by omega)]
 .intro ag t;simp only [xI,bB,Q5]
 .rw [xe (f:=fun _ _ t=>t)];rfl
def By (x:Ld):Prop:=x.1.size<=1048576/\x.2.1.length<=1048576/\x.2.2.1.length<=1048576/\x.2.2.2.1.length<=1048576/\x.2.2.2.2.1.length<=1048576/\x.2.2.2.2.2.1.length<=1048576/\x.2.2.2.2.2.2.1.length<=1048576/\x.2.2.2.2.2.2.2.1.length<=1048576
theorem Qnb {d:Nat} {x:Ld} (h:By x):To (d+3) x x=some true:=by
 obtain ⟨z1,z2,z3,z4,z5,z6,z7,z8⟩:=h
 rw [e34,beq_self_eq_true,Zl,Q5,Qna (by omega),Q9,Zl,Q5,D5 (by omega),Q9,Zl,Q5,D5 (by omega),Q9,Zl,Q5,D5 (by omega),Q9,Zl,Q5,D5 (by omega),Q9,Zl,Q5,Qk4 (by omega),Q9,Zl,Q5,D5 (by omega),Q9,Zl,Q5,bne_self_eq_false,Q5]
theorem Qnc {d:Nat} {x:Ld} (h:By x):Te (d+3) x=some x:=by
 obtain ⟨z1,z2,z3,z4,z5,z6,z7,z8⟩:=h
 rw [e28,Qn8 z2,Q9,Hz z3,Q9,Hz z4,Q9,Hz z5,Q9,Hz z6,Q9,Qk2 z7,Q9,Hz z8,Q9]
def S7 (x:Ld):Prop:=x.1.size<=9223372036854775807/\x.2.1.length<=9223372036854775807/\x.2.2.1.length<=9223372036854775807/\x.2.2.2.1.length<=9223372036854775807/\x.2.2.2.2.1.length<=9223372036854775807/\x.2.2.2.2.2.1.length<=9223372036854775807/\x.2.2.2.2.2.2.1.length<=9223372036854775807/\x.2.2.2.2.2.2.2.1.length<=9223372036854775807
theorem Qnd {d:Nat} {x:Ld} {n:Int} (h0:0<=n) (h1:n<=1048576) (h:S7 x):Ok (g21 (d+2) x n) fun r=>r < 0\/(0<=r/\r<=n/\By x):=by
 obtain ⟨z1,z2,z3,z4,z5,z6,z7,z8⟩:=h
 have no:Ok (some (-1:Int)) fun r=>r < 0\/(0<=r/\r<=n/\By x):=Ok.some (Or.inl (by omega))
 rw [e21,wr (by omega) (by omega)]
 refine Ok.aa (fun _=>no) (fun hs=>?_)
 simp only [decide_eq_false_iff_not] at hs
 refine Ok.bind (Qn9 (by omega) (by omega) z2) fun r3 g3=>?_
 refine Ok.aa (fun _=>no) (fun CQ=>?_)
 simp only [decide_eq_false_iff_not] at CQ
 have g3:=g3.resolve_left CQ
 refine Ok.bind (HA (by omega) (by omega) z3) fun r4 g4=>?_
 refine Ok.aa (fun _=>no) (fun EG=>?_)
 simp only [decide_eq_false_iff_not] at EG
 have g4:=g4.resolve_left EG
 refine Ok.bind (HA (by omega) (by omega) z4) fun r5 g5=>?_
 refine Ok.aa (fun _=>no) (fun Mm=>?_)
 simp only [decide_eq_false_iff_not] at Mm
 have g5:=g5.resolve_left Mm
 refine Ok.bind (HA (by omega) (by omega) z5) fun r6 g6=>?_
 refine Ok.aa (fun _=>no) (fun hs6=>?_)
 simp only [decide_eq_false_iff_not] at hs6
 have g6:=g6.resolve_left hs6
 refine Ok.bind (HA (by omega) (by omega) z6) fun r7 g7=>?_
 refine Ok.aa (fun _=>no) (fun hs7=>?_)
 simp only [decide_eq_false_iff_not] at hs7
 have g7:=g7.resolve_left hs7
 refine Ok.bind (Qk3 (by omega) (by omega) z7) fun r8 g8=>?_
 refine Ok.aa (fun _=>no) (fun hs8=>?_)
 simp only [decide_eq_false_iff_not] at hs8
 have g8:=g8.resolve_left hs8
 refine Ok.bind (HA (by omega) (by omega) z8) fun r9 g9=>?_
 refine Ok.aa (fun _=>no) (fun hs9=>?_)
 simp only [decide_eq_false_iff_not] at hs9
 have g9:=g9.resolve_left hs9
 exact Ok.some (Or.inr ⟨by omega,by omega,by omega,by omega,by omega,by omega,by omega,by omega,by omega,by omega⟩)
theorem By.sz {x:Ld} (h:By x):xg x:=by
 obtain ⟨z1,z2,z3,z4,z5,z6,z7,z8⟩:=h
 exact ⟨by omega,by omega,by omega,by omega,by omega,by omega,by omega,by omega⟩
def mC (k:Nat):aA:=((k:Int),((k+1:Nat):Int),((k+1+1:Nat):Int),((k+1+1+1:Nat):Int),((k+1+1+1+1:Nat):Int),((k+1+1+1+1+1:Nat):Int),((k+1+1+1+1+1+1:Nat):Int),((k+1+1+1+1+1+1+1:Nat):Int))
def mF (k:Nat):dJ:=((k:Int),((k+1:Nat):Int),((k+1+1:Nat):Int),((k+1+1+1:Nat):Int),((k+1+1+1+1:Nat):Int))
def vm:Nat->Nat->List aA
 | _,0=>[]
 | k,n+1=>mC k::vm (k+1+1+1+1+1+1+1+1) n
def vn:Nat->Nat->List dJ
 | _,0=>[]
 | k,n+1=>mF k::vn (k+1+1+1+1+1) n
theorem FL {α:Type} {p r:List α} {x y:α}:(p++x::r).set p.length y=p++y::r:=by
 rw [List.set_append_right _ _ (Zd _),Nat.sub_self,List.set_cons_zero]
theorem Qv2 {d:Nat}:∀ (r:List aA) {p:List aA} {k fuel:Nat},r.length < fuel->p.length+r.length<=2000000->k+8*r.length<=1000000000 ->
  Q8 (sC d (zZ d)) fuel ((k:Int),((p.length:Nat):Int),p++r)=some (((k+8*r.length:Nat):Int),p++vm k r.length)
 | _,p,k,0,h,_,_=>by omega
 | [],p,k,fuel+1,h,h2,h3=>by
  simp only [Q8,sC]
  rw [List.append_nil,bB,Q5]
  unfold zZ
  simp [vm]
 | x::r,p,k,fuel+1,h,h2,h3=>by
  simp only [Z9] at h h2 h3
  have au:p.length < (p++x::r).length:=by simp
  have hg:(p++x::r)[p.length]? = some x:=by simp
  simp only [Q8,sC,Q3,nn,Q4]
  rw [Z5 (show ((p.length:Nat):Int) < (((p++x::r).length:Nat):Int) by omega),Q4,Qk au,Q4,hg,Q9]
  simp only [List.length_set,List.set_set,List.getElem?_set_self au,Q9,Qk au,Q4]
  rw [FL,aN (by omega),aN (by omega),aN (by omega),aN (by omega),aN (by omega),aN (by omega),aN (by omega),aN (by omega),aN (by omega)]
  have:=Qv2 (d:=d) r (p:=p++[mC k]) (k:=k+1+1+1+1+1+1+1+1) (fuel:=fuel) (by omega) (by simp;omega) (by omega)
  rw [Zf,show (p++[mC k])++r=p++mC k::r by simp] at this
  simp only [Z9,Zb,vm]
  rw [show k+8*(r.length+1)=k+1+1+1+1+1+1+1+1+8*r.length by omega,show p++mC k::vm (k+1+1+1+1+1+1+1+1) r.length=(p++[mC k])++vm (k+1+1+1+1+1+1+1+1) r.length by simp]
  exact this
theorem Qv3 {d:Nat} {l:List aA}:∀ (n:Nat) {p:List aA} {k fuel:Nat},l=p++vm k n->n < fuel->p.length+n<=2000000->k+8*n<=1000000000 ->
  Q8 (rY d l (xW d)) fuel ((k:Int),0,((p.length:Nat):Int))=some ((k+8*n:Nat):Int)
 | n,p,k,0,_,h,_,_=>by omega
 | 0,p,k,fuel+1,e,h,h2,h3=>by
  simp only [vm,List.append_nil] at e
  subst e
  simp only [Q8,rY]
  rw [bB,Q5]
  unfold xW
  simp
 | n+1,p,k,fuel+1,e,h,h2,h3=>by
  have hg:l[p.length]? = some (mC k):=by rw [e];simp [vm]
  have au:=(Z0 hg).1
  simp only [Q8,rY,Q3,nn,Q4]
  rw [Z5 (show ((p.length:Nat):Int) < ((l.length:Nat):Int) by omega),Q4,hg]
  simp only [Q9]
  rw [aN (by omega),aN (by omega),aN (by omega),aN (by omega),aN (by omega),aN (by omega),aN (by omega),aN (by omega),aN (by omega)]
  unfold mC
  simp only [bne_self_eq_false,Q5]
  have:=Qv3 (d:=d) (l:=l) n (p:=p++[mC k]) (k:=k+1+1+1+1+1+1+1+1) (fuel:=fuel) (by rw [e];simp [vm]) (by omega) (by simp;omega) (by omega)
  rw [Zf] at this
  simp only [Z9,Zb] at this
  rw [show k+8*(n+1)=k+1+1+1+1+1+1+1+1+8*n by omega]
  exact this
theorem Qv4 {d:Nat}:∀ (r:List dJ) {p:List dJ} {k fuel:Nat},r.length < fuel->p.length+r.length<=2000000->k+5*r.length<=1000000000 ->
  Q8 (sD d (Aa d)) fuel ((k:Int),((p.length:Nat):Int),p++r)=some (((k+5*r.length:Nat):Int),p++vn k r.length)
 | _,p,k,0,h,_,_=>by omega
 | [],p,k,fuel+1,h,h2,h3=>by
  simp only [Q8,sD]
  rw [List.append_nil,bB,Q5]
  unfold Aa
  simp [vn]
 | x::r,p,k,fuel+1,h,h2,h3=>by
  simp only [Z9] at h h2 h3
  have au:p.length < (p++x::r).length:=by simp
  have hg:(p++x::r)[p.length]? = some x:=by simp
  simp only [Q8,sD,Q3,nn,Q4]
  rw [Z5 (show ((p.length:Nat):Int) < (((p++x::r).length:Nat):Int) by omega),Q4,Qk au,Q4,hg,Q9]
  simp only [List.length_set,List.set_set,List.getElem?_set_self au,Q9,Qk au,Q4]
  rw [FL,aN (by omega),aN (by omega),aN (by omega),aN (by omega),aN (by omega),aN (by omega)]
  have:=Qv4 (d:=d) r (p:=p++[mF k]) (k:=k+1+1+1+1+1) (fuel:=fuel) (by omega) (by simp;omega) (by omega)
  rw [Zf,show (p++[mF k])++r=p++mF k::r by simp] at this
  simp only [Z9,Zb,vn]
  rw [show k+5*(r.length+1)=k+1+1+1+1+1+5*r.length by omega,show p++mF k::vn (k+1+1+1+1+1) r.length=(p++[mF k])++vn (k+1+1+1+1+1) r.length by simp]
  exact this
theorem Qv5 {d:Nat} {l:List dJ}:∀ (n:Nat) {p:List dJ} {k fuel:Nat},l=p++vn k n->n < fuel->p.length+n<=2000000->k+5*n<=1000000000 ->
  Q8 (rZ d l (xY d)) fuel ((k:Int),0,((p.length:Nat):Int))=some ((k+5*n:Nat):Int)
 | n,p,k,0,_,h,_,_=>by omega
 | 0,p,k,fuel+1,e,h,h2,h3=>by
  simp only [vn,List.append_nil] at e
  subst e
  simp only [Q8,rZ]
  rw [bB,Q5]
  unfold xY
  simp
 | n+1,p,k,fuel+1,e,h,h2,h3=>by
  have hg:l[p.length]? = some (mF k):=by rw [e];simp [vn]
  have au:=(Z0 hg).1
  simp only [Q8,rZ,Q3,nn,Q4]
  rw [Z5 (show ((p.length:Nat):Int) < ((l.length:Nat):Int) by omega),Q4,hg]
  simp only [Q9]
  rw [aN (by omega),aN (by omega),aN (by omega),aN (by omega),aN (by omega),aN (by omega)]
  unfold mF
  simp only [bne_self_eq_false,Q5]
  have:=Qv5 (d:=d) (l:=l) n (p:=p++[mF k]) (k:=k+1+1+1+1+1) (fuel:=fuel) (by rw [e];simp [vn]) (by omega) (by simp;omega) (by omega)
  rw [Zf] at this
  simp only [Z9,Zb] at this
  rw [show k+5*(n+1)=k+1+1+1+1+1+5*n by omega]
  exact this
def jZ:Nat->Nat->List Int
 | _,0=>[]
 | k,n+1=>(k:Int)::jZ (k+1) n
theorem Qv6 {d:Nat}:∀ (r:List Int) {p:List Int} {k fuel:Nat},r.length < fuel->p.length+r.length<=2000000->k+r.length<=1000000000 ->
  Q8 (rW d (xS d)) fuel ((k:Int),((p.length:Nat):Int),p++r)=some (((k+r.length:Nat):Int),p++jZ k r.length)
 | _,p,k,0,h,_,_=>by omega
 | [],p,k,fuel+1,h,h2,h3=>by
  simp only [Q8,rW]
  rw [List.append_nil,bB,Q5]
  unfold xS
  simp [jZ]
 | x::r,p,k,fuel+1,h,h2,h3=>by
  simp only [Z9] at h h2 h3
  have au:p.length < (p++x::r).length:=by simp
  have hg:(p++x::r)[p.length]? = some x:=by simp
  simp only [Q8,rW,Q3,nn,Q4]
  rw [Z5 (show ((p.length:Nat):Int) < (((p++x::r).length:Nat):Int) by omega),Q4,Qk au,Q4,hg,Q9]
  rw [FL,aN (by omega),aN (by omega)]
  have:=Qv6 (d:=d) r (p:=p++[(k:Int)]) (k:=k+1) (fuel:=fuel) (by omega) (by simp;omega) (by omega)
  rw [Zf,show (p++[(k:Int)])++r=p++(k:Int)::r by simp] at this
  simp only [Z9,Zb,jZ]
  rw [show k+(r.length+1)=k+1+r.length by omega,show p++(k:Int)::jZ (k+1) r.length=(p++[(k:Int)])++jZ (k+1) r.length by simp]
  exact this
theorem Qv7 {d:Nat} {l:List Int}:∀ (n:Nat) {p:List Int} {k fuel:Nat},l=p++jZ k n->n < fuel->p.length+n<=2000000->k+n<=1000000000 ->
  Q8 (rX d l (xU d)) fuel ((k:Int),0,((p.length:Nat):Int))=some ((k+n:Nat):Int)
 | n,p,k,0,_,h,_,_=>by omega
 | 0,p,k,fuel+1,e,h,h2,h3=>by
  simp only [jZ,List.append_nil] at e
  subst e
  simp only [Q8,rX]
  rw [bB,Q5]
  unfold xU
  simp
 | n+1,p,k,fuel+1,e,h,h2,h3=>by
  have hg:l[p.length]? = some (k:Int):=by rw [e];simp [jZ]
  have au:=(Z0 hg).1
  simp only [Q8,rX,Q3,nn,Q4]
  rw [Z5 (show ((p.length:Nat):Int) < ((l.length:Nat):Int) by omega),Q4,hg]
  simp only [Q9]
  rw [aN (by omega),aN (by omega)]
  simp only [bne_self_eq_false,Q5]
  have:=Qv7 (d:=d) (l:=l) n (p:=p++[(k:Int)]) (k:=k+1) (fuel:=fuel) (by rw [e];simp [jZ]) (by omega) (by simp;omega) (by omega)
  rw [Zf] at this
  simp only [Z9,Zb] at this
  rw [show k+(n+1)=k+1+n by omega]
  exact this
theorem pe {d k:Nat} {l:List Int} (hl:l.length<=1048576) (hk:k<=100000000):g13 (d+1) l (k:Int)=some (((k+l.length:Nat):Int),jZ k l.length):=by
 rw [e13]
 exact Qv6 l (p:=[]) (by rw [Q6];omega) (by simp;omega) (by omega)
theorem Qa0 {d k:Nat} {l:List aA} (hl:l.length<=1048576) (hk:k<=100000000):O9 (d+1) l (k:Int)=some (((k+8*l.length:Nat):Int),vm k l.length):=by
 rw [e81]
 exact Qv2 l (p:=[]) (by rw [Q6];omega) (by simp;omega) (by omega)
theorem Q88 {d k:Nat} {l:List dJ} (hl:l.length<=1048576) (hk:k<=100000000):O_ (d+1) l (k:Int)=some (((k+5*l.length:Nat):Int),vn k l.length):=by
 rw [e82]
 exact Qv4 l (p:=[]) (by rw [Q6];omega) (by simp;omega) (by omega)
theorem D6 {d k n:Nat} (hl:n<=1048576) (hk:k<=100000000):g15 (d+1) (jZ k n) (k:Int)=some (((k+n:Nat):Int)):=by
 rw [e15]
 exact Qv7 n (p:=[]) rfl (by rw [Q6];omega) (by simp;omega) (by omega)
theorem Qhh {d k n:Nat} (hl:n<=1048576) (hk:k<=100000000):Tv (d+1) (vm k n) (k:Int)=some (((k+8*n:Nat):Int)):=by
 rw [e84]
 exact Qv3 n (p:=[]) rfl (by rw [Q6];omega) (by simp;omega) (by omega)
theorem Qf6 {d k n:Nat} (hl:n<=1048576) (hk:k<=100000000):Tw (d+1) (vn k n) (k:Int)=some (((k+5*n:Nat):Int)):=by
 rw [e85]
 exact Qv5 n (p:=[]) rfl (by rw [Q6];omega) (by simp;omega) (by omega)
def V3 (k:Nat) (x:Ld):Ld:=(x.1,vm k x.2.1.length,jZ (k+8*x.2.1.length) x.2.2.1.length,jZ (k+8*x.2.1.length+x.2.2.1.length) x.2.2.2.1.length,jZ (k+8*x.2.1.length+x.2.2.1.length+x.2.2.2.1.length) x.2.2.2.2.1.length,jZ (k+8*x.2.1.length+x.2.2.1.length+x.2.2.2.1.length+x.2.2.2.2.1.length) x.2.2.2.2.2.1.length,vn (k+8*x.2.1.length+x.2.2.1.length+x.2.2.2.1.length+x.2.2.2.2.1.length+x.2.2.2.2.2.1.length) x.2.2.2.2.2.2.1.length,jZ (k+8*x.2.1.length+x.2.2.1.length+x.2.2.2.1.length+x.2.2.2.2.1.length+x.2.2.2.2.2.1.length+5*x.2.2.2.2.2.2.1.length) x.2.2.2.2.2.2.2.1.length,x.2.2.2.2.2.2.2.2)
def Ck (k:Nat) (x:Ld):Nat:=k+8*x.2.1.length+x.2.2.1.length+x.2.2.2.1.length+x.2.2.2.2.1.length+x.2.2.2.2.2.1.length+5*x.2.2.2.2.2.2.1.length+x.2.2.2.2.2.2.2.1.length
theorem OV {k:Nat} {x:Ld} (h:By x):Ck k x<=k+20000000:=by
 obtain ⟨z1,z2,z3,z4,z5,z6,z7,z8⟩:=h
 unfold Ck;omega
theorem Qhi {d k:Nat} {x:Ld} (h:By x) (hk:k<=10000000):Tx (d+2) (V3 k x) (k:Int)=some ((Ck k x:Nat):Int):=by
 obtain ⟨z1,z2,z3,z4,z5,z6,z7,z8⟩:=h
 rw [e40]
 unfold V3
 simp only []
 rw [Qhh (by omega) (by omega),Q9,Z4 (by omega),Q5,D6 (by omega) (by omega),Q9,Z4 (by omega),Q5,D6 (by omega) (by omega),Q9,Z4 (by omega),Q5,D6 (by omega) (by omega),Q9,Z4 (by omega),Q5,D6 (by omega) (by omega),Q9,Z4 (by omega),Q5,Qf6 (by omega) (by omega),Q9,Z4 (by omega),Q5,D6 (by omega) (by omega),Q9,Z4 (by omega),Q5]
 rfl
def nh (k:Nat) (t:Tk):Tk:=(jZ k t.1.length,jZ (k+t.1.length) t.2.length)
def Jg (k:Nat) (t:Tk):Nat:=k+t.1.length+t.2.length
theorem Qhj {d k:Nat} {t:Tk} (h1:t.1.length<=1048576) (h2:t.2.length<=1048576) (hk:k<=90000000):Tz (d+2) (nh k t) (k:Int)=some ((Jg k t:Nat):Int):=by
 rw [e41]
 unfold nh
 simp only []
 rw [D6 (by omega) (by omega),Q9,Z4 (by omega),Q5,D6 (by omega) (by omega),Q9,Z4 (by omega),Q5]
 rfl
theorem Qne {d:Nat} {t:Tk} (h1:t.1.length<=2000000) (h2:t.2.length<=2000000):Tp (d+2) t t=some true:=by
 rw [e35,D5 h1,Q9,Zl,Q5,D5 h2,Q9,Zl,Q5]
theorem Qnf {d:Nat} {t:Tk} (h1:t.1.length<=1048576) (h2:t.2.length<=1048576):Tf (d+2) t=some t:=by
 rw [e29,Hz h1,Q9,Hz h2,Q9]
theorem Qng {d:Nat} {t:Tk} {n:Int} (h0:0<=n) (h1:n<=1048576) (z1:t.1.length<=9223372036854775807) (z2:t.2.length<=9223372036854775807):Ok (g22 (d+2) t n) fun r=>r < 0\/(0<=r/\r<=n/\t.1.length<=1048576/\t.2.length<=1048576):=by
 have no:Ok (some (-1:Int)) fun r=>r < 0\/(0<=r/\r<=n/\t.1.length<=1048576/\t.2.length<=1048576):=Ok.some (Or.inl (by omega))
 rw [e22]
 refine Ok.bind (HA (by omega) (by omega) z1) fun r3 g3=>?_
 refine Ok.aa (fun _=>no) (fun CQ=>?_)
 simp only [decide_eq_false_iff_not] at CQ
 have g3:=g3.resolve_left CQ
 refine Ok.bind (HA (by omega) (by omega) z2) fun r4 g4=>?_
 refine Ok.aa (fun _=>no) (fun EG=>?_)
 simp only [decide_eq_false_iff_not] at EG
 have g4:=g4.resolve_left EG
 exact Ok.some (Or.inr ⟨by omega,by omega,by omega,by omega⟩)
theorem nG {l:List Int} {i:Nat} {z:Int} (h:i < l.length):l[i]? = some (l.getD i z):=by
 rw [Zr,Z6 h];rfl
def oN (t:Tk) (c:aA) (i:Nat):Bool:=decide (0<=t.1.getD i 0/\t.1.getD i 0<=c.2.2.2.2.1)&&decide (0<=t.2.getD i 0/\t.2.getD i 0<=c.2.2.2.2.2.1)
def Bz (x:Ld) (t:Tk):Bool:=decide (t.1.length=x.2.1.length/\t.2.length=x.2.1.length)&&eI (oN t) x.2.1 0
theorem Qww {x:Ld} {t:Tk} (h:Bz x t=true):t.1.length=x.2.1.length/\t.2.length=x.2.1.length:=by
 unfold Bz at h
 simp only [Z8,Zj] at h
 exact h.1
theorem Qf7 {d:Nat} {x:Ld} {t:Tk} (hl:x.2.1.length<=1000):G3 (d+1) x t=some (Bz x t):=by
 rw [UW]
 unfold qH Bz
 by_cases h1:t.1.length=x.2.1.length
 case neg=>rw [show ((((t.1.length:Nat):Int)) != ((x.2.1.length:Nat):Int))=true by simp;omega,Q4,Q4,Z4 (fun h=>h1 h.1)];rfl
 by_cases h2:t.2.length=x.2.1.length
 case neg=>rw [show ((((t.1.length:Nat):Int)) != ((x.2.1.length:Nat):Int))=false by simp;omega,Q5,show ((((t.2.length:Nat):Int)) != ((x.2.1.length:Nat):Int))=true by simp;omega,Q4,Z4 (fun h=>h2 h.2)];rfl
 rw [show ((((t.1.length:Nat):Int)) != ((x.2.1.length:Nat):Int))=false by simp;omega,Q5,show ((((t.2.length:Nat):Int)) != ((x.2.1.length:Nat):Int))=false by simp;omega,Q5,Z5 ⟨h1,h2⟩,Zg]
 refine (Qd (fun (t:Bool) (i:Int)=>(t,i)) x.2.1 (fun c i b k=>aa (oN t c i) (k b) (some false)) (fun _=>some true) ?_ ?_ (by rw [Q6];omega) false).trans ?_
 .intro ag b i c hx
  have hi:=(Z0 hx).1
  simp only [qG,bX hx,nn,Q3,hx,Q9,Q4]
  rw [nG (l:=t.1) (z:=0) (by omega),nG (l:=t.2) (z:=0) (by omega)]
  simp only [Q9]
  unfold jt
  by_cases a1:t.1.getD i 0 < 0
  .rw [Z5 a1,Q4,Q4,show oN t c i=false by unfold oN;rw [Z4 (by omega),Bool.false_and],Q5]
  by_cases a2:t.1.getD i 0 > c.2.2.2.2.1
  .rw [Z4 a1,Q5,Z5 a2,Q4,Q4,show oN t c i=false by unfold oN;rw [Z4 (by omega),Bool.false_and],Q5]
  by_cases a3:t.2.getD i 0 < 0
  .rw [Z4 a1,Q5,Z4 a2,Q5,Z5 a3,Q4,Q4,show oN t c i=false by unfold oN;rw [Bool.and_comm,Z4 (by omega),Bool.false_and],Q5]
  by_cases a4:t.2.getD i 0 > c.2.2.2.2.2.1
  .rw [Z4 a1,Q5,Z4 a2,Q5,Z4 a3,Q5,Z5 a4,Q4,show oN t c i=false by unfold oN;rw [Bool.and_comm,Z4 (by omega),Bool.false_and],Q5]
  .rw [Z4 a1,Q5,Z4 a2,Q5,Z4 a3,Q5,Z4 a4,Q5,show oN t c i=true by unfold oN;rw [Z5 (by omega),Z5 (by omega)];rfl,Q4,aN (by omega)]
 .intro ag t;simp only [qG,bB,Q5];rfl
 .rw [qQ];cases eI (oN t) x.2.1 0<;>rfl
theorem Qnh {d:Nat} {x:Ld} {t:Tk} (hl:x.2.1.length<=1000):TT (d+2) x t=some (Bz x t):=by
 rw [e91]
 unfold yI Bz
 by_cases h1:t.1.length=x.2.1.length
 case neg=>rw [show ((((t.1.length:Nat):Int)) != ((x.2.1.length:Nat):Int))=true by simp;omega,Q4,Q4,Z4 (fun h=>h1 h.1)];rfl
 by_cases h2:t.2.length=x.2.1.length
 case neg=>rw [show ((((t.1.length:Nat):Int)) != ((x.2.1.length:Nat):Int))=false by simp;omega,Q5,show ((((t.2.length:Nat):Int)) != ((x.2.1.length:Nat):Int))=true by simp;omega,Q4,Z4 (fun h=>h2 h.2)];rfl
 rw [show ((((t.1.length:Nat):Int)) != ((x.2.1.length:Nat):Int))=false by simp;omega,Q5,show ((((t.2.length:Nat):Int)) != ((x.2.1.length:Nat):Int))=false by simp;omega,Q5,Z5 ⟨h1,h2⟩,Zg]
 refine (Qd (fun (t:Bool) (i:Int)=>(t,i)) x.2.1 (fun c i b k=>aa (oN t c i) (k b) (some false)) (fun _=>some true) ?_ ?_ (by rw [Q6];omega) false).trans ?_
 .intro ag b i c hx
  have hi:=(Z0 hx).1
  simp only [yG,bX hx,nn,Q3,hx,Q9,Q4]
  rw [nG (l:=t.1) (z:=0) (by omega),nG (l:=t.2) (z:=0) (by omega),Q9,Q9,wj,Q9,wj,Q9,aN (by omega)]
  unfold oN
  cases decide (0<=t.1.getD i 0/\t.1.getD i 0<=c.2.2.2.2.1) with
  | false=>rfl
  | true=>cases decide (0<=t.2.getD i 0/\t.2.getD i 0<=c.2.2.2.2.2.1)<;>rfl
 .intro ag t;simp only [yG,bB,Q5];rfl
 .rw [qQ];cases eI (oN t) x.2.1 0<;>rfl
theorem Qv8 {x:Ld} (h:eT x=true):x.2.1.length<=24:=by
 unfold eT at h
 simp only [Z8,Zj] at h
 exact h.1.1
theorem Qsx {d:Nat} {x:Ld} {t:Tk} (h:xg x):TU (d+12) x t=some (eT x&&Bz x t):=by
 rw [e53,Qsw h,Q9]
 cases hg:eT x with
 | false=>rfl
 | true =>
  have:=Qv8 hg
  rw [Q4,show d+11=d+9+2 by omega,Qnh (by omega),Q9,Zg]
def bV (F:List Int):List Int:=fR (fun f _=>decide (f < 0)) (fun _ k=>((k:Nat):Int)) F 0
theorem Bm {F:List Int}:(bV F).length<=F.length:=Vh _ _
theorem K7 {d:Nat} {x:Ld} (hl:x.2.1.length<=1000) (hE:x.2.2.2.1.length=x.2.1.length):nR (d+1) x=some (bV x.2.2.2.1):=by
 rw [UX]
 refine (Qd (fun (t:List Int) (i:Int)=>(t,i)) x.2.2.2.1 (fun f i t k=>aa (decide (f < 0)) (aa (Nat.ble ((t.length+[((i:Nat):Int)].length)*8) Q7) (k (t++[((i:Nat):Int)])) none) (k t)) (fun t=>some t) ?_ ?_ (by rw [Q6];omega) []).trans ?_
 .intro ag t i f hx
  have hi:=(Z0 hx).1
  simp only [qI,<- hE,bX hx,nn,Q3,hx,Q9,Q4]
  rw [aN (by omega)]
 .intro ag t;simp only [qI,<- hE,bB,Q5];rfl
 .rw [Ew (c:=fun f _=>decide (f < 0)) (e:=fun (_:Int) (k:Nat)=>((k:Nat):Int)) (w:=8) x.2.2.2.1 0 [] (by simp;omega)]
  rfl
theorem Qsy {d k:Nat} {x:Ld} {f:Int} (h:x.2.2.2.1[k]? = some f):TW (d+1) x ((k:Nat):Int)=some (decide (f < 0)):=by
 rw [e92,nn,Q4,Q3,h,Q9]
theorem Jd {d:Nat} {x:Ld} (hl:x.2.1.length<=1000) (hE:x.2.2.2.1.length=x.2.1.length):Ep (d+2) x=some (bV x.2.2.2.1):=by
 rw [e54]
 refine (Qd (fun (t:List Int) (i:Int)=>(t,i)) x.2.2.2.1 (fun f i t k=>aa (decide (f < 0)) (aa (Nat.ble ((t.length+[((i:Nat):Int)].length)*8) Q7) (k (t++[((i:Nat):Int)])) none) (k t)) (fun t=>some t) ?_ ?_ (by rw [Q6];omega) []).trans ?_
 .intro ag t i f hx
  have hi:=(Z0 hx).1
  simp only [yJ,<- hE,bX hx,Q4]
  rw [Qsy hx,Q9,aN (by omega)]
 .intro ag t;simp only [yJ,<- hE,bB,Q5];rfl
 .rw [Ew (c:=fun f _=>decide (f < 0)) (e:=fun (_:Int) (k:Nat)=>((k:Nat):Int)) (w:=8) x.2.2.2.1 0 [] (by simp;omega)]
  rfl
theorem Qni {l:List aA} (T:Tr l) {i:Int} (hi:vI l i) (hp:0<=bQ l i):pW l (bQ l i) < pW l i:=by
 have hv:=Hq (l:=l) (i:=i) hp
 obtain ⟨A,B,e⟩:=Vt T _ (bQ l i) (Zd _) hv
 rw [Jy T hv] at e
 have hm:i∈(cj l (bQ l i)).flatMap (iS l):=List.mem_flatMap.2 ⟨i,(Bv T hv).2 ⟨hi,rfl⟩,by rw [Jy T hi];simp⟩
 obtain ⟨m,hm⟩:=List.getElem?_of_mem hm
 have au:=(Z0 hm).1
 have h1:(aG l)[A.length]? = some (bQ l i):=by rw [e];simp
 have h2:(aG l)[A.length+1+m]? = some i:=by
  rw [e,List.append_assoc,Zq (by omega),show A.length+1+m - A.length=m+1 by omega,List.cons_append,List.getElem?_cons_succ,List.getElem?_append_left au,hm]
 unfold pW
 rw [sI (rP T) h1,sI (rP T) h2]
 omega
structure Lk (x:Ld):Prop where
 ef:x.2.1.length<=24
 pl:x.2.2.1.length=x.2.1.length
 fl:x.2.2.2.1.length=x.2.1.length
 pd:∀ (k:Nat) (p:Int),x.2.2.1[k]? = some p->p < (k:Int)
 bur:∀ c∈x.2.1,c.2.2.2.2.1<=1000000/\c.2.2.2.2.2.1<=1000000
theorem vZ {x:Ld} (h:eT x=true):Lk x:=by
 have iz:=Qv8 h
 unfold eT DS at h
 simp only [Z8,Zj] at h
 obtain ⟨_,hg,s1,s2,s3,_⟩:=h
 have G:=oG hg
 have T:=G.tr
 have e1:x.2.1.length=(aG (eL x).2.1).length:=by rw [s1];show ((aG (eL x).2.1).map _).length=_;rw [List.length_map]
 refine ⟨iz,?_,?_,?_,?_⟩
 .rw [e1,s2];show ((aG (eL x).2.1).map _).length=_;rw [List.length_map]
 .rw [e1,s3];show ((aG (eL x).2.1).map _).length=_;rw [List.length_map]
 .intro k p hp
  rw [s2] at hp
  have HB:((aG (eL x).2.1).map fun i=>pW (eL x).2.1 (bQ (eL x).2.1 i))[k]? = some p:=hp
  rw [List.getElem?_map] at HB
  obtain ⟨i,hi,rfl⟩:=Option.map_eq_some_iff.1 HB
  have hv:=(jK T).1 (Zc hi)
  have hk:pW (eL x).2.1 i=(k:Int):=sI (rP T) hi
  rcases Int.lt_or_le (bQ (eL x).2.1 i) 0 with h0 | h0
  .rw [vk T h0];omega
  .have:=Qni T hv h0;omega
 .intro c hc
  have hm:c∈(eL x).2.1:=Bi.mem_iff.2 hc
  have:=G.cl
  unfold kD at this
  simp only [Z8] at this
  have:=Z3 this.2.2.2.2.2.2.2.1 c hm
  unfold nc at this
  simp only [Zj] at this
  omega
abbrev Pk:=Int×Int×Int×Int×Int×Int
def JF (n:Int):Bool:=decide (0<=n/\n<=65535)
def kg (p:Pk):Bool:=decide (1<=p.1/\p.1<=100000/\0<=p.2.1/\p.2.1<=65535/\0<=p.2.2.1/\p.2.2.1<=65535/\0<=p.2.2.2.1/\p.2.2.2.1<=65535/\0<=p.2.2.2.2.1/\p.2.2.2.2.1<=65535/\1<=p.2.2.2.2.2/\p.2.2.2.2.2<=1500)
theorem Qdi {d:Nat} {x:Pk}:CE (d+2) x=some (kg x):=by
 rw [UY,LU,Q9]
 refine (Qd (fun (t:Bool) (i:Int)=>(t,i)) [x.2.1,x.2.2.1,x.2.2.2.1,x.2.2.2.2.1] (fun y _ t k=>aa (JF y) (k t) (some false)) (qJ (d+1) x) ?_ ?_ (by rw [Q6];simp) false).trans ?_
 .intro ag t i y hy
  have hi:i < 4:=by have:=(Z0 hy).1;simpa using this
  have h4:decide ((i:Int) < 4)=true:=by simp;omega
  simp only [zP,h4,nn,Q3,Q4]
  rw [hy,Q9,aN (by omega)]
  unfold JF
  by_cases h1:y < 0
  .rw [Z5 h1,Q4,Z4 (by omega),Q5]
  .rw [Z4 h1,Q5]
   by_cases h2:y > 65535
   .rw [Z5 h2,Q4,Z4 (by omega),Q5]
   .rw [Z4 h2,Q5,Z5 (by omega),Q4]
 .intro ag t;rfl
 .rw [CL (p:=JF)]
  unfold qJ
  simp only [vf]
  congr 1
  rw [Bool.eq_iff_iff]
  simp only [List.all_cons,List.all_nil,Bool.and_true,JF,kg]
  simp
  omega
theorem Qsz {d:Nat} {n:Int}:Jl (d+2) n=some (JF n):=by
 rw [e93,wj,Q9];rfl
theorem Qt0 {d:Nat} {x:Pk}:TX (d+3) x=some (kg x):=by
 rw [e56]
 simp only [wj,Qsz,Q9,vf]
 congr 1
 rw [Bool.eq_iff_iff]
 simp [JF,kg]
 omega
theorem V4 {a b:Nat} (h:a<=b):Nat.ble a b=true:=by rw [Nat.ble_eq];exact h
def Qzv (l:List Pk):Prop:=∀ p∈l,kg p=true
def BA (l:List Pk) (id:Int):Bool:=l.any fun p=>p.1==id
theorem Qhk {β:Type} {id:Int} {yes:Nat->Option β} {fin:Int->Option β} (hy:∀ i j,yes i=yes j):∀ (l:List Pk) (i:Nat) (t:Int),
  eg (fun (x:Pk) i (t:Int) k=>aa (x.1==id) (yes i) (k t)) fin l i t=if BA l id then yes 0 else fin t
 | [],i,t=>by simp [eg,BA]
 | x::r,i,t=>by
  simp only [eg]
  cases h:x.1==id with
  | true=>simp only [Q4,BA,List.any_cons,h,Bool.true_or,if_true];exact hy i 0
  | false=>simp only [Q5,BA,List.any_cons,h,Bool.false_or];exact Qhk hy r (i+1) t
theorem Qwx {d:Nat} {l:List Pk} {id:Int} (hl:l.length < 4194304):G9 (d+4) l id=some (BA l id):=by
 rw [U4]
 refine (Qd (fun (t:Int) (i:Int)=>(t,i)) l (fun (x:Pk) i (t:Int) k=>aa (x.1==id) (some true) (k t)) (fun _=>some false) ?_ ?_ (by rw [Q6];exact hl) 0).trans ?_
 .intro ag t i x hx
  have hi:=(Z0 hx).1
  simp only [dP,bX hx,nn,Q3,hx,Q9,Q4]
  rw [aN (by omega)]
  first | done | rfl | simp
 .intro ag t;simp only [dP,bB,Q5];rfl
 .rw [Qhk (fun _ _=>rfl)];cases BA l id<;>rfl
def JG (l:List Pk) (x:Pk) (i:Nat):Bool:=kg x && !BA (l.take i) x.1
def Mn (l:List Pk):Bool:=eI (JG l) l 0
theorem Qv9 (l:List Pk):∀ (r pre:List Pk),l=pre++r->(eI (JG l) r pre.length=true↔(∀ x∈r,kg x=true)/\(∀ x∈r,∀ y∈pre,y.1≠x.1)/\(r.map fun p=>p.1).Nodup)
 | [],pre,_=>by simp [eI]
 | x::r,pre,h=>by
  have ih:=Qv9 l r (pre++[x]) (by rw [h];simp)
  simp only [Zf,Z9,Zb,Zo] at ih
  have ht:l.take pre.length=pre:=by rw [h];simp
  simp only [eI,Z8,ih,JG,ht,Bool.not_eq_true',List.map_cons,List.nodup_cons,List.mem_cons,forall_eq_or_imp,Zh,List.mem_singleton]
  have hh:BA pre x.1=false↔∀ y∈pre,y.1≠x.1:=by
   unfold BA;rw [List.any_eq_false];simp
  rw [hh]
  constructor
  .rintro ⟨⟨a,b⟩,c,e,f⟩
   refine ⟨⟨a,c⟩,⟨b,fun z hz y hy=>e z hz y (.inl hy)⟩,fun hm=>?_,f⟩
   obtain ⟨z,hz,hzx⟩:=List.mem_map.1 hm
   exact e z hz x (.inr (.inl rfl)) hzx.symm
  .rintro ⟨⟨a,c⟩,⟨b,e⟩,g,f⟩
   refine ⟨⟨a,b⟩,c,fun z hz y hy=>?_,f⟩
   rcases hy with hy | hy | hy
   .exact e z hz y hy
   .subst hy;exact fun he=>g (List.mem_map.2 ⟨z,hz,he.symm⟩)
   .simp at hy
theorem Qzw (l:List Pk):Mn l=true↔Qzv l/\(l.map fun p=>p.1).Nodup:=by
 have:=Qv9 l l [] rfl
 simp only [Zb,List.not_mem_nil,false_imp_iff,implies_true,true_and] at this
 exact this
theorem Qnj {d:Nat} {l:List Pk} (hl:l.length < 4194304):He (d+5) l=some (Mn l):=by
 rw [U5]
 refine (Qd (fun (t:Bool) (i:Int)=>(t,i)) l (fun x i t k=>aa (JG l x i) (k t) (some false)) (fun _=>some true) ?_ ?_ (by rw [Q6];exact hl) false).trans ?_
 .intro ag t i x hx
  have hi:=(Z0 hx).1
  simp only [qL,bX hx,nn,Q3,hx,Q9,Q4,Qdi]
  rw [aN (by omega),V4 (show i<=l.length by omega),Q4,Qwx (by simp;omega),Q9]
  unfold JG
  cases kg x<;>cases BA (l.take i) x.1<;>rfl
 .intro ag t;simp only [qL,bB,Q5];rfl
 .rw [qQ];unfold Mn;cases eI (JG l) l 0<;>rfl
abbrev Rg:=Ld×Tk×List (List Pk)×Int×Int
def Mo (l:List (List Pk)):Prop:=l.length<=1048576/\∀ r∈l,r.length<=1048576
theorem JH {rows:List (List Pk)} {k:Nat} {row:List Pk} (hx:rows[k]? = some row):(rows.take (k+1)).flatten=(rows.take k).flatten++row:=by
 have hk:=(Z0 hx).1
 have e:=(Z0 hx).2
 rw [List.take_succ_eq_append_getElem hk,List.flatten_append,e]
 simp
theorem V5 {rows:List (List Pk)} (k:Nat):(rows.take k).flatten.length<=rows.flatten.length:=by
 have:rows.flatten=(rows.take k).flatten++(rows.drop k).flatten:=by rw [<- List.flatten_append,List.take_append_drop]
 rw [this,Zf];omega
theorem Qhl {d:Nat} {l:List (List Pk)} {n:Int} (h0:0<=n) (h1:n<=1048576) (hl:l.length<=9223372036854775807) (hr:∀ r∈l,r.length<=9223372036854775807):Ok (g23 (d+2) l n) fun r=>r < 0\/(0<=r/\Mo l/\l.flatten.length<=1048576/\0<=r/\r<=1048576):=by
 rw [e23,wr (by omega) (by omega)]
 by_cases h:n - ((l.length:Nat):Int) < 0
 .rw [Z5 h,Q4];exact Ok.some (Or.inl (by omega))
 rw [Z4 h,Q5]
 refine Pt (fun (t:Int×Int) (i:Int)=>(t.1,t.2,i)) l (fun k t=>(0<=t.1/\t.1+(((l.take k).flatten.length:Nat):Int)<=1048576)/\∀ (j:Nat) r,j < k->l[j]? = some r->r.length<=1048576) ?_ ?_ Qc 0 (n - ((l.length:Nat):Int),0) (by rw [Q6];omega) (by omega) ⟨⟨by simp only;omega,by simp only [List.take_zero,List.flatten_nil,Zb];omega⟩,fun j r hj=>absurd hj (by omega)⟩
 .rintro ag ⟨a,b⟩ k row hx ⟨⟨a0,a1⟩,hp⟩ ez
  simp only at a0 a1
  have hk:=(Z0 hx).1
  have cx:=hr row (Zc hx)
  simp only [xB,bX hx,nn,Q3,hx,Q9,Q4]
  rw [e52,wr (by omega) (by omega)]
  by_cases h5:a - ((row.length:Nat):Int) < 0
  .rw [Z5 h5,Q4,Q9,Z5 (show (-1:Int) < 0 by omega),Q4];exact Ok.some (Or.inl (by omega))
  .rw [Z4 h5,Q5,Q9,Z4 h5,Q5,aN (by omega)]
   have h6:(l.take (k+1)).flatten.length=(l.take k).flatten.length+row.length:=by rw [JH hx,Zf]
   refine ez (a - ((row.length:Nat):Int),b) ⟨⟨by simp only;omega,by simp only;omega⟩,fun j r hj hg=>?_⟩
   by_cases e:j=k
   .subst e;rw [hx] at hg;injection hg with hg;subst hg;omega
   .exact hp j r (by omega) hg
 .rintro ag ⟨a,b⟩ ⟨⟨a0,a1⟩,hp⟩
  simp only at a0 a1
  simp only [xB,bB,Q5]
  rw [List.take_length] at a1
  refine Ok.some (Or.inr ⟨a0,⟨by omega,fun r hr=>?_⟩,by omega,a0,by omega⟩)
  obtain ⟨j,hj⟩:=List.getElem?_of_mem hr
  exact hp j r (Z0 hj).1 hj
def Mp (r:Rg):Prop:=By r.1/\r.2.1.1.length<=1048576/\r.2.1.2.length<=1048576/\Mo r.2.2.1
def S9 (r:Rg):Prop:=S7 r.1/\(r.2.1.1.length<=9223372036854775807/\r.2.1.2.length<=9223372036854775807)/\r.2.2.1.length<=9223372036854775807/\∀ q∈r.2.2.1,q.length<=9223372036854775807
theorem Qwy {d:Nat} {r:Rg} (h:S9 r):Ok (g6 (d+3) r 1048576) fun z=>z < 0\/(0<=z/\z<=1048576/\Mp r/\r.2.2.1.flatten.length<=1048576):=by
 obtain ⟨z1,z2,z3,z4⟩:=h
 have no:Ok (some (-1:Int)) fun z=>z < 0\/(0<=z/\z<=1048576/\Mp r/\r.2.2.1.flatten.length<=1048576):=Ok.some (Or.inl (by omega))
 rw [e6]
 refine Ok.bind (Qnd (by omega) (by omega) z1) fun r3 g3=>?_
 refine Ok.aa (fun _=>no) (fun CQ=>?_)
 simp only [decide_eq_false_iff_not] at CQ
 have g3:=g3.resolve_left CQ
 refine Ok.bind (Qng (by omega) (by omega) z2.1 z2.2) fun r4 g4=>?_
 refine Ok.aa (fun _=>no) (fun EG=>?_)
 simp only [decide_eq_false_iff_not] at EG
 have g4:=g4.resolve_left EG
 refine Ok.bind (Qhl (by omega) (by omega) z3 z4) fun r5 g5=>?_
 refine Ok.aa (fun _=>no) (fun Mm=>?_)
 simp only [decide_eq_false_iff_not] at Mm
 have g5:=g5.resolve_left Mm
 exact Ok.some (Or.inr ⟨g5.1,g5.2.2.2.2,⟨g3.2.2,g4.2.2.1,g4.2.2.2,g5.2.1⟩,g5.2.2.1⟩)
theorem Qk6 {d:Nat} {l:List Pk} (hl:l.length<=1048576):Th (d+2) l=some l:=by
 rw [e69,nn,Q4,Q4,Q3,show (Nat.ble l.length l.length&&Nat.ble (l.length*48) Q7)=true by rw [Z8,Nat.ble_eq,Nat.ble_eq];unfold Q7;omega,Q4]
 refine Ok.val (mH (fun j (s:Int×List Pk)=>∃ k:Nat,k+j=l.length/\s.1=(k:Int)/\s.2=l.take k++List.replicate (l.length - k) ((0,0,0,0,0,0):Pk)) ?_ _ l.length _ (by rw [Q6];omega) ⟨0,by omega,rfl,by simp⟩)
 rintro j ⟨n,r⟩ ag ⟨k,hk,h1,h2⟩ ez
 simp only at h1 h2
 subst h1
 have kG:r.length=l.length:=by rw [h2];simp;omega
 simp only [Ed]
 rcases Nat.lt_or_ge k l.length with au | tA
 .have hx:=Z6 au
  rw [bX hx,Q4,nn,Q4,Q3,hx,Q9,Tg,Q9,Q4,Qk (by omega),Q4,Z6 (by omega),Q9,aN (by omega)]
  exact ez (j - 1) _ (by omega) ⟨k+1,by omega,rfl,by rw [h2];exact Ml hx⟩
 .have:k=l.length:=by omega
  subst this
  rw [bB,Q5]
  unfold Ec
  exact Ok.some (by rw [h2];simp)
theorem Qhm {d:Nat} {l:List (List Pk)} (h:Mo l):Ti (d+3) l=some l:=by
 obtain ⟨hl,hr⟩:=h
 rw [e30,nn,Q4,Q4,Q3,show (Nat.ble l.length l.length&&Nat.ble (l.length*24) Q7)=true by rw [Z8,Nat.ble_eq,Nat.ble_eq];unfold Q7;omega,Q4]
 refine Ok.val (mH (fun j (s:Int×List (List Pk))=>∃ k:Nat,k+j=l.length/\s.1=(k:Int)/\s.2=l.take k++List.replicate (l.length - k) ([]:List Pk)) ?_ _ l.length _ (by rw [Q6];omega) ⟨0,by omega,rfl,by simp⟩)
 rintro j ⟨n,r⟩ ag ⟨k,hk,h1,h2⟩ ez
 simp only at h1 h2
 subst h1
 have kG:r.length=l.length:=by rw [h2];simp;omega
 simp only [Ef]
 rcases Nat.lt_or_ge k l.length with au | tA
 .have hx:=Z6 au
  rw [bX hx,Q4,nn,Q4,Q3,hx,Q9,Qk6 (hr _ (List.getElem_mem au)),Q9,Q4,Qk (by omega),Q4,Z6 (show k < r.length by omega),Q9,aN (by omega)]
  exact ez (j - 1) _ (by omega) ⟨k+1,by omega,rfl,by rw [h2];exact Ml hx⟩
 .have:k=l.length:=by omega
  subst this
  rw [bB,Q5]
  unfold Ee
  exact Ok.some (by rw [h2];simp)
theorem Qwz {d:Nat} {r:Rg} (h:Mp r):g8 (d+4) r=some r:=by
 obtain ⟨h1,h2,h3,h4⟩:=h
 rw [e8,Qnc h1,Q9,show d+3=d+1+2 by omega,Qnf h2 h3,Q9,show d+1+2=d+3 by omega,Qhm h4,Q9]
theorem Qk7 {d:Nat} {l:List Pk} (hl:l.length<=2000000):Tt (d+2) l l=some true:=by
 rw [e80,bne_self_eq_false,Q5]
 refine (Qd (fun (t:Bool) (i:Int)=>(t,i)) l (fun x i t k=>k t) (Ej (d+1)) ?_ ?_ (by rw [Q6];omega) false).trans ?_
 .intro ag t i x hx;have hi:=(Z0 hx).1;simp only [xO,bX hx,nn,Q3,hx,Q9,Q4]
  rw [Tq]
  simp only [bne_self_eq_false,Q5,Zl,Q9]
  rw [aN (by omega)]
 .intro ag t;simp only [xO,bB,Q5]
 .rw [xe (f:=fun _ _ t=>t)];rfl
theorem Qhn {d:Nat} {l:List (List Pk)} (h:Mo l):Tu (d+3) l l=some true:=by
 obtain ⟨hl,hr⟩:=h
 rw [e36,bne_self_eq_false,Q5]
 refine (Qd (fun (t:Bool) (i:Int)=>(t,i)) l (fun x i t k=>k t) (El (d+2)) ?_ ?_ (by rw [Q6];omega) false).trans ?_
 .intro ag t i x hx;have hi:=(Z0 hx).1;simp only [xQ,bX hx,nn,Q3,hx,Q9,Q4]
  have:=hr _ (Zc hx)
  rw [Qk7 (by omega),Q9,Zl,Q5,aN (by omega)]
 .intro ag t;simp only [xQ,bB,Q5]
 .rw [xe (f:=fun _ _ t=>t)];rfl
theorem Qpt {d:Nat} {r:Rg} (h:Mp r):g10 (d+4) r r=some true:=by
 obtain ⟨h1,h2,h3,h4⟩:=h
 rw [e10,Qnb h1,Q9,Zl,Q5,show d+3=d+1+2 by omega,Qne (by omega) (by omega),Q9,Zl,Q5,show d+1+2=d+3 by omega,Qhn h4,Q9,Zl,Q5,bne_self_eq_false,Q5,bne_self_eq_false,Q5]
theorem Qt2 {d:Nat} {rows:List (List Pk)} (hl:rows.length<=1000) (hs:rows.flatten.length<=100000):Hf (d+2) rows=some rows.flatten:=by
 rw [U6]
 have lp1:∀ (m k fuel:Nat),k+m=rows.length->m < fuel->Q8 (mB d rows (zQ d)) fuel ((rows.take k).flatten,((k:Nat):Int))=some rows.flatten:=by
  intro m
  induction m with
  | zero =>
   intro k fuel e h
   obtain ⟨g,rfl⟩:∃ g,fuel=g+1:=⟨fuel - 1,by omega⟩
   obtain rfl:k=rows.length:=by omega
   simp only [Q8,mB,bB,Q5]
   rw [List.take_length];rfl
  | succ m ih =>
   intro k fuel e h
   obtain ⟨g,rfl⟩:∃ g,fuel=g+1:=⟨fuel - 1,by omega⟩
   have hk:k < rows.length:=by omega
   have hx:=Z6 hk
   have h2:=V5 (rows:=rows) (k+1)
   rw [JH hx,Zf] at h2
   simp only [Q8,mB,bX hx,nn,Q3,hx,Q9,Q4]
   rw [room (by omega),Q4,aN (by omega),<- JH hx]
   exact ih (k+1) g (by omega) (by omega)
 have lp2:∀ (m k fuel:Nat),k+m=rows.length->m < fuel->Q8 (iR d rows (zS d)) fuel ((rows.take k).flatten,((k:Nat):Int))=some rows.flatten:=by
  intro m
  induction m with
  | zero =>
   intro k fuel e h
   obtain ⟨g,rfl⟩:∃ g,fuel=g+1:=⟨fuel - 1,by omega⟩
   obtain rfl:k=rows.length:=by omega
   simp only [Q8,iR,bB,Q5]
   rw [List.take_length];rfl
  | succ m ih =>
   intro k fuel e h
   obtain ⟨g,rfl⟩:∃ g,fuel=g+1:=⟨fuel - 1,by omega⟩
   have hk:k < rows.length:=by omega
   have hx:=Z6 hk
   have h2:=V5 (rows:=rows) (k+1)
   rw [JH hx,Zf] at h2
   simp only [Q8,iR,bX hx,nn,Q3,hx,Q9,Q4]
   rw [room (by omega),Q4,aN (by omega),<- JH hx]
   exact ih (k+1) g (by omega) (by omega)
 have lp0:∀ (m k fuel:Nat),k+m=rows.length->m < fuel->Q8 (mE d rows (mD d rows)) fuel ((((rows.take k).flatten.length:Nat):Int),((k:Nat):Int))=mD d rows ((rows.flatten.length:Nat):Int):=by
  intro m
  induction m with
  | zero =>
   intro k fuel e h
   obtain ⟨g,rfl⟩:∃ g,fuel=g+1:=⟨fuel - 1,by omega⟩
   obtain rfl:k=rows.length:=by omega
   simp only [Q8,mE,bB,Q5]
   rw [List.take_length]
  | succ m ih =>
   intro k fuel e h
   obtain ⟨g,rfl⟩:∃ g,fuel=g+1:=⟨fuel - 1,by omega⟩
   have hk:k < rows.length:=by omega
   have hx:=Z6 hk
   have h2:=V5 (rows:=rows) (k+1)
   have h3:=JH hx
   have h4:(rows.take (k+1)).flatten.length=(rows.take k).flatten.length+(rows[k]).length:=by rw [h3,Zf]
   simp only [Q8,mE,bX hx,nn,Q3,hx,Q9,Q4]
   rw [wr (n:=(((rows.take k).flatten.length:Nat):Int)+(((rows[k]).length:Nat):Int)) (by omega) (by omega),Z4 (by omega),Q5,aN (by omega),show (((rows.take k).flatten.length:Nat):Int)+(((rows[k]).length:Nat):Int)=(((rows.take (k+1)).flatten.length:Nat):Int) by omega]
   exact ih (k+1) g (by omega) (by omega)
 refine (lp0 rows.length 0 Qc (by omega) (by rw [Q6];omega)).trans ?_
 unfold mD
 have e0:IntKind.i64.wrap ((0:Int) - ((0:Nat):Int))=0:=by rw [wr (by omega) (by omega)];rfl
 rw [Z4 (by omega),Q5,e0,Int.sub_zero,wr (by omega) (by omega)]
 by_cases h:rows.flatten.length=0
 .rw [Z4 (by omega),Q5]
  exact lp2 rows.length 0 Qc (by omega) (by rw [Q6];omega)
 .rw [Z5 (by omega),Q4,show Nat.ble 0 0=true from rfl,Q4,nn,Zg,Z5 (by unfold Q7;omega),Q4,Q3,List.length_replicate,show Nat.ble (rows.flatten.length*48) Q7=true by rw [Nat.ble_eq];unfold Q7;omega,Q4]
  rw [show decide (0<=((0:Nat):Int))=true from rfl,Q4,show (((0:Nat):Int)).toNat=0 from rfl,show Nat.ble 0 rows.flatten.length=true by rw [Nat.ble_eq];omega,Q4,List.take_zero]
  exact lp1 rows.length 0 Qc (by omega) (by rw [Q6];omega)
def Mq (f:dJ) (p:Pk):Bool:=(IntKind.i64.wrap ((BitVec.ofInt IntKind.i64.bits (([p.2.1,p.2.2.1,p.2.2.2.1,p.2.2.2.2.1]:List Int).getD f.2.1.toNat 0) &&& BitVec.ofInt IntKind.i64.bits f.2.2.1).toNat:Int))==f.2.2.2.1
theorem Qx0 {d:Nat} {f:dJ} {p:Pk} (h:0<=f.2.1/\f.2.1<=3):G6 (d+2) f p=some (Mq f p):=by
 rw [UZ,LU,Q9,Z5 h.1,Q4,nG (l:=[p.2.1,p.2.2.1,p.2.2.2.1,p.2.2.2.2.1]) (z:=0) (by simp only [Z9,Zb];omega),Q9]
 rfl
theorem Qpu {d:Nat} {f:dJ} {p:Pk} (h:0<=f.2.1/\f.2.1<=3):Gb (d+2) f p=some (Mq f p):=by
 have h4:f.2.1.toNat < ([p.2.1,p.2.2.1,p.2.2.2.1,p.2.2.2.2.1]:List Int).length:=by simp only [Z9,Zb];omega
 rw [TZ,TY,Z5 h.1,Q4,Qk h4,Q4,nG (l:=[p.2.1,p.2.2.1,p.2.2.2.1,p.2.2.2.2.1]) (z:=0) h4,Q9,Q9]
 rfl
structure Lr (x:Ld):Prop where
 fo:∀ f∈x.2.2.2.2.2.2.1,0<=f.2.1/\f.2.1<=3
 tl:x.2.2.2.2.2.2.2.1.length=x.2.2.2.2.2.2.1.length
 f16:x.2.2.2.2.2.2.1.length<=16
 ai:∀ c∈x.2.1,c.2.2.2.2.2.2.2<=60
 rat:∀ c∈x.2.1,1<=c.2.2.1/\c.2.2.1<=100000/\1<=c.2.2.2.1/\c.2.2.2.1<=100000
 l0:∀ c∈x.2.1,0<=c.2.2.2.2.2.2.2
 bul:∀ c∈x.2.1,1500<=c.2.2.2.2.1/\1500<=c.2.2.2.2.2.1/\0<=c.2.2.2.2.2.2.1/\c.2.2.2.2.2.2.1<=7
theorem Jb {x:Ld} (h:eT x=true):Lr x:=by
 unfold eT DS at h
 simp only [Z8,Zj] at h
 obtain ⟨hz,hg,s1,s2,s3,s4,s5,s6,s7⟩:=h
 have G:=oG hg
 have hc:=G.cl
 unfold kD at hc
 simp only [Z8] at hc
 obtain ⟨_,_,_,_,_,h6,h7,h8,h9⟩:=hc
 have hm:∀ c∈x.2.1,c∈(eL x).2.1:=fun c hc=>Bi.mem_iff.2 hc
 refine ⟨fun f hf=>?_,?_,hz.2,fun c hc=>?_,fun c hc=>?_,fun c hc=>?_,fun c hc=>?_⟩
 .have:=(G.L9 f hf).2.2
  unfold Ai at this
  simp only [Z8,Zj] at this
  omega
 .rw [s6]
  show (x.2.2.2.2.2.2.1.map _).length=_
  rw [List.length_map]
 .have:=Z3 h9 c (hm c hc)
  unfold mY at this
  split at this
  .simp only [Zj] at this;omega
  .simp only [beq_iff_eq] at this;omega
 .have:=Z3 h6 c (hm c hc)
  unfold mI at this
  simp only [Zj] at this
  omega
 .have:=Z3 h9 c (hm c hc)
  unfold mY at this
  split at this
  .simp only [Zj] at this;omega
  .simp only [beq_iff_eq] at this;omega
 .have:=Z3 h8 c (hm c hc)
  unfold nc at this
  simp only [Zj] at this
  omega
def vo (fs:List dJ) (p:Pk):Int:=fy (fun f=>Mq f p) fs 0
theorem Qf8 {d:Nat} {fs:List dJ} {p:Pk} (hl:fs.length<=1000) (h:∀ f∈fs,0<=f.2.1/\f.2.1<=3):G8 (d+3) fs p=some (vo fs p):=by
 rw [U0]
 refine (Qd (fun (t:Int) (i:Int)=>(t,i)) fs (fun f i t k=>aa (Mq f p) (some ((i:Nat):Int)) (k t)) (fun _=>some (-1)) ?_ ?_ (by rw [Q6];omega) 0).trans (Eu fs 0 _)
 .intro ag t i f hx
  have hi:=(Z0 hx).1
  simp only [qK,bX hx,nn,Q3,hx,Q9,Q4]
  rw [Qx0 (h f (Zc hx)),Q9,aN (by omega)]
 .intro ag t;simp only [qK,bB,Q5];rfl
theorem Qpv {d:Nat} {fs:List dJ} {p:Pk} (hl:fs.length<=1000) (h:∀ f∈fs,0<=f.2.1/\f.2.1<=3):T0 (d+3) fs p=some (vo fs p):=by
 rw [e94]
 refine (Qd (fun (t:Int) (i:Int)=>(t,i)) fs (fun f i t k=>aa (Mq f p) (some ((i:Nat):Int)) (k t)) (fun _=>some (-1)) ?_ ?_ (by rw [Q6];omega) 0).trans (Eu fs 0 _)
 .intro ag t i f hx
  have hi:=(Z0 hx).1
  simp only [yL,bX hx,nn,Q3,hx,Q9,Q4]
  rw [Qpu (h f (Zc hx)),Q9,aN (by omega)]
 .intro ag t;simp only [yL,bB,Q5];rfl
def cE (x:Ld) (p:Pk):Int:=if vo x.2.2.2.2.2.2.1 p>=0 then x.2.2.2.2.2.2.2.1.getD (vo x.2.2.2.2.2.2.1 p).toNat 0 else x.2.2.2.2.2.2.2.2
theorem V6 {fs:List dJ} {p:Pk} (h:0<=vo fs p):vo fs p < ((fs.length:Nat):Int):=by
 obtain ⟨j,y,h1,h2,h3,_⟩:=Ju h
 have:=(Z0 h2).1
 unfold vo at *
 omega
theorem ZP {d:Nat} {x:Ld} {p:Pk} (R:Lr x):CF (d+4) x p=some (cE x p):=by
 have Ce:=R.f16
 rw [U3,Qf8 (by omega) R.fo,Q9]
 unfold cE
 by_cases h:vo x.2.2.2.2.2.2.1 p>=0
 .have:=V6 h
  have:=R.tl
  rw [Z5 h,Q4,Q4,nG (l:=x.2.2.2.2.2.2.2.1) (z:=0) (by omega),Q9,if_pos h]
 .rw [Z4 h,Q5,if_neg h]
theorem ZT {d:Nat} {x:Ld} {p:Pk} (R:Lr x):O2 (d+4) x p=some (cE x p):=by
 have Ce:=R.f16
 rw [e57,Qpv (by omega) R.fo,Q9]
 unfold cE
 by_cases h:vo x.2.2.2.2.2.2.1 p>=0
 .have:=V6 h
  have:=R.tl
  rw [Z5 h,Q4,Q4,nG (l:=x.2.2.2.2.2.2.2.1) (z:=0) (by omega),Q9,if_pos h]
 .rw [Z4 h,Q5,if_neg h]
def mX (x:Ld) (w:Int):Int:=(aV x.2.1 w).2.2.2.2.2.2.2
def Ao (x:Ld) (w:Int) (row:List Pk):Bool := !decide (((row.length:Nat):Int) > mX x w)&&row.all (fun p=>kg p&&(cE x p==w))
def PF (r:Rg):Bool:=decide (r.2.2.1.length=(bV r.1.2.2.2.1).length)&&(decide (-1<=r.2.2.2.1/\r.2.2.2.1 < (((bV r.1.2.2.2.1).length:Nat):Int))&&decide (0<=r.2.2.2.2/\r.2.2.2.2<=1000000))
def jY (r:Rg):Bool:=eT r.1&&(Bz r.1 r.2.1&&(PF r&&(eI (fun w i=>Ao r.1 w (r.2.2.1.getD i [])) (bV r.1.2.2.2.1) 0&&Mn r.2.2.1.flatten)))
theorem FN {F:List Int} {w:Int} (h:w∈bV F):0<=w/\w < ((F.length:Nat):Int):=by
 obtain ⟨j,x,h1,h2,h3⟩:=Vi _ _ h
 have:=(Z0 h1).1
 omega
theorem V7 {l:List (List Pk)} {i:Nat} (h:i < l.length):l[i]? = some (l.getD i []):=by
 rw [Zr,Z6 h];rfl
theorem Qpy {x:Ld} {rows:List (List Pk)} {W:List Int} (R:Lr x) (hW:∀ w∈W,vI x.2.1 w) (hl:rows.length=W.length) (h:eI (fun w i=>Ao x w (rows.getD i [])) W 0=true):(∀ row∈rows,row.length<=60)/\∀ row∈rows,∀ p∈row,kg p=true:=by
 rw [o_] at h
 have key:∀ row∈rows,row.length<=60/\∀ p∈row,kg p=true:=by
  intro row hr
  obtain ⟨i,hi⟩:=List.getElem?_of_mem hr
  have au:=(Z0 hi).1
  have hw:=Z6 (l:=W) (i:=i) (by omega)
  have:=h i _ hw
  rw [Zo,Zr,hi] at this
  unfold Ao mX at this
  simp only [Option.getD_some,Z8,Bool.not_eq_true',decide_eq_false_iff_not,List.all_eq_true] at this
  have hv:=hW _ (Zc hw)
  have Jf:=R.ai _ (Zc (fu hv))
  exact ⟨by omega,fun p hp=>(this.2 p hp).1⟩
 exact ⟨fun row hr=>(key row hr).1,fun row hr=>(key row hr).2⟩
theorem PG {B:Nat}:∀ {rows:List (List Pk)},(∀ row∈rows,row.length<=B)->rows.flatten.length<=rows.length*B
 | [],_=>by simp
 | r::rows,h=>by
  have:=PG (B:=B) (rows:=rows) fun row hr=>h row (by simp [hr])
  have:=h r (by simp)
  rw [Ze,Zf,Z9,Nat.add_mul,Nat.one_mul]
  omega
theorem ZU {d:Nat} {r:Rg} (h:xg r.1):O8 (d+28) r=some (jY r):=by
 rw [e70,Qn7 h,Q9]
 unfold jY PF zY
 cases hg:eT r.1 with
 | false=>rfl
 | true =>
  have L:=vZ hg
  have R:=Jb hg
  have iz:=L.ef
  have hf:=L.fl
  have hv:=Bm (F:=r.1.2.2.2.1)
  rw [Zl,Q5,show d+27=d+26+1 by omega,Qf7 (by omega),Q9,Zg]
  cases hb:Bz r.1 r.2.1 with
  | false=>rfl
  | true =>
   rw [Zl,Q5,K7 (by omega) hf,Q9,Zg]
   unfold kO
   by_cases a:r.2.2.1.length=(bV r.1.2.2.2.1).length
   case neg=>rw [show ((((r.2.2.1.length:Nat):Int)) != (((bV r.1.2.2.2.1).length:Nat):Int))=true by simp;omega,Q4,Q4,Z4 a];rfl
   rw [show ((((r.2.2.1.length:Nat):Int)) != (((bV r.1.2.2.2.1).length:Nat):Int))=false by simp;omega,Q5,Z5 a,Zg]
   by_cases a1:r.2.2.2.1 < -1
   .rw [Z5 a1,Q4,Q4,Z4 (show ¬ (-1<=r.2.2.2.1/\r.2.2.2.1 < (((bV r.1.2.2.2.1).length:Nat):Int)) by omega)];rfl
   rw [Z4 a1,Q5]
   by_cases a2:r.2.2.2.1>=(((bV r.1.2.2.2.1).length:Nat):Int)
   .rw [Z5 a2,Q4,Q4,Z4 (show ¬ (-1<=r.2.2.2.1/\r.2.2.2.1 < (((bV r.1.2.2.2.1).length:Nat):Int)) by omega)];rfl
   rw [Z4 a2,Q5,Z5 (show -1<=r.2.2.2.1/\r.2.2.2.1 < (((bV r.1.2.2.2.1).length:Nat):Int) by omega),Zg]
   by_cases a3:r.2.2.2.2 < 0
   .rw [Z5 a3,Q4,Q4,Z4 (show ¬ (0<=r.2.2.2.2/\r.2.2.2.2<=1000000) by omega)];rfl
   rw [Z4 a3,Q5]
   by_cases a4:r.2.2.2.2 > 1000000
   .rw [Z5 a4,Q4,Z4 (show ¬ (0<=r.2.2.2.2/\r.2.2.2.2<=1000000) by omega)];rfl
   rw [Z4 a4,Q5,Z5 (show 0<=r.2.2.2.2/\r.2.2.2.2<=1000000 by omega),Zg]
   have hW:∀ w∈bV r.1.2.2.2.1,vI r.1.2.1 w:=fun w hw=>by obtain ⟨q1,q2⟩:=FN hw;exact ⟨q1,by omega⟩
   refine (Qd (fun (b:Bool) (i:Int)=>(b,i)) (bV r.1.2.2.2.1) (fun w i b k=>aa (Ao r.1 w (r.2.2.1.getD i [])) (k b) (some false)) (fun b=>zT (d+26+1) r b) ?_ ?_ (by rw [Q6];omega) false).trans ?_
   .intro ag b i w hx
    have hi:=(Z0 hx).1
    have gV:=hW w (Zc hx)
    have Jf:=R.ai _ (Zc (fu gV))
    simp only [zW,bX hx,nn,Q3,hx,Q9,Q4,tG hx]
    rw [V7 (l:=r.2.2.1) (by omega)]
    simp only [Q9]
    rw [Z5 gV.1,Q4,fu gV,Q9]
    unfold Ao mX
    by_cases b1:((((r.2.2.1.getD i []).length:Nat):Int)) > (aV r.1.2.1 w).2.2.2.2.2.2.2
    .rw [Z5 b1,Q4,Zl,Bool.false_and,Q5]
    .rw [Z4 b1,Q5,Bool.not_false,Zg]
     refine (Qd (fun (b:Bool) (j:Int)=>(b,j)) (r.2.2.1.getD i []) (fun p _ b k=>aa (kg p&&(cE r.1 p==w)) (k b) (some false)) (fun b=>ag (b,((i+1:Nat):Int))) ?_ ?_ (by rw [Q6];omega) b).trans ?_
     .intro V8 b' j p hp
      have hj:=(Z0 hp).1
      simp only [zU,bX hp,nn,Q3,hp,Q9,Q4]
      rw [show d+26+1=d+25+2 by omega,Qdi,Q9,show d+25+2=d+23+4 by omega,ZP R,Q9,aN (by omega)]
      cases kg p with
      | false=>rfl
      | true =>
       rw [Zl,Q5,Zg]
       by_cases e:cE r.1 p=w
       .rw [show (cE r.1 p != w)=false by rw [e];exact bne_self_eq_false _,Q5,show (cE r.1 p==w)=true from beq_iff_eq.2 e,Q4]
       .rw [show (cE r.1 p != w)=true from bne_iff_ne.2 e,Q4,show (cE r.1 p==w)=false from beq_eq_false_iff_ne.2 e,Q5]
     .intro V8 b'
      simp only [zU,bB,Q5]
      unfold Es
      rw [aN (by omega)]
     .rw [CL (p:=fun p=>kg p&&(cE r.1 p==w))]
   .intro ag t;simp only [zW,bB,Q5]
   .rw [qQ]
    cases hk:eI (fun w i=>Ao r.1 w (r.2.2.1.getD i [])) (bV r.1.2.2.2.1) 0 with
    | false=>rfl
    | true =>
     obtain ⟨r1,r2⟩:=Qpy R hW a hk
     have:=PG r1
     rw [Q4,Zg]
     unfold zT
     rw [show d+26+1=d+25+2 by omega,Qt2 (by omega) (by omega),Q9,show d+25+2=d+22+5 by omega,Qnj (by omega),Q9]
def vp {α τ:Type} (p:α->Nat->τ->Bool) (f:α->Nat->τ->τ):List α->Nat->τ->Bool
 | [],_,_=>true
 | x::r,i,t=>p x i t&&vp p f r (i+1) (f x i t)
theorem V9 {α τ β:Type} {p:α->Nat->τ->Bool} {f:α->Nat->τ->τ} {step:α->Nat->τ->(τ->Option β)->Option β} {no:Option β} {fin:τ->Option β} (I:Nat->τ->Prop):∀ (l:List α) (i:Nat) (t:τ),I i t->(∀ j x t k,l[j]? = some x->I (i+j) t->step x (i+j) t k=aa (p x (i+j) t) (k (f x (i+j) t)) no/\(p x (i+j) t=true->I (i+j+1) (f x (i+j) t)))->eg step fin l i t=aa (vp p f l i t) (fin (cF f l i t)) no
 | [],i,t,_,_=>rfl
 | x::r,i,t,hI,h=>by
  simp only [eg,cF,vp]
  obtain ⟨h1,h2⟩:=h 0 x t (fun t'=>eg step fin r (i+1) t') rfl hI
  rw [Nat.add_zero] at h1 h2
  rw [h1]
  cases hp:p x i t with
  | false=>rfl
  | true =>
   rw [Q4,Zg]
   exact V9 I r (i+1) _ (h2 hp) (fun j y t k hy ht=>by
    have:=h (j+1) y t k (by simpa using hy)
    rw [show i+(j+1)=i+1+j by omega] at this
    exact this ht)
abbrev Bs:=Bool×List Int
def JI (x:Ld) (w:Int) (p:Pk) (_:Nat) (t:Bs):Bool:=kg p&&((cE x p==w) && !(t.2.any fun z=>z==p.1))
def EH (p:Pk) (_:Nat) (t:Bs):Bs:=(t.1,t.2++[p.1])
def JJ (x:Ld) (W:List Int) (row:List Pk) (i:Nat) (t:Bs):Bool := !decide (((row.length:Nat):Int) > mX x (W.getD i 0))&&vp (JI x (W.getD i 0)) EH row 0 t
def BB (row:List Pk) (_:Nat) (t:Bs):Bs:=(t.1,t.2++row.map fun p=>p.1)
theorem Qm1:∀ (row:List Pk) (i:Nat) (t:Bs),cF EH row i t=BB row 0 t
 | [],i,t=>by simp [cF,BB]
 | p::r,i,t=>by
  simp only [cF]
  rw [Qm1 r (i+1)]
  simp [BB,EH]
theorem Qva {x:Ld} {w:Int}:∀ (row:List Pk) (i:Nat) (t:Bs),vp (JI x w) EH row i t=true↔(∀ p∈row,kg p=true/\cE x p=w)/\(∀ p∈row,p.1∉t.2)/\(row.map fun p=>p.1).Nodup
 | [],i,t=>by simp [vp]
 | p::r,i,t=>by
  simp only [vp,Z8,Qva r (i+1),JI,EH,beq_iff_eq,Bool.not_eq_true',List.any_eq_false,List.mem_cons,forall_eq_or_imp,List.map_cons,List.nodup_cons,Zh,List.mem_singleton]
  constructor
  .rintro ⟨⟨a1,a2,a3⟩,b1,b2,b3⟩
   refine ⟨⟨⟨a1,a2⟩,b1⟩,⟨fun hm=>a3 _ hm rfl,fun q hq hm=>b2 q hq (Or.inl hm)⟩,fun hm=>?_,b3⟩
   obtain ⟨q,hq,e⟩:=List.mem_map.1 hm
   exact b2 q hq (Or.inr (Or.inl e))
  .rintro ⟨⟨⟨a1,a2⟩,b1⟩,⟨c1,c2⟩,n1,n2⟩
   refine ⟨⟨a1,a2,fun z hz e=>c1 (e▸hz)⟩,b1,fun q hq hm=>?_,n2⟩
   rcases hm with hm | hm | hm
   .exact c2 q hq hm
   .exact n1 (List.mem_map.2 ⟨q,hq,hm⟩)
   .simp at hm
theorem Qvb {x:Ld} {W:List Int}:∀ (rows:List (List Pk)) (i:Nat) (t:Bs),vp (JJ x W) BB rows i t=true↔(∀ j row,rows[j]? = some row->Ao x (W.getD (i+j) 0) row=true)/\(∀ p∈rows.flatten,p.1∉t.2)/\(rows.flatten.map fun p=>p.1).Nodup
 | [],i,t=>by simp [vp]
 | row::rows,i,t=>by
  simp only [vp,Z8,Qvb rows (i+1),JJ,Qva,BB,Ze,Zh,List.map_append,Zn]
  have cx:Ao x (W.getD i 0) row=true↔(!decide (((row.length:Nat):Int) > mX x (W.getD i 0)))=true/\∀ p∈row,kg p=true/\cE x p=W.getD i 0:=by
   unfold Ao
   simp only [Z8,List.all_eq_true,beq_iff_eq]
  constructor
  .rintro ⟨⟨a1,a2,a3,a4⟩,b1,b2,b3⟩
   refine ⟨fun j r hj=>?_,fun p hp hm=>?_,a4,b3,fun y hy z hz e=>?_⟩
   .cases j with
    | zero=>simp only [List.getElem?_cons_zero,Option.some.injEq] at hj;subst hj;exact cx.2 ⟨a1,a2⟩
    | succ j=>have:=b1 j r (by simpa using hj);rw [show i+(j+1)=i+1+j by omega];exact this
   .rcases hp with hp | hp
    .exact a3 p hp hm
    .exact b2 p hp (Or.inl hm)
   .obtain ⟨q,hq,rfl⟩:=List.mem_map.1 hz
    exact b2 q hq (Or.inr (e▸hy))
  .rintro ⟨h1,h2,n1,n2,n3⟩
   obtain ⟨a1,a2⟩:=cx.1 (h1 0 row rfl)
   refine ⟨⟨a1,a2,fun p hp=>h2 p (Or.inl hp),n1⟩,fun j r hj=>?_,fun p hp hm=>?_,n2⟩
   .have:=h1 (j+1) r (by simpa using hj);rw [show i+(j+1)=i+1+j by omega] at this;exact this
   .rcases hm with hm | hm
    .exact h2 p (Or.inr hp) hm
    .exact n3 _ hm _ (List.mem_map.2 ⟨p,hp,rfl⟩) rfl
theorem Qx1 {x:Ld} {rows:List (List Pk)} {W:List Int} (hl:rows.length=W.length):vp (JJ x W) BB rows 0 (false,[])=(eI (fun w i=>Ao x w (rows.getD i [])) W 0&&Mn rows.flatten):=by
 rw [Bool.eq_iff_iff,Qvb,Z8,o_,Qzw]
 constructor
 .rintro ⟨h1,_,h3⟩
  refine ⟨fun j w hw=>?_,fun p hp=>?_,h3⟩
  .have hj:=(Z0 hw).1
   have:=h1 j _ (V7 (l:=rows) (i:=j) (by omega))
   rw [Zo] at this ⊢
   rw [Zr (l:=W),hw] at this
   exact this
  .obtain ⟨row,hr,hp⟩:=List.mem_flatten.1 hp
   obtain ⟨j,hj⟩:=List.getElem?_of_mem hr
   have:=h1 j _ hj
   unfold Ao at this
   simp only [Z8,List.all_eq_true] at this
   exact (this.2 p hp).1
 .rintro ⟨h1,h2,h3⟩
  refine ⟨fun j row hj=>?_,fun p _ hm=>by simp at hm,h3⟩
  have au:=(Z0 hj).1
  have:=h1 j _ (nG (l:=W) (i:=j) (z:=0) (by omega))
  rw [Zo] at this ⊢
  rw [Zr (l:=rows),hj] at this
  exact this
theorem Qt3 {d:Nat} {l:List Int} {n:Int} (hl:l.length < 4194304):O3 (d+1) l n=some (l.any fun x=>x==n):=by
 rw [e58]
 refine (Qd (fun (t:Bool) (i:Int)=>(t,i)) l (fun x _ t k=>aa (x==n) (some true) (k t)) (fun _=>some false) ?_ ?_ (by rw [Q6];exact hl) false).trans ?_
 .intro ag t i x hx;have hi:=(Z0 hx).1;simp only [yN,bX hx,nn,Q3,hx,Q9,Q4];rw [aN (by omega)]
 .intro ag t;simp only [yN,bB,Q5];rfl
 .exact Pg l 0 false
theorem V_ {d:Nat} {r:Rg} (R:Lr r.1) {W:List Int} {w:Int} {i:Nat} (hw:W[i]? = some w) (hW:W.length<=1000) {row:List Pk} {k:Bs->Option Bool} (t:Bs) (ht:t.2.length<=10000) (hr:row.length<=60) :
  Q8 (nM (d+4) r W (i:Int) row (fun b _ l=>k (b,l))) Qc (t.1,t.2,0)=aa (vp (JI r.1 w) EH row 0 t) (k (BB row 0 t)) (some false):=by
 refine (Qd (fun (t:Bs) (i:Int)=>(t.1,t.2,i)) row (fun p _ t k=>aa (kg p) (aa (cE r.1 p==w) (Q1 (O3 (d+4) t.2 p.1) fun h=>aa h (some false) (aa (Nat.ble ((t.2.length+[p.1].length)*8) Q7) (k (t.1,t.2++[p.1])) none)) (some false)) (some false)) (fun t=>k t) ?_ ?_ (by rw [Q6];omega) t).trans ?_
 .intro V8 b' j p hp
  have hj:=(Z0 hp).1
  simp only [nM,bX hp,nn,Q3,hp,Q9,Q4,tG hw,hw]
  rw [show d+4=d+1+3 by omega,Qt0,Q9,show d+1+3=d+4 by omega,ZT R,Q9,aN (by omega)]
  cases kg p with
  | false=>rfl
  | true =>
   rw [Zl,Q5,Q4]
   by_cases e:cE r.1 p=w
   .rw [show (cE r.1 p != w)=false by rw [e];exact bne_self_eq_false _,Q5,show (cE r.1 p==w)=true from beq_iff_eq.2 e,Q4]
   .rw [show (cE r.1 p != w)=true from bne_iff_ne.2 e,Q4,show (cE r.1 p==w)=false from beq_eq_false_iff_ne.2 e,Q5]
 .intro V8 b'
  simp only [nM,bB,Q5]
 .rw [V9 (p:=JI r.1 w) (f:=EH) (fun j t=>t.2.length<=10000+j) row 0 t (by omega) ?_,Qm1]
  intro j p t k hp hI
  have hj:=(Z0 hp).1
  rw [show d+4=d+3+1 by omega,Qt3 (by omega),Q9,room (by simp;omega),Q4]
  refine ⟨?_,fun _=>by unfold EH;simp;omega⟩
  unfold JI
  cases kg p with
  | false=>rfl
  | true =>
   rw [Q4,Zg]
   cases (cE r.1 p==w) with
   | false=>rfl
   | true=>rw [Q4,Zg];cases (t.2.any fun z=>z==p.1)<;>rfl
theorem Qt4 {d:Nat} {r:Rg} (h:xg r.1):g24 (d+13) r=some (jY r):=by
 rw [e24,Qsx h,Q9]
 unfold jY PF
 cases hg:eT r.1 with
 | false=>rfl
 | true =>
  have L:=vZ hg
  have R:=Jb hg
  have iz:=L.ef
  have hf:=L.fl
  have hv:=Bm (F:=r.1.2.2.2.1)
  cases hb:Bz r.1 r.2.1 with
  | false=>rfl
  | true =>
   rw [Zg,Zg,Zg,Zl,Q5,show d+12=d+10+2 by omega,Jd (by omega) hf,Q9]
   unfold sr
   by_cases a:r.2.2.1.length=(bV r.1.2.2.2.1).length
   case neg=>rw [show ((((r.2.2.1.length:Nat):Int)) != (((bV r.1.2.2.2.1).length:Nat):Int))=true by simp;omega,Q4,Q4,Z4 a];rfl
   rw [show ((((r.2.2.1.length:Nat):Int)) != (((bV r.1.2.2.2.1).length:Nat):Int))=false by simp;omega,Q5,Z5 a,Zg,show d+10+2=d+11+1 by omega,wj,Q9,wr (by omega) (by omega)]
   by_cases a1:-1<=r.2.2.2.1/\r.2.2.2.1 < (((bV r.1.2.2.2.1).length:Nat):Int)
   case neg=>rw [Z4 (show ¬ (-1<=r.2.2.2.1/\r.2.2.2.1<=(((bV r.1.2.2.2.1).length:Nat):Int) - 1) by omega),Bool.not_false,Q4,Q4,Z4 a1];rfl
   rw [Z5 (show -1<=r.2.2.2.1/\r.2.2.2.1<=(((bV r.1.2.2.2.1).length:Nat):Int) - 1 by omega),Zl,Q5,Z5 a1,Zg,wj,Q9]
   cases decide (0<=r.2.2.2.2/\r.2.2.2.2<=1000000) with
   | false=>rfl
   | true =>
    rw [Zl,Q5,Zg,<- Qx1 a]
    have hW:∀ w∈bV r.1.2.2.2.1,vI r.1.2.1 w:=fun w hw=>by obtain ⟨q1,q2⟩:=FN hw;exact ⟨q1,by omega⟩
    refine (Qd (fun (t:Bs) (i:Int)=>(t.1,t.2,i)) r.2.2.1 (fun row i t k=>aa (decide (((row.length:Nat):Int) > mX r.1 ((bV r.1.2.2.2.1).getD i 0))) (some false) (Q8 (nM (d+11+1) r (bV r.1.2.2.2.1) (i:Int) row (fun b _ l=>k (b,l))) Qc (t.1,t.2,0))) (fun _=>some true) ?_ ?_ (by rw [Q6];omega) (false,[])).trans ?_
    .intro ag t i row hx
     have hi:=(Z0 hx).1
     have au:i < (bV r.1.2.2.2.1).length:=by omega
     have hw:=nG (l:=bV r.1.2.2.2.1) (i:=i) (z:=0) au
     have gV:=hW _ (Zc hw)
     simp only [yT,bX hx,nn,Q3,hx,Q9,Q4]
     rw [Qk au,Q4,hw,Q9,Z5 gV.1,Q4,fu gV,Q9]
     rw [show yP (d+11+1) ag (i:Int)=fun b _ l=>ag (b,l,((i+1:Nat):Int)) from by
      funext b n l
      unfold yP
      rw [aN (by omega)]]
     rfl
    .intro ag t;simp only [yT,bB,Q5];rfl
    .rw [V9 (p:=JJ r.1 (bV r.1.2.2.2.1)) (f:=BB) (fun i t=>t.2.length<=60*i) r.2.2.1 0 (false,[]) (by simp) ?_]
     .cases vp (JJ r.1 (bV r.1.2.2.2.1)) BB r.2.2.1 0 (false,[])<;>rfl
     .intro j row t k hj hI
      rw [Zo] at hI ⊢
      have hi:=(Z0 hj).1
      have hw:=nG (l:=bV r.1.2.2.2.1) (i:=j) (z:=0) (by omega)
      have gV:=hW _ (Zc hw)
      have Jf:=R.ai _ (Zc (fu gV))
      unfold JJ
      by_cases b1:((row.length:Nat):Int) > mX r.1 ((bV r.1.2.2.2.1).getD j 0)
      .rw [Z5 b1,Q4,Zl,Bool.false_and,Q5]
       exact ⟨rfl,fun h=>absurd h (by simp)⟩
      .rw [Z4 b1,Q5,Bool.not_false,Zg]
       unfold mX at b1
       rw [show d+11+1=d+8+4 by omega,V_ R hw (by omega) t (by omega) (by omega)]
       refine ⟨rfl,fun _=>?_⟩
       unfold BB
       simp only [Zf,List.length_map]
       omega
structure Ro (r:Rg):Prop where
 lk:Lk r.1
 lr:Lr r.1
 t1:r.2.1.1.length=r.1.2.1.length
 t2:r.2.1.2.length=r.1.2.1.length
 rl:r.2.2.1.length=(bV r.1.2.2.2.1).length
 rb:∀ row∈r.2.2.1,row.length<=60
 rp:∀ row∈r.2.2.1,∀ p∈row,kg p=true
 la:-1<=r.2.2.2.1/\r.2.2.2.1 < (((bV r.1.2.2.2.1).length:Nat):Int)
 nw:0<=r.2.2.2.2/\r.2.2.2.2<=1000000
theorem OR {r:Rg} (h:jY r=true):Ro r:=by
 unfold jY PF at h
 simp only [Z8,Zj] at h
 obtain ⟨h1,h2,⟨h3,h4,h5⟩,h6,h7⟩:=h
 have L:=vZ h1
 have R:=Jb h1
 obtain ⟨t1,t2⟩:=Qww h2
 have hf:=L.fl
 obtain ⟨r1,r2⟩:=Qpy R (fun w hw=>by obtain ⟨q1,q2⟩:=FN hw;exact ⟨q1,by omega⟩) h3 h6
 exact ⟨L,R,t1,t2,h3,r1,r2,h4,h5⟩
theorem O0 {r:Rg} (h:jY r=true):eT r.1=true:=by
 unfold jY at h
 simp only [Z8] at h
 exact h.1
theorem Qzx {d:Nat} {x:Ld} {id:Int} (hl:x.2.1.length<=1000):T2 (d+1) x id=some (bP x.2.1 id):=by
 rw [e99]
 refine (Qd (fun (t:Int) (i:Int)=>(t,i)) x.2.1 (fun y i t k=>aa (y.1==id) (some ((i:Nat):Int)) (k t)) (fun _=>some (-1)) ?_ ?_ (by rw [Q6];omega) 0).trans (Eu x.2.1 0 _)
 .intro ag t i x hx;have hi:=(Z0 hx).1;simp only [yV,bX hx,nn,Q3,hx,Q9,Q4];rw [aN (by omega)]
 .intro ag t;simp only [yV,bB,Q5];rfl
theorem Ss {r:Rg} (O:Ro r):r.2.2.1.length<=24:=by
 have iz:=O.lk.ef
 have hf:=O.lk.fl
 have hv:=Bm (F:=r.1.2.2.2.1)
 have kG:=O.rl
 omega
theorem Qt7 {d:Nat} {x:Ld} (hg:eT x=true):LJ (d+26) x=some (eL x):=by
 unfold eT at hg
 simp only [Z8,Zj] at hg
 obtain ⟨⟨h1,h2⟩,h3,h4⟩:=hg
 obtain ⟨c,hc,c1,c2,c3,c4⟩:=Qlx (d:=d) (x:=x) (by omega) (by omega)
 obtain ⟨u1,u2⟩:=Qzt c1 c2 c3 c4
 rw [hc,u2 h3]
theorem S6 {x:Ld} (h:eT x=true):(eL x).2.1.length<=24/\(eL x).2.2.1.length<=16:=by
 unfold eT at h
 simp only [Z8,Zj] at h
 refine ⟨?_,h.1.2⟩
 show (DR x.2.1).length<=24
 rw [Bi.length_eq];exact h.1.1
theorem Wa {α γ δ β:Type} {e:α->γ} {f:α->δ} {fin:List γ×List δ->Option β} {w v:Nat}:∀ (l:List α) (i:Nat) (t:List γ×List δ),(t.1.length+l.length)*w<=100000000->(t.2.length+l.length)*v<=100000000 ->
  eg (fun x _ t k=>aa (Nat.ble ((t.1.length+[e x].length)*w) Q7) (aa (Nat.ble ((t.2.length+[f x].length)*v) Q7) (k (t.1++[e x],t.2++[f x])) none) none) fin l i t=fin (t.1++l.map e,t.2++l.map f)
 | [],i,t,_,_=>by simp [eg]
 | x::r,i,t,h,h'=>by
  simp only [eg]
  rw [room (by
   have:(t.1.length+[e x].length)*w<=(t.1.length+(x::r).length)*w:=Zk w (by simp)
   omega),Q4,room (by
   have:(t.2.length+[f x].length)*v<=(t.2.length+(x::r).length)*v:=Zk v (by simp)
   omega),Q4]
  rw [Wa r (i+1) (t.1++[e x],t.2++[f x]) (by
   refine Nat.le_trans (Zk w ?_) h
   simp;omega) (by
   refine Nat.le_trans (Zk v ?_) h'
   simp;omega)]
  simp
def Cd (x:Ld):Tk:=(x.2.1.map fun c=>c.2.2.2.2.1,x.2.1.map fun c=>c.2.2.2.2.2.1)
theorem Qho {d:Nat} {x:Ld} (hl:x.2.1.length<=1000):Hh (d+1) x=some (Cd x):=by
 rw [U7]
 refine (Qd (fun (t:Tk) (i:Int)=>(i,t)) x.2.1 (fun c _ t k=>aa (Nat.ble ((t.1.length+[c.2.2.2.2.1].length)*8) Q7) (aa (Nat.ble ((t.2.length+[c.2.2.2.2.2.1].length)*8) Q7) (k (t.1++[c.2.2.2.2.1],t.2++[c.2.2.2.2.2.1])) none) none) (fun t=>some t) ?_ ?_ (by rw [Q6];omega) ([],[])).trans ?_
 .intro ag t i x hx;have hi:=(Z0 hx).1;simp only [qM,bX hx,nn,Q3,hx,Q9,Q4];rw [aN (by omega)]
 .intro ag t;simp only [qM,bB,Q5];rfl
 .rw [Wa (e:=fun c:aA=>c.2.2.2.2.1) (f:=fun c:aA=>c.2.2.2.2.2.1) x.2.1 0 ([],[]) (by simp;omega) (by simp;omega)]
  rfl
theorem Qt8 {d:Nat} {x:Ld} (hl:x.2.1.length<=1000):Gf (d+1) x=some (Cd x):=by
 rw [T1]
 refine (Qd (fun (t:Tk) (i:Int)=>(i,t)) x.2.1 (fun c _ t k=>aa (Nat.ble ((t.1.length+[c.2.2.2.2.1].length)*8) Q7) (aa (Nat.ble ((t.2.length+[c.2.2.2.2.2.1].length)*8) Q7) (k (t.1++[c.2.2.2.2.1],t.2++[c.2.2.2.2.2.1])) none) none) (fun t=>some t) ?_ ?_ (by rw [Q6];omega) ([],[])).trans ?_
 .intro ag t i x hx;have hi:=(Z0 hx).1;simp only [pT,bX hx,nn,Q3,hx,Q9,Q4];rw [aN (by omega)]
 .intro ag t;simp only [pT,bB,Q5];rfl
 .rw [Wa (e:=fun c:aA=>c.2.2.2.2.1) (f:=fun c:aA=>c.2.2.2.2.2.1) x.2.1 0 ([],[]) (by simp;omega) (by simp;omega)]
  rfl
theorem Qvc {x:Ld} (h:eT x=true):bU (eL x)=x:=by
 unfold eT DS at h
 simp only [Z8,Zj,beq_iff_eq] at h
 obtain ⟨_,_,s1,s2,s3,s4,s5,s6,s7⟩:=h
 exact Prod.ext rfl (Prod.ext s1.symm (Prod.ext s2.symm (Prod.ext s3.symm (Prod.ext s4.symm (Prod.ext s5.symm (Prod.ext rfl (Prod.ext s6.symm s7.symm)))))))
theorem ON {x:Ld} (h:eT x=true):eS (eL x)=true:=by
 unfold eT at h
 simp only [Z8] at h
 exact h.2.1
theorem Qta {c:Cf} (G:Gd c):(bU c).2.2.2.2.1.length<=24/\(bU c).2.2.2.2.2.1.length<=24/\(bU c).2.2.2.2.2.2.2.1.length<=16:=by
 have h1:=Hu G.tr
 have h2:=G.tr.ef
 have h3:=G.f16
 refine ⟨?_,?_,?_⟩
 .show ((aG c.2.1).map (fun i=>pW c.2.1 (vl c.2.1 i))).length<=24
  rw [List.length_map];omega
 .show ((aG c.2.1).mapIdx (nX c.2.1)).length<=24
  rw [List.length_mapIdx];omega
 .show (c.2.2.1.map (fun f=>pW c.2.1 (bP c.2.1 f.2.2.2.2))).length<=16
  rw [List.length_map];omega
theorem Qx2 {x:Ld} (h:eT x=true):x.2.2.2.2.1.length<=24/\x.2.2.2.2.2.1.length<=24/\x.2.2.2.2.2.2.2.1.length<=16:=by
 have:=Qta (oG (ON h))
 rw [Qvc h] at this;exact this
theorem Qq1 {α γ:Type} {c:α->Nat->Bool} {e:α->Nat->γ}:∀ (l:List α) (i j:Nat) (x:α),l[j]? = some x->c x (i+j)=true->e x (i+j)∈fR c e l i
 | [],i,j,x,h,_=>by simp at h
 | y::r,i,0,x,h,hc=>by
  simp only [List.getElem?_cons_zero,Option.some.injEq] at h
  subst h
  rw [Nat.add_zero] at hc ⊢
  unfold fR;rw [if_pos hc];simp
 | y::r,i,j+1,x,h,hc=>by
  have:=Qq1 (c:=c) (e:=e) r (i+1) j x (by simpa using h) (by rw [show i+1+j=i+(j+1) by omega];exact hc)
  rw [show i+1+j=i+(j+1) by omega] at this
  unfold fR
  split
  .exact List.mem_cons_of_mem _ this
  .exact this
theorem Qq2 {c:Cf} (G:Gd c) {id:Int} (hv:vI c.2.1 (bP c.2.1 id)) (hl:gP c.2.1 id=true):pW c.2.1 (bP c.2.1 id)∈bV (bU c).2.2.2.1:=by
 have T:=G.tr
 obtain ⟨k,h1,h2⟩:=Cb T hv
 obtain ⟨_,x,e1,e2,e3⟩:=w6 hv.1
 have hid:(aV c.2.1 (bP c.2.1 id)).1=id:=by rw [e1,jL e2,e3]
 have hk:cj c.2.1 (bP c.2.1 id)=[]:=by
  unfold cj nT
  rw [hid]
  have:=LY (c:=fun x:aA=>x.2.1==id) (e:=fun _ k=>((k:Nat):Int)) c.2.1 0
  unfold gP at hl
  rw [hl] at this
  exact Z1 (by simpa using this)
 have hF:(bU c).2.2.2.1[k]? = some (-1):=by
  show ((aG c.2.1).map (fun i=>pW c.2.1 (wq c.2.1 i)))[k]? = some (-1)
  rw [List.getElem?_map,h1]
  show some (pW c.2.1 ((cj c.2.1 (bP c.2.1 id)).headD (-1)))=some (-1)
  rw [hk]
  exact congrArg some (vk T (by simp))
 rw [h2]
 have:=Qq1 (c:=fun (f:Int) _=>decide (f < 0)) (e:=fun _ k=>((k:Nat):Int)) (bU c).2.2.2.1 0 k (-1) hF (by simp)
 rw [Zo] at this
 exact this
theorem Wb {c:Cf} (G:Gd c) (p:Pk):cE (bU c) p < 0\/cE (bU c) p∈bV (bU c).2.2.2.1:=by
 unfold cE
 split
 .rename_i h
  have au:=V6 h
  right
  have hm:(bU c).2.2.2.2.2.2.2.1.getD (vo (bU c).2.2.2.2.2.2.1 p).toNat 0∈(bU c).2.2.2.2.2.2.2.1:=by
   refine Zc (i:=(vo (bU c).2.2.2.2.2.2.1 p).toNat) (nG ?_)
   show _ < (c.2.2.1.map _).length
   rw [List.length_map]
   have:vo (bU c).2.2.2.2.2.2.1 p < ((c.2.2.1.length:Nat):Int):=au
   omega
  generalize (bU c).2.2.2.2.2.2.2.1.getD (vo (bU c).2.2.2.2.2.2.1 p).toNat 0=w at hm
  obtain ⟨f,hf,rfl⟩:=List.mem_map.1 (show w∈c.2.2.1.map (fun f=>pW c.2.1 (bP c.2.1 f.2.2.2.2)) from hm)
  obtain ⟨t1,t2,_⟩:=G.L9 f hf
  exact Qq2 G t1 t2
 .show vX c < 0\/vX c∈_
  unfold vX
  split
  .left;omega
  .rename_i h
   obtain ⟨t1,t2⟩:=G.K4 h
   exact Or.inr (Qq2 G t1 t2)
structure Pu (x:Ld) (rows:List (List Pk)):Prop where
 lk:Lk x
 lr:Lr x
 lf:∀ p,cE x p < 0\/cE x p∈bV x.2.2.2.1
 rl:rows.length=(bV x.2.2.2.1).length
 lm:∀ (k:Nat) w,(bV x.2.2.2.1)[k]? = some w->(((rows.getD k []).length:Nat):Int)<=mX x w
def mK (x:Ld) (p:Pk):Nat:=(wo (bV x.2.2.2.1) (cE x p)).toNat
def rR (x:Ld) (rows:List (List Pk)) (p:Pk):List Pk:=rows.getD (mK x p) []
def Ja (x:Ld) (rows:List (List Pk)) (p:Pk):List (List Pk):=rows.set (mK x p) (rR x rows p++[p])
def DU {τ:Type} (x:Ld) (rows:List (List Pk)) (p:Pk) (A:τ) (B C:aA->τ):τ:=if cE x p < 0 then A else if (((rR x rows p).length:Nat):Int)=mX x (cE x p) then B (aV x.2.1 (cE x p)) else C (aV x.2.1 (cE x p))
theorem Qm3 {e:Nat->Int} (he:∀ k,e k=(k:Int)) {c:Int->Nat->Bool}:∀ (l:List Int) (i:Nat),(fR c (fun _ k=>e k) l i).Pairwise (· < ·)/\∀ x∈fR c (fun _ k=>e k) l i,((i:Nat):Int)<=x
 | [],i=>⟨List.Pairwise.nil,fun x h=>by simp [fR] at h⟩
 | y::r,i=>by
  obtain ⟨h1,h2⟩:=Qm3 he (c:=c) r (i+1)
  unfold fR
  split
  .refine ⟨List.Pairwise.cons (fun x hx=>?_) h1,fun x hx=>?_⟩
   .have:=h2 x hx;rw [he];omega
   .rcases Z2 hx with rfl | hx
    .rw [he];omega
    .have:=h2 x hx;omega
  .exact ⟨h1,fun x hx=>by have:=h2 x hx;omega⟩
theorem SD {F:List Int}:(bV F).Nodup:=by
 have:=(Qm3 (e:=fun k=>((k:Nat):Int)) (fun _=>rfl) (c:=fun f _=>decide (f < 0)) F 0).1
 exact this.imp fun h=>by omega
structure At (x:Ld) (rows:List (List Pk)) (p:Pk):Prop where
 get:(bV x.2.2.2.1)[mK x p]? = some (cE x p)
 pos:wo (bV x.2.2.2.1) (cE x p)=((mK x p:Nat):Int)
 lt:mK x p < rows.length
 v:vI x.2.1 (cE x p)
 row:rows[mK x p]? = some (rR x rows p)
 ai:(((rR x rows p).length:Nat):Int)<=mX x (cE x p)
 l60:(rR x rows p).length<=60
theorem Sk {x:Ld} {rows:List (List Pk)} {p:Pk} (P:Pu x rows) (h:¬ cE x p < 0):At x rows p:=by
 have hm:=(P.lf p).resolve_left h
 obtain ⟨k,h1,h2⟩:=Qpe SD hm
 have hk:mK x p=k:=by unfold mK;rw [h2];rfl
 have au:=(Z0 h1).1
 have kG:=P.rl
 have hf:=P.lk.fl
 obtain ⟨v1,v2⟩:=FN hm
 have hv:vI x.2.1 (cE x p):=⟨v1,by omega⟩
 have aI:=P.lm k _ h1
 have Jf:=P.lr.ai _ (Zc (fu hv))
 have cx:rR x rows p=rows.getD k []:=by unfold rR;rw [hk]
 refine ⟨by rw [hk];exact h1,by rw [hk];exact h2,by omega,hv,by rw [hk,cx];exact V7 (by omega),by rw [cx];exact aI,?_⟩
 rw [cx]
 unfold mX at aI
 omega
theorem Sr {β:Type} {d:Nat} {x:Ld} {rows:List (List Pk)} {p:Pk} (P:Pu x rows) {A:Option β} {B:aA->Option β} {C:aA->List (List Pk)->Option β} :
  aa (decide (cE x p < 0)) A (aa (decide (0<=cE x p)) (aa (Nat.blt (cE x p).toNat x.2.1.length) (Q1 (x.2.1[(cE x p).toNat]?) fun y=>Q1 (nR (d+1) x) fun ls=>Q1 (zd (d+1) ls (cE x p)) fun k=>aa (decide (0<=k)) (aa (Nat.blt k.toNat rows.length) (Q1 (rows[k.toNat]?) fun row=>aa (((row.length:Nat):Int)==y.2.2.2.2.2.2.2) (B y) (aa (decide (0<=k)) (aa (Nat.blt k.toNat rows.length) (Q1 (rows[k.toNat]?) fun Ap=>aa (Nat.ble ((Ap.length+[p].length)*48) Q7) (aa (decide (0<=k)) (aa (Nat.blt k.toNat rows.length) (aa (Nat.beq k.toNat k.toNat) (Q1 (rows[k.toNat]?) fun _=>C y (rows.set k.toNat (Ap++[p]))) none) none) none) none) none) none)) none) none) none) none)
  = DU x rows p A B (fun y=>C y (Ja x rows p)):=by
 unfold DU
 by_cases h:cE x p < 0
 .rw [Z5 h,Q4,if_pos h]
 .have a:=Sk P h
  have iz:=P.lk.ef
  have hv:=Bm (F:=x.2.2.2.1)
  have hf:=P.lk.fl
  have Jf:=a.l60
  rw [Z4 h,Q5,if_neg h,Z5 a.v.1,Q4,Qk (by have:=a.v;unfold vI at this;omega),Q4,fu a.v,Q9,K7 (by omega) hf,Q9,Qp5 (by omega),Q9]
  have hp:fy (fun y=>y==cE x p) (bV x.2.2.2.1) 0=((mK x p:Nat):Int):=a.pos
  rw [hp]
  simp only [nn,Q3,Q4,Qk a.lt,a.row,Q9]
  rw [room (by simp;omega),Q4,show Nat.beq (mK x p) (mK x p)=true by rw [Nat.beq_eq],Q4]
  by_cases e:(((rR x rows p).length:Nat):Int)=mX x (cE x p)
  .rw [if_pos e,show ((((rR x rows p).length:Nat):Int)==(aV x.2.1 (cE x p)).2.2.2.2.2.2.2)=true from beq_iff_eq.2 e,Q4]
  .rw [if_neg e,show ((((rR x rows p).length:Nat):Int)==(aV x.2.1 (cE x p)).2.2.2.2.2.2.2)=false from beq_eq_false_iff_ne.2 e,Q5]
   rfl
theorem Qzy {β:Type} {d:Nat} {x:Ld} {rows:List (List Pk)} {p:Pk} {F:(Int->Option β)->Int->Option β} {K:Int->Option β} (a:At x rows p) (h1:x.2.1.length<=1000) (hf:x.2.2.2.1.length=x.2.1.length)
  (hF:∀ ag k,F ag k=Q1 (Ep (d+2) x) fun ls=>aa (decide (0<=k)) (aa (Nat.blt k.toNat ls.length) (Q1 (ls[k.toNat]?) fun w=>aa (w != cE x p) (ag (IntKind.i64.wrap (k+1))) (K k)) none) none):Q8 F Qc 0=K ((mK x p:Nat):Int):=by
 have hv:=Bm (F:=x.2.2.2.1)
 have au:=(Z0 a.get).1
 have key:∀ (m k fuel:Nat),k+m=mK x p->m < fuel->Q8 F fuel ((k:Nat):Int)=K ((mK x p:Nat):Int):=by
  intro m
  induction m with
  | zero =>
   intro k fuel e h
   obtain ⟨g,rfl⟩:∃ g,fuel=g+1:=⟨fuel - 1,by omega⟩
   obtain rfl:k=mK x p:=by omega
   simp only [Q8]
   rw [hF,Jd h1 hf,Q9,nn,Q4,Q3,Qk au,Q4,a.get,Q9,bne_self_eq_false,Q5]
  | succ m ih =>
   intro k fuel e h
   obtain ⟨g,rfl⟩:∃ g,fuel=g+1:=⟨fuel - 1,by omega⟩
   have hk:k < (bV x.2.2.2.1).length:=by omega
   have hx:=Z6 hk
   have aU:(bV x.2.2.2.1)[k]≠cE x p:=fun e'=>by
    have:=sI SD hx
    rw [e',a.pos] at this
    omega
   simp only [Q8]
   rw [hF,Jd h1 hf,Q9,nn,Q4,Q3,Qk hk,Q4,hx,Q9,bne_iff_ne.2 aU,Q4,aN (by omega)]
   exact ih (k+1) g (by omega) (by omega)
 exact key (mK x p) 0 Qc (by omega) (by rw [Q6];omega)
def SB {β:Type} (rows:List (List Pk)) (p:Pk) (B:aA->Option β) (C:aA->List (List Pk)->Option β) (y:aA) (k:Int):Option β:=aa (decide (0<=k)) (aa (Nat.blt k.toNat rows.length) (Q1 (rows[k.toNat]?) fun row=>aa (decide (((row.length:Nat):Int)>=y.2.2.2.2.2.2.2)) (B y) (aa (decide (0<=k)) (aa (Nat.blt k.toNat rows.length) (Q1 (rows[k.toNat]?) fun Ap=>aa (Nat.ble ((Ap.length+[p].length)*48) Q7) (aa (decide (0<=k)) (aa (Nat.blt k.toNat rows.length) (aa (Nat.beq k.toNat k.toNat) (Q1 (rows[k.toNat]?) fun _=>C y (rows.set k.toNat (Ap++[p]))) none) none) none) none) none) none)) none) none
theorem SA {β:Type} {x:Ld} {rows:List (List Pk)} {p:Pk} (P:Pu x rows) {A:Option β} {B:aA->Option β} {C:aA->List (List Pk)->Option β} {I:aA->Option β}
  (hI:At x rows p->∀ y,I y=SB rows p B C y ((mK x p:Nat):Int)) :
  aa (decide (cE x p < 0)) A (aa (decide (0<=cE x p)) (aa (Nat.blt (cE x p).toNat x.2.1.length) (Q1 (x.2.1[(cE x p).toNat]?) I) none) none)=DU x rows p A B (fun y=>C y (Ja x rows p)):=by
 unfold DU
 by_cases h:cE x p < 0
 .rw [Z5 h,Q4,if_pos h]
 .have a:=Sk P h
  have Jf:=a.l60
  have aI:=a.ai
  rw [Z4 h,Q5,if_neg h,Z5 a.v.1,Q4,Qk (by have:=a.v;unfold vI at this;omega),Q4,fu a.v,Q9,hI a]
  unfold SB
  simp only [nn,Q3,Q4,Qk a.lt,a.row,Q9]
  rw [room (by simp;omega),Q4,show Nat.beq (mK x p) (mK x p)=true by rw [Nat.beq_eq],Q4]
  by_cases e:(((rR x rows p).length:Nat):Int)=mX x (cE x p)
  .rw [if_pos e,Z5 (show (((rR x rows p).length:Nat):Int)>=(aV x.2.1 (cE x p)).2.2.2.2.2.2.2 by unfold mX at e;omega),Q4]
  .rw [if_neg e,Z4 (show ¬ (((rR x rows p).length:Nat):Int)>=(aV x.2.1 (cE x p)).2.2.2.2.2.2.2 by unfold mX at e aI;omega),Q5]
   rfl
theorem Sn {x:Ld} (h:eT x=true) (p:Pk):cE x p < 0\/cE x p∈bV x.2.2.2.1:=by
 have:=Wb (oG (ON h)) p
 rw [Qvc h] at this;exact this
def mP (k:Nat):Pk:=((k:Int),((k+1:Nat):Int),((k+1+1:Nat):Int),((k+1+1+1:Nat):Int),((k+1+1+1+1:Nat):Int),((k+1+1+1+1+1:Nat):Int))
def ni:Nat->Nat->List Pk
 | _,0=>[]
 | k,n+1=>mP k::ni (k+1+1+1+1+1+1) n
def wz:Nat->List (List Pk)->List (List Pk)
 | _,[]=>[]
 | k,q::r=>ni k q.length::wz (k+6*q.length) r
theorem Qvd {d:Nat}:∀ (r:List Pk) {p:List Pk} {k fuel:Nat},r.length < fuel->p.length+r.length<=2000000->k+6*r.length<=1000000000 ->
  Q8 (sG d (Ad d)) fuel ((k:Int),((p.length:Nat):Int),p++r)=some (((k+6*r.length:Nat):Int),p++ni k r.length)
 | _,p,k,0,h,_,_=>by omega
 | [],p,k,fuel+1,h,h2,h3=>by
  simp only [Q8,sG]
  rw [List.append_nil,bB,Q5]
  unfold Ad
  simp [ni]
 | x::r,p,k,fuel+1,h,h2,h3=>by
  simp only [Z9] at h h2 h3
  have au:p.length < (p++x::r).length:=by simp
  have hg:(p++x::r)[p.length]? = some x:=by simp
  simp only [Q8,sG,Q3,nn,Q4]
  rw [Z5 (show ((p.length:Nat):Int) < (((p++x::r).length:Nat):Int) by omega),Q4,Qk au,Q4,hg,Q9]
  simp only [List.length_set,List.set_set,List.getElem?_set_self au,Q9,Qk au,Q4]
  rw [FL,aN (by omega),aN (by omega),aN (by omega),aN (by omega),aN (by omega),aN (by omega),aN (by omega)]
  have:=Qvd (d:=d) r (p:=p++[mP k]) (k:=k+1+1+1+1+1+1) (fuel:=fuel) (by omega) (by simp;omega) (by omega)
  rw [Zf,show (p++[mP k])++r=p++mP k::r by simp] at this
  simp only [Z9,Zb,ni]
  rw [show k+6*(r.length+1)=k+1+1+1+1+1+1+6*r.length by omega,show p++mP k::ni (k+1+1+1+1+1+1) r.length=(p++[mP k])++ni (k+1+1+1+1+1+1) r.length by simp]
  exact this
theorem Qve {d:Nat} {l:List Pk}:∀ (n:Nat) {p:List Pk} {k fuel:Nat},l=p++ni k n->n < fuel->p.length+n<=2000000->k+6*n<=1000000000 ->
  Q8 (r_ d l (x_ d)) fuel ((k:Int),0,((p.length:Nat):Int))=some ((k+6*n:Nat):Int)
 | n,p,k,0,_,h,_,_=>by omega
 | 0,p,k,fuel+1,e,h,h2,h3=>by
  simp only [ni,List.append_nil] at e
  subst e
  simp only [Q8,r_]
  rw [bB,Q5]
  unfold x_
  simp
 | n+1,p,k,fuel+1,e,h,h2,h3=>by
  have hg:l[p.length]? = some (mP k):=by rw [e];simp [ni]
  have au:=(Z0 hg).1
  simp only [Q8,r_,Q3,nn,Q4]
  rw [Z5 (show ((p.length:Nat):Int) < ((l.length:Nat):Int) by omega),Q4,hg]
  simp only [Q9]
  rw [aN (by omega),aN (by omega),aN (by omega),aN (by omega),aN (by omega),aN (by omega),aN (by omega)]
  unfold mP
  simp only [bne_self_eq_false,Q5]
  have:=Qve (d:=d) (l:=l) n (p:=p++[mP k]) (k:=k+1+1+1+1+1+1) (fuel:=fuel) (by rw [e];simp [ni]) (by omega) (by simp;omega) (by omega)
  rw [Zf] at this
  simp only [Z9,Zb] at this
  rw [show k+6*(n+1)=k+1+1+1+1+1+1+6*n by omega]
  exact this
theorem Qhp {d:Nat} {β:Type} {F:((Int×Int×List (List Pk))->Option β)->(Int×Int×List (List Pk))->Option β} {kx:Int->List (List Pk)->Option β}
  (hF:∀ ag n i rs,F ag (n,i,rs)=aa (decide (i < ((rs.length:Nat):Int))) (aa (decide (0<=i)) (aa (Nat.blt i.toNat rs.length) (Q1 (rs[i.toNat]?) fun a=>Q1 (rs[i.toNat]?) fun b=>aa (Nat.beq b.length a.length) (Q1 (LV (d+1) a n) fun z=>ag (z.1,IntKind.i64.wrap (i+1),rs.set i.toNat z.2)) none) none) none) (kx n rs)) :
  ∀ (r:List (List Pk)) {p:List (List Pk)} {k fuel:Nat},r.length < fuel->p.length+r.length<=2000000->(∀ q∈r,q.length<=1048576)->k+6*r.flatten.length<=100000000 ->
  Q8 F fuel ((k:Int),((p.length:Nat):Int),p++r)=kx ((k+6*r.flatten.length:Nat):Int) (p++wz k r)
 | _,p,k,0,h,_,_,_=>by omega
 | [],p,k,fuel+1,h,h2,_,h3=>by
  simp only [Q8]
  rw [hF,List.append_nil,bB,Q5]
  simp [wz]
 | q::r,p,k,fuel+1,h,h2,hq,h3=>by
  simp only [Z9,Ze,Zf] at h h2 h3
  have au:p.length < (p++q::r).length:=by simp
  have hg:(p++q::r)[p.length]? = some q:=by simp
  simp only [Q8]
  rw [hF,Z5 (show ((p.length:Nat):Int) < (((p++q::r).length:Nat):Int) by omega),Q4,nn,Q4,Q3,Qk au,Q4,hg,Q9,Q9,show Nat.beq q.length q.length=true by rw [Nat.beq_eq],Q4,e83]
  have h1:=Qvd (d:=d) q (p:=[]) (k:=k) (fuel:=Qc) (by have:=hq q (by simp);rw [Q6];omega) (by have:=hq q (by simp);simp;omega) (by omega)
  rw [List.nil_append,List.nil_append] at h1
  rw [show ((([]:List Pk).length:Nat):Int)=0 from rfl] at h1
  rw [h1,Q9]
  simp only []
  rw [FL,aN (by omega)]
  have:=Qhp hF r (p:=p++[ni k q.length]) (k:=k+6*q.length) (fuel:=fuel) (by omega) (by simp;omega) (fun x hx=>hq x (by simp [hx])) (by omega)
  rw [Zf,show (p++[ni k q.length])++r=p++ni k q.length::r by simp] at this
  simp only [Z9,Zb,wz,Ze,Zf]
  rw [show k+6*(q.length+r.flatten.length)=k+6*q.length+6*r.flatten.length by omega,show p++ni k q.length::wz (k+6*q.length) r=(p++[ni k q.length])++wz (k+6*q.length) r by simp]
  exact this
theorem Qdj {d k:Nat} {β:Type} {F:((Int×Int×List (List Pk))->Option β)->(Int×Int×List (List Pk))->Option β} {kx:Int->List (List Pk)->Option β} {rows:List (List Pk)}
  (hF:∀ ag n i rs,F ag (n,i,rs)=aa (decide (i < ((rs.length:Nat):Int))) (aa (decide (0<=i)) (aa (Nat.blt i.toNat rs.length) (Q1 (rs[i.toNat]?) fun a=>Q1 (rs[i.toNat]?) fun b=>aa (Nat.beq b.length a.length) (Q1 (LV (d+1) a n) fun z=>ag (z.1,IntKind.i64.wrap (i+1),rs.set i.toNat z.2)) none) none) none) (kx n rs))
  (h:Mo rows) (hf:rows.flatten.length<=1048576) (hk:k<=50000000):Q8 F Qc ((k:Int),0,rows)=kx ((k+6*rows.flatten.length:Nat):Int) (wz k rows) :=
 Qhp hF rows (p:=[]) (by have:=h.1;rw [Q6];omega) (by have:=h.1;simp;omega) h.2 (by omega)
theorem Qhq {d:Nat} {l:List (List Pk)}:∀ (r:List (List Pk)) {p:List (List Pk)} {k fuel:Nat},l=p++wz k r->r.length < fuel->p.length+r.length<=2000000->(∀ q∈r,q.length<=1048576)->k+6*r.flatten.length<=100000000 ->
  Q8 (sg (d+1) l (yb (d+1))) fuel ((k:Int),0,((p.length:Nat):Int))=some ((k+6*r.flatten.length:Nat):Int)
 | _,p,k,0,_,h,_,_,_=>by omega
 | [],p,k,fuel+1,e,h,h2,_,h3=>by
  simp only [wz,List.append_nil] at e
  subst e
  simp only [Q8,sg]
  rw [bB,Q5]
  unfold yb
  simp
 | q::r,p,k,fuel+1,e,h,h2,hq,h3=>by
  simp only [Z9,Ze,Zf] at h h2 h3
  have hg:l[p.length]? = some (ni k q.length):=by rw [e];simp [wz]
  have au:=(Z0 hg).1
  simp only [Q8,sg,Q3,nn,Q4]
  rw [Z5 (show ((p.length:Nat):Int) < ((l.length:Nat):Int) by omega),Q4,hg,Q9,e86]
  have h1:=Qve (d:=d) q.length (p:=[]) (k:=k) (fuel:=Qc) rfl (by have:=hq q (by simp);rw [Q6];omega) (by have:=hq q (by simp);simp;omega) (by omega)
  rw [show ((([]:List Pk).length:Nat):Int)=0 from rfl,List.nil_append] at h1
  rw [h1,Q9,Z4 (by omega),Q5,aN (by omega)]
  have:=Qhq (d:=d) (l:=l) r (p:=p++[ni k q.length]) (k:=k+6*q.length) (fuel:=fuel) (by rw [e];simp [wz]) (by omega) (by simp;omega) (fun x hx=>hq x (by simp [hx])) (by omega)
  rw [Zf] at this
  simp only [Z9,Zb,Ze,Zf] at this ⊢
  rw [show k+6*(q.length+r.flatten.length)=k+6*q.length+6*r.flatten.length by omega]
  exact this
def xj (r:Rg):Prop:=By r.1/\(r.2.1.1.length<=1048576/\r.2.1.2.length<=1048576)/\r.2.2.1.length<=1000/\∀ q∈r.2.2.1,q.length<=1000
theorem xj.l {r:Rg} (h:xj r):Mp r/\r.2.2.1.flatten.length<=1000000:=by
 obtain ⟨h1,⟨h2,h3⟩,h4,h5⟩:=h
 have:=PG h5
 exact ⟨⟨h1,h2,h3,by omega,fun q hq=>by have:=h5 q hq;omega⟩,by omega⟩
def Lf (r:Rg):Rg:=(V3 1 r.1,nh (Ck 1 r.1) r.2.1,wz (Jg (Ck 1 r.1) r.2.1) r.2.2.1,r.2.2.2)
def xk (r:Rg):Nat:=Jg (Ck 1 r.1) r.2.1+6*r.2.2.1.flatten.length
theorem Qq3 {d:Nat} {r:Rg} (h:xj r):g14 (d+3) (Lf r) ((1:Nat):Int)=some ((xk r:Nat):Int):=by
 obtain ⟨h1,⟨h2,h3⟩,h4,h5⟩:=h
 have hf:=PG h5
 have hL:=OV (k:=1) h1
 rw [e14]
 unfold Lf
 simp only []
 rw [Qhi h1 (by omega),Q9,Z4 (by omega),Q5,Qhj h2 h3 (by omega),Q9,Z4 (by omega),Q5,e42]
 have:=Qhq (d:=d) r.2.2.1 (p:=[]) (k:=Jg (Ck 1 r.1) r.2.1) (fuel:=Qc) rfl (by rw [Q6];omega) (by simp;omega) (fun q hq=>by have:=h5 q hq;omega) (by unfold Jg;omega)
 rw [show ((([]:List (List Pk)).length:Nat):Int)=0 from rfl,List.nil_append] at this
 rw [this,Q9,Z4 (by omega),Q5]
 rfl
end Go.Proofs.YtcoimfbmgjhcjabGreatDoor
