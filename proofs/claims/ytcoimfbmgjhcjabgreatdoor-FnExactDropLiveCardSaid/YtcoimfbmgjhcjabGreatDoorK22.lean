/-
  Configurations by value. And what stood behind it in 6 texts.
  Conditions: said at the theorems.
-/
import Derived.Test.YtcoimfbmgjhcjabGreatDoorK15
set_option linter.all false
namespace Go.Proofs.YtcoimfbmgjhcjabGreatDoor
open Go.Ev Go.Pv
instance aae:DecidableEq (Int×Int×Int×Int):=inferInstance
theorem Qv4 {p:aA->Bool}:∀ {l:List aA},(∀ y∈l,p y=true)->l.takeWhile p=l
 | [],_=>rfl
 | z::l,h=>by rw [List.takeWhile_cons,if_pos (h z (by simp)),Qv4 (fun y hy=>h y (by simp [hy]))]
def sO (l:List aA) (x:aA):List aA:=(l.takeWhile fun y=>decide (y.1 < x.1))++x::l.dropWhile fun y=>decide (y.1 < x.1)
def DO (l:List aA):List aA:=cH (fun x _ t=>sO t x) l 0 []
theorem Qhi {l:List aA} {x:aA}:(sO l x).Perm (x::l):=by
 unfold sO
 refine List.perm_middle.trans (List.Perm.cons x ?_)
 rw [List.takeWhile_append_dropWhile]
theorem Qt0 {l:List aA} {x:aA}:(sO l x).length=l.length+1:=by rw [Qhi.length_eq];rfl
theorem Qa0 {x:aA}:∀ {l:List aA},dw cu l->∀ y∈l.dropWhile (fun y=>decide (y.1 < x.1)),x.1<=y.1
 | [],_,y,hy=>by simp at hy
 | z::l,h,y,hy=>by
  rw [List.dropWhile_cons] at hy
  have h':=List.pairwise_cons.1 h
  by_cases hz:z.1 < x.1
  .rw [if_pos (by simpa using hz)] at hy
   exact Qa0 h'.2 y hy
  .rw [if_neg (by simpa using hz)] at hy
   rcases Z2 hy with rfl | hy
   .omega
   .have:=h'.1 y hy;unfold cu at this;omega
theorem Qa1 {x:aA}:∀ {l:List aA},∀ y∈l.takeWhile (fun y=>decide (y.1 < x.1)),y.1 < x.1
 | [],y,hy=>by simp at hy
 | z::l,y,hy=>by
  rw [List.takeWhile_cons] at hy
  by_cases hz:z.1 < x.1
  .rw [if_pos (by simpa using hz)] at hy
   rcases Z2 hy with rfl | hy
   .exact hz
   .exact Qa1 y hy
  .rw [if_neg (by simpa using hz)] at hy;simp at hy
theorem Qt1 {l:List aA} {x:aA} (h:dw cu l):dw cu (sO l x):=by
 have hl:dw cu (l.takeWhile (fun y=>decide (y.1 < x.1))++l.dropWhile (fun y=>decide (y.1 < x.1))):=by rw [List.takeWhile_append_dropWhile];exact h
 unfold sO dw
 unfold dw at hl
 rw [List.pairwise_append] at hl ⊢
 refine ⟨hl.1,List.pairwise_cons.2 ⟨fun y hy=>Qa0 h y hy,hl.2.1⟩,fun a ha b hb=>?_⟩
 rcases Z2 hb with rfl | hb
 .have:=Qa1 a ha;unfold cu;omega
 .exact hl.2.2 a ha b hb
theorem VT:∀ (l:List aA) (i:Nat) (t:List aA),dw cu t->dw cu (cH (fun x _ t=>sO t x) l i t)/\(cH (fun x _ t=>sO t x) l i t).Perm (l++t)
 | [],i,t,h=>⟨h,List.Perm.refl _⟩
 | x::r,i,t,h=>by
  simp only [cH]
  obtain ⟨h1,h2⟩:=VT r (i+1) (sO t x) (Qt1 h)
  refine ⟨h1,h2.trans ?_⟩
  exact (List.Perm.append_left r Qhi).trans List.perm_middle
theorem ZL {l:List aA}:dw cu (DO l):=(VT l 0 [] List.Pairwise.nil).1
theorem Bb {l:List aA}:(DO l).Perm l:=by
 have:=(VT l 0 [] List.Pairwise.nil).2
 rw [List.append_nil] at this;exact this
theorem OT {l:List aA} (h:rU l=true):(l.map (·.1)).Nodup:=by
 rw [List.nodup_iff_pairwise_ne,List.pairwise_map,List.pairwise_iff_getElem]
 intro i j hi hj mY e
 have:=K4 h j i _ _ mY (Z6 hi) (Z6 hj)
 omega
theorem ZM {l:List aA} (h:(l.map (·.1)).Nodup) {a b:aA} (ha:a∈l) (hb:b∈l) (e:a.1=b.1):a=b:=by
 obtain ⟨i,hi⟩:=List.getElem?_of_mem ha
 obtain ⟨j,hj⟩:=List.getElem?_of_mem hb
 obtain ⟨hi1,hi2⟩:=Z0 hi
 obtain ⟨Vp,vf⟩:=Z0 hj
 have:=(List.getElem_inj (h₀:=show i < (l.map (·.1)).length by simpa using hi1) (h₁:=show j < (l.map (·.1)).length by simpa using Vp) h).1 (by simp [hi2,vf,e])
 subst this
 rw [<- hi2,<- vf]
theorem Qzt {l S:List aA} (h:cY cu l S) (hd:(l.map (·.1)).Nodup):S=DO l:=by
 refine List.Perm.eq_of_pairwise (le:=fun a b=>cu a<=cu b) (fun a b ha hb h1 h2=>?_) h.wj ZL (h.perm.trans Bb.symm)
 unfold cu at h1 h2
 exact ZM hd (h.perm.mem_iff.1 ha) (Bb.mem_iff.1 hb) (by omega)
theorem Si {c:Cf} {l:List aA} (h:fA c=true) (hp:c.2.1.Perm l):(l.map (·.1)).Nodup:=by
 have hc:=(rV h).cl
 unfold k_ at hc
 simp only [Z8] at hc
 exact (hp.map _).nodup_iff.1 (OT hc.2.1)
def B3 (x:Ld):Int:=if 0<=x.2.2.2.2.2.2.2.2/\x.2.2.2.2.2.2.2.2 < ((x.2.1.length:Nat):Int) then (aU x.2.1 x.2.2.2.2.2.2.2.2).1 else 0
def eR (x:Ld):Cf:=(x.1,DO x.2.1,x.2.2.2.2.2.2.1,B3 x)
theorem Qzu {x:Ld} {c:Cf} (h1:c.1=x.1) (h2:cY cu x.2.1 c.2.1) (h3:c.2.2.1=x.2.2.2.2.2.2.1) (h4:c.2.2.2=B3 x):fA c=fA (eR x)/\(fA (eR x)=true->c=eR x):=by
 obtain ⟨c1,c2,c3,c4⟩:=c
 simp only at h1 h2 h3 h4
 subst h1 h3 h4
 by_cases hd:(x.2.1.map (·.1)).Nodup
 .have e:=Qzt h2 hd
  subst e
  exact ⟨rfl,fun _=>rfl⟩
 .have e1:fA (x.1,c2,x.2.2.2.2.2.2.1,B3 x)=false:=Bool.eq_false_iff.2 fun h=>hd (Si h h2.perm)
  have e2:fA (eR x)=false:=Bool.eq_false_iff.2 fun h=>hd (Si h Bb)
  exact ⟨by rw [e1,e2],fun h=>by rw [e2] at h;simp at h⟩
theorem VU {d:Nat} {l:List aA} {b:Bool} (hl:l.length<=1000000):Ok (Cn (d+25) l b) fun r=>cY cu l r:=by
 rw [Uy]
 exact Ok.bind (Qpp hl) fun r hr=>Ok.some hr
theorem Qlw {d:Nat} {x:Ld} (hl:x.2.1.length<=1000) (hf:x.2.2.2.2.2.2.1.length<=1000):Ok (LK (d+26) x) fun c=>c.1=x.1/\cY cu x.2.1 c.2.1/\c.2.2.1=x.2.2.2.2.2.2.1/\c.2.2.2=B3 x:=by
 rw [e71,ZY hl,Q8,SN (by omega),Q8]
 unfold zw B3
 by_cases h0:x.2.2.2.2.2.2.2.2>=0
 .rw [Z5 h0,Q4]
  by_cases h1:x.2.2.2.2.2.2.2.2 < ((x.2.1.length:Nat):Int)
  .rw [Z5 h1,Q4,Q4,Hj h0 h1,Q8,if_pos ⟨h0,h1⟩]
   exact Ok.bind (VU (by omega)) fun r hr=>Ok.some ⟨rfl,hr,rfl,rfl⟩
  .rw [Z4 h1,Q5,if_neg (fun h=>h1 h.2)]
   exact Ok.bind (VU (by omega)) fun r hr=>Ok.some ⟨rfl,hr,rfl,rfl⟩
 .rw [Z4 h0,Q5,Q5,if_neg (fun h=>h0 h.1)]
  exact Ok.bind (VU (by omega)) fun r hr=>Ok.some ⟨rfl,hr,rfl,rfl⟩
theorem Qwz {d:Nat} {l:List aA} {x:aA} (hl:l.length<=10000):O7 (d+1) l x=some (sO l x):=by
 rw [e64]
 have fin:sr d l x (((l.takeWhile fun y=>decide (y.1 < x.1)).length:Nat):Int)=some (sO l x):=by
  have hle:(l.takeWhile fun y=>decide (y.1 < x.1)).length<=l.length:=by
   have:=congrArg List.length (List.takeWhile_append_dropWhile (p:=fun y:aA=>decide (y.1 < x.1)) (l:=l))
   rw [Zf] at this;omega
  have ht:l.take (l.takeWhile fun y=>decide (y.1 < x.1)).length=l.takeWhile fun y=>decide (y.1 < x.1):=by
   conv=>lhs;arg 2;rw [<- List.takeWhile_append_dropWhile (p:=fun y:aA=>decide (y.1 < x.1)) (l:=l)]
   rw [List.take_left]
  have hd:l.drop (l.takeWhile fun y=>decide (y.1 < x.1)).length=l.dropWhile fun y=>decide (y.1 < x.1):=by
   conv=>lhs;arg 2;rw [<- List.takeWhile_append_dropWhile (p:=fun y:aA=>decide (y.1 < x.1)) (l:=l)]
   rw [List.drop_left]
  unfold sr
  simp only [nn,Q3,Q4]
  rw [LZ hle,Q4,Q4,room (by simp;omega),Q4,room (by simp;omega),Q4,room (by simp;omega),Q4,ht,hd]
  unfold sO
  simp
 have key:∀ (B A:List aA) (fuel:Nat),l=A++B->(∀ y∈A,y.1 < x.1)->B.length < fuel->Q9 (su d l x (sr d l x)) fuel ((A.length:Nat):Int)=some (sO l x):=by
  intro B
  induction B with
  | nil =>
   intro A fuel e hA hf
   obtain ⟨g,rfl⟩:∃ g,fuel=g+1:=⟨fuel - 1,by omega⟩
   rw [List.append_nil] at e
   have ht:(l.takeWhile fun y=>decide (y.1 < x.1))=A:=by rw [e];exact Qv4 (fun y hy=>by simpa using hA y hy)
   simp only [Q9,su]
   rw [show (l.length:Int)=((A.length:Nat):Int) by rw [e],bD,Q5]
   rw [ht] at fin;exact fin
  | cons z B ih =>
   intro A fuel e hA hf
   obtain ⟨g,rfl⟩:∃ g,fuel=g+1:=⟨fuel - 1,by omega⟩
   have au:A.length < l.length:=by rw [e];simp
   have hg:l[A.length]? = some z:=by rw [e];simp
   simp only [Q9,su]
   rw [Z5 (show ((A.length:Nat):Int) < ((l.length:Nat):Int) by omega),Q4,nn,Q4,Q3,hg,Q8]
   by_cases hz:z.1 < x.1
   .rw [Z5 hz,Q4,aN (by omega)]
    have:=ih (A++[z]) g (by rw [e];simp) (fun y hy=>by
     rcases List.mem_append.1 hy with h | h
     .exact hA y h
     .simp at h;subst h;exact hz) (by simpa using hf)
    rw [Zf] at this
    exact this
   .rw [Z4 hz,Q5]
    have ht:(l.takeWhile fun y=>decide (y.1 < x.1))=A:=by
     rw [e,List.takeWhile_append_of_pos (fun y hy=>by simpa using hA y hy),List.takeWhile_cons,if_neg (by simpa using hz),List.append_nil]
    rw [ht] at fin;exact fin
 exact key l [] Qd rfl (by simp) (by rw [Q6];omega)
theorem Qlx {d:Nat} {x:Ld} (hl:x.2.1.length<=1000) (hf:x.2.2.2.2.2.2.1.length<=1000):O8 (d+2) x=some (eR x):=by
 rw [e26,room (by simp;omega),Q4,List.nil_append]
 refine (Qc (fun (t:List aA) (i:Int)=>(i,((x.1,t,x.2.2.2.2.2.2.1,0):Cf))) x.2.1 (fun y _ t k=>Q1 (O7 (d+1) t y) fun r=>k r) (fun t=>xY (d+1) x x.1 0 t x.2.2.2.2.2.2.1) ?_ ?_ (by rw [Q6];omega) []).trans ?_
 .intro ag t i y hx
  have hi:=(Z0 hx).1
  simp only [xZ,bV hx,nn,Q3,hx,Q8,Q4]
  rw [aN (by omega)]
 .intro ag t;simp only [xZ,bD,Q5]
 .rw [VK (f:=fun y _ t=>sO t y) (fun k t=>t.length=k) x.2.1 0 [] rfl (fun j y t k hy ht=>by
   have hj:=(Z0 hy).1
   rw [Qwz (by omega),Q8]
   exact ⟨rfl,by rw [Qt0];omega⟩)]
  unfold xY
  rw [v8,Q8]
  show _=some (x.1,DO x.2.1,x.2.2.2.2.2.2.1,B3 x)
  unfold B3
  rw [wr (by omega) (by omega)]
  by_cases h:0<=x.2.2.2.2.2.2.2.2/\x.2.2.2.2.2.2.2.2 < ((x.2.1.length:Nat):Int)
  .rw [if_pos h,Z5 (show 0<=x.2.2.2.2.2.2.2.2/\x.2.2.2.2.2.2.2.2<=((x.2.1.length:Nat):Int) - 1 by omega),Q4,Z5 h.1,Q4,Hj h.1 h.2,Q8]
   rfl
  .rw [if_neg h,Z4 (show ¬ (0<=x.2.2.2.2.2.2.2.2/\x.2.2.2.2.2.2.2.2<=((x.2.1.length:Nat):Int) - 1) by omega),Q5]
   rfl
theorem JD {α:Type} [DecidableEq α]:∀ {a b:List α} {i:Nat} {c:List α},i=c.length->a.length=b.length->eM (fun x j=>decide ((c++b)[j]? = some x)) a i=decide (a=b)
 | [],[],i,c,_,_=>by simp [eM]
 | x::a,y::b,i,c,hi,h=>by
  subst hi
  have h1:(c++y::b)[c.length]? = some y:=by simp
  have ih:=JD (a:=a) (b:=b) (i:=c.length+1) (c:=c++[y]) (by simp) (by simpa using h)
  rw [show c++[y]++b=c++y::b by simp] at ih
  simp only [eM]
  rw [ih,h1]
  by_cases gV:x=y
  .subst gV;simp
  .rw [Z4 (show ¬ some y=some x by simp;exact fun e=>gV e.symm),Bool.false_and,Z4 (by simp [gV])]
 | [],_::_,_,_,_,h=>by simp at h
 | _::_,[],_,_,_,h=>by simp at h
theorem Mm {d:Nat} {a b:List Int} (hl:a.length < 4000000):qG (d+1) a b=some (decide (a=b)):=by
 rw [UQ]
 by_cases h:a.length=b.length
 case neg=>rw [show ((((a.length:Nat):Int)) != ((b.length:Nat):Int))=true by simp;omega,Q4,Z4 (fun e=>h (by rw [e]))]
 rw [show ((((a.length:Nat):Int)) != ((b.length:Nat):Int))=false by simp;omega,Q5]
 refine (Qc (fun (t:Bool) (i:Int)=>(t,i)) a (fun x i t k=>aa (decide (([]++b)[i]? = some x)) (k t) (some false)) (fun _=>some true) ?_ ?_ (by rw [Q6];omega) false).trans ?_
 .intro ag t i x hx;have hi:=(Z0 hx).1;simp only [qF,bV hx,nn,Q3,hx,Q8,Q4];rw [aN (by omega)]
  have hb:i < b.length:=by omega
  rw [List.nil_append,Z6 hb,Q8]
  by_cases gV:x=b[i]
  .rw [show (x != b[i])=false by simp [gV],Q5,Z5 (by rw [gV]),Q4]
  .rw [show (x != b[i])=true by simp [gV],Q4,Z4 (show ¬ some b[i]=some x by simp;exact fun e=>gV e.symm),Q5]
 .intro ag t;simp only [qF,bD,Q5];rfl
 .rw [qS,JD (i:=0) (c:=[]) rfl h];cases decide (a=b)<;>rfl
theorem Mn {d:Nat} {a b:List Int} (hl:a.length < 4000000):pL (d+1) a b=some (decide (a=b)):=by
 rw [TH]
 by_cases h:a.length=b.length
 case neg=>rw [show ((((a.length:Nat):Int)) != ((b.length:Nat):Int))=true by simp;omega,Q4,Z4 (fun e=>h (by rw [e]))]
 rw [show ((((a.length:Nat):Int)) != ((b.length:Nat):Int))=false by simp;omega,Q5]
 refine (Qc (fun (t:Bool) (i:Int)=>(t,i)) a (fun x i t k=>aa (decide (([]++b)[i]? = some x)) (k t) (some false)) (fun _=>some true) ?_ ?_ (by rw [Q6];omega) false).trans ?_
 .intro ag t i x hx;have hi:=(Z0 hx).1;simp only [pK,bV hx,nn,Q3,hx,Q8,Q4];rw [aN (by omega)]
  have hb:i < b.length:=by omega
  rw [List.nil_append,Z6 hb,Q8]
  by_cases gV:x=b[i]
  .rw [show (x != b[i])=false by simp [gV],Q5,Z5 (by rw [gV]),Q4]
  .rw [show (x != b[i])=true by simp [gV],Q4,Z4 (show ¬ some b[i]=some x by simp;exact fun e=>gV e.symm),Q5]
 .intro ag t;simp only [pK,bD,Q5];rfl
 .rw [qS,JD (i:=0) (c:=[]) rfl h];cases decide (a=b)<;>rfl
theorem Qv6 {x y:aA}:((x.1==y.1)&&((x.2.1==y.2.1)&&((x.2.2.1==y.2.2.1)&&((x.2.2.2.1==y.2.2.2.1)&&((x.2.2.2.2.1==y.2.2.2.2.1)&&((x.2.2.2.2.2.1==y.2.2.2.2.2.1)&&((x.2.2.2.2.2.2.1==y.2.2.2.2.2.2.1)&&((x.2.2.2.2.2.2.2==y.2.2.2.2.2.2.2)&&true))))))))=decide (x=y):=by
 obtain ⟨x1,x2,x3,x4,x5,x6,x7,x8⟩:=x
 obtain ⟨y1,y2,y3,y4,y5,y6,y7,y8⟩:=y
 rw [Bool.eq_iff_iff];simp
theorem Qzv {x y:dY}:((x.1==y.1)&&((x.2.1==y.2.1)&&((x.2.2.1==y.2.2.1)&&((x.2.2.2.1==y.2.2.2.1)&&((x.2.2.2.2==y.2.2.2.2)&&true)))))=decide (x=y):=by
 obtain ⟨x1,x2,x3,x4,x5⟩:=x
 obtain ⟨y1,y2,y3,y4,y5⟩:=y
 rw [Bool.eq_iff_iff];simp
theorem VV {d:Nat} {a b:List aA} (hl:a.length < 4000000):GX (d+1) a b=some (decide (a=b)):=by
 rw [UP]
 by_cases h:a.length=b.length
 case neg=>rw [show ((((a.length:Nat):Int)) != ((b.length:Nat):Int))=true by simp;omega,Q4,Z4 (fun e=>h (by rw [e]))]
 rw [show ((((a.length:Nat):Int)) != ((b.length:Nat):Int))=false by simp;omega,Q5]
 refine (Qc (fun (t:Bool) (i:Int)=>(t,i)) a (fun x i t k=>aa (decide (([]++b)[i]? = some x)) (k t) (some false)) (fun _=>some true) ?_ ?_ (by rw [Q6];omega) false).trans ?_
 .intro ag t i x hx;have hi:=(Z0 hx).1;simp only [qE,bV hx,nn,Q3,hx,Q8,Q4];rw [aN (by omega)]
  have hb:i < b.length:=by omega
  rw [List.nil_append,Z6 hb,Q8,Qv6]
  by_cases gV:x=b[i]
  .rw [Z5 gV,Zl,Q5,Z5 (by rw [gV]),Q4]
  .rw [Z4 gV,Bool.not_false,Q4,Z4 (show ¬ some b[i]=some x by simp;exact fun e=>gV e.symm),Q5]
 .intro ag t;simp only [qE,bD,Q5];rfl
 .rw [qS,JD (i:=0) (c:=[]) rfl h];cases decide (a=b)<;>rfl
def DP (x y:Ld):Bool:=decide (x.2.1=y.2.1)&&(decide (x.2.2.1=y.2.2.1)&&(decide (x.2.2.2.1=y.2.2.2.1)&&(decide (x.2.2.2.2.1=y.2.2.2.2.1)&&(decide (x.2.2.2.2.2.1=y.2.2.2.2.2.1)&&(decide (x.2.2.2.2.2.2.2.1=y.2.2.2.2.2.2.2.1)&&(x.2.2.2.2.2.2.2.2==y.2.2.2.2.2.2.2.2))))))
def eW (x:Ld):Bool:=decide (x.2.1.length<=24/\x.2.2.2.2.2.2.1.length<=16)&&(fA (eR x)&&DP x (bT (eR x)))
def w8 (x:Ld):Prop:=x.1.size < 4000000/\x.2.1.length < 4000000/\x.2.2.1.length < 4000000/\x.2.2.2.1.length < 4000000/\x.2.2.2.2.1.length < 4000000/\x.2.2.2.2.2.1.length < 4000000/\x.2.2.2.2.2.2.1.length < 4000000/\x.2.2.2.2.2.2.2.1.length < 4000000
theorem Qn5 {d:Nat} {x:Ld} (h:w8 x):GZ (d+27) x=some (eW x):=by
 obtain ⟨z1,z2,z3,z4,z5,z6,z7,z8⟩:=h
 rw [UR]
 unfold qH eW
 by_cases h1:x.2.1.length<=24
 case neg=>rw [Z5 (show ((x.2.1.length:Nat):Int) > 24 by omega),Q4,Q4,Z4 (fun h=>h1 h.1)];rfl
 rw [Z4 (show ¬ ((x.2.1.length:Nat):Int) > 24 by omega),Q5]
 by_cases h2:x.2.2.2.2.2.2.1.length<=16
 case neg=>rw [Z5 (show ((x.2.2.2.2.2.2.1.length:Nat):Int) > 16 by omega),Q4,Z4 (fun h=>h2 h.2)];rfl
 rw [Z4 (show ¬ ((x.2.2.2.2.2.2.1.length:Nat):Int) > 16 by omega),Q5,Z5 ⟨h1,h2⟩,Zg]
 obtain ⟨c,hc,c1,c2,c3,c4⟩:=Qlw (d:=d) (x:=x) (by omega) (by omega)
 obtain ⟨u1,u2⟩:=Qzu c1 c2 c3 c4
 have fc:=c2.len
 rw [hc,Q8,show d+26=(d+18)+8 by omega,O1 (by omega) (by rw [c3];omega),Q8,u1]
 cases hg:fA (eR x) with
 | false=>rfl
 | true =>
  have e:=u2 hg
  subst e
  rw [Zl,Q5,show d+18+8=(d+12)+14 by omega,ZS (rV hg),Q8,Zg]
  unfold DP
  rw [show d+12+14=(d+25)+1 by omega,VV (by omega),Q8]
  cases decide (x.2.1=(bT (eR x)).2.1) with
  | false=>rfl
  | true =>
  rw [Q4,Mm (by omega),Q8]
  cases decide (x.2.2.1=(bT (eR x)).2.2.1) with
  | false=>rfl
  | true =>
  rw [Q4,Mm (by omega),Q8]
  cases decide (x.2.2.2.1=(bT (eR x)).2.2.2.1) with
  | false=>rfl
  | true =>
  rw [Q4,Mm (by omega),Q8]
  cases decide (x.2.2.2.2.1=(bT (eR x)).2.2.2.2.1) with
  | false=>rfl
  | true =>
  rw [Q4,Mm (by omega),Q8]
  cases decide (x.2.2.2.2.2.1=(bT (eR x)).2.2.2.2.2.1) with
  | false=>rfl
  | true =>
  rw [Q4,Mm (by omega),Q8]
  cases decide (x.2.2.2.2.2.2.2.1=(bT (eR x)).2.2.2.2.2.2.2.1) with
  | false=>rfl
  | true=>rw [Q4];rfl
theorem Qt2 {d:Nat} {u y:Ld} (h:w8 u) (hn:u.1=y.1) (hf:u.2.2.2.2.2.2.1=y.2.2.2.2.2.2.1):Gb (d+2) u y=some (DP u y):=by
 obtain ⟨z1,z2,z3,z4,z5,z6,z7,z8⟩:=h
 rw [TI,Pm,Z5 (by rw [hn]),Zl,Q5]
 unfold jt DP
 by_cases hc:u.2.1.length=y.2.1.length
 case neg=>rw [show ((((u.2.1.length:Nat):Int)) != ((y.2.1.length:Nat):Int))=true by simp;omega,Q4,Q4,Z4 (fun e=>hc (by rw [e]))];rfl
 rw [show ((((u.2.1.length:Nat):Int)) != ((y.2.1.length:Nat):Int))=false by simp;omega,Q5,show ((((u.2.2.2.2.2.2.1.length:Nat):Int)) != ((y.2.2.2.2.2.2.1.length:Nat):Int))=false by rw [hf];simp,Q5]
 by_cases hd:u.2.2.2.2.2.2.2.2=y.2.2.2.2.2.2.2.2
 case neg=>rw [show (u.2.2.2.2.2.2.2.2 != y.2.2.2.2.2.2.2.2)=true by simp [hd],Q4,show (u.2.2.2.2.2.2.2.2==y.2.2.2.2.2.2.2.2)=false by simp [hd]];simp
 rw [show (u.2.2.2.2.2.2.2.2 != y.2.2.2.2.2.2.2.2)=false by simp [hd],Q5,show (u.2.2.2.2.2.2.2.2==y.2.2.2.2.2.2.2.2)=true by simp [hd],Bool.and_true]
 refine (Qc (fun (t:Bool) (i:Int)=>(t,i)) u.2.1 (fun z i t k=>aa (decide (([]++y.2.1)[i]? = some z)) (k t) (some false)) (fun t=>pP (d+1) u y t) ?_ ?_ (by rw [Q6];omega) false).trans ?_
 .intro ag t i x hx;have hi:=(Z0 hx).1;simp only [pQ,bV hx,nn,Q3,hx,Q8,Q4];rw [aN (by omega)]
  have hb:i < y.2.1.length:=by omega
  rw [List.nil_append,Z6 hb,Q8,Qv6]
  by_cases gV:x=y.2.1[i]
  .rw [Z5 gV,Zl,Q5,Z5 (by rw [gV]),Q4]
  .rw [Z4 gV,Bool.not_false,Q4,Z4 (show ¬ some y.2.1[i]=some x by simp;exact fun e=>gV e.symm),Q5]
 .intro ag t;simp only [pQ,bD,Q5]
 .rw [qS,JD (i:=0) (c:=[]) rfl hc]
  cases decide (u.2.1=y.2.1) with
  | false=>rfl
  | true =>
  rw [Q4,Zg]
  unfold pP
  have cJ:u.2.2.2.2.2.2.1.length=y.2.2.2.2.2.2.1.length:=by rw [hf]
  refine (Qc (fun (t:Bool) (i:Int)=>(t,i)) u.2.2.2.2.2.2.1 (fun z i t k=>aa (decide (([]++y.2.2.2.2.2.2.1)[i]? = some z)) (k t) (some false)) (fun t=>pM (d+1) u y t) ?_ ?_ (by rw [Q6];omega) false).trans ?_
  .intro ag t i x hx;have hi:=(Z0 hx).1;simp only [pO,bV hx,nn,Q3,hx,Q8,Q4];rw [aN (by omega)]
   have hb:i < y.2.2.2.2.2.2.1.length:=by omega
   rw [List.nil_append,Z6 hb,Q8,Qzv]
   by_cases gV:x=y.2.2.2.2.2.2.1[i]
   .rw [Z5 gV,Zl,Q5,Z5 (by rw [gV]),Q4]
   .rw [Z4 gV,Bool.not_false,Q4,Z4 (show ¬ some y.2.2.2.2.2.2.1[i]=some x by simp;exact fun e=>gV e.symm),Q5]
  .intro ag t;simp only [pO,bD,Q5]
  .rw [qS,JD (i:=0) (c:=[]) rfl cJ,Z5 hf,Q4]
   unfold pM
   rw [Mn (by omega),Q8]
   cases decide (u.2.2.1=y.2.2.1) with
   | false=>rfl
   | true =>
   rw [Q4,Mn (by omega),Q8]
   cases decide (u.2.2.2.1=y.2.2.2.1) with
   | false=>rfl
   | true =>
   rw [Q4,Mn (by omega),Q8]
   cases decide (u.2.2.2.2.1=y.2.2.2.2.1) with
   | false=>rfl
   | true =>
   rw [Q4,Mn (by omega),Q8]
   cases decide (u.2.2.2.2.2.1=y.2.2.2.2.2.1) with
   | false=>rfl
   | true=>rw [Q4,Mn (by omega),Q8];rfl
theorem Qt3 {d:Nat} {x:Ld} (h:w8 x):TN (d+11) x=some (eW x):=by
 have h':=h
 obtain ⟨z1,z2,z3,z4,z5,z6,z7,z8⟩:=h
 rw [e90]
 unfold yy eW
 by_cases h1:x.2.1.length<=24
 case neg=>rw [Z5 (show ((x.2.1.length:Nat):Int) > 24 by omega),Q4,Q4,Z4 (fun h=>h1 h.1)];rfl
 rw [Z4 (show ¬ ((x.2.1.length:Nat):Int) > 24 by omega),Q5]
 by_cases h2:x.2.2.2.2.2.2.1.length<=16
 case neg=>rw [Z5 (show ((x.2.2.2.2.2.2.1.length:Nat):Int) > 16 by omega),Q4,Z4 (fun h=>h2 h.2)];rfl
 rw [Z4 (show ¬ ((x.2.2.2.2.2.2.1.length:Nat):Int) > 16 by omega),Q5,Z5 ⟨h1,h2⟩,Zg]
 rw [show d+10=(d+8)+2 by omega,Qlx (by omega) (by omega),Q8,show d+8+2=(d+5)+5 by omega,O2 (c:=eR x) z1 (show x.2.2.2.2.2.2.1.length < 4000000 by omega),Q8]
 cases hg:fA (eR x) with
 | false=>rfl
 | true=>rw [Q4,show d+5+5=d+10 by omega,ZT (rV hg),Q8,show d+10=(d+8)+2 by omega,Qt2 (y:=bT (eR x)) h' rfl rfl,Q8,Zg]
theorem Mo {α:Type} {l:List α} {z x:α} {k:Nat} (hx:l[k]? = some x):(l.take k++List.replicate (l.length - k) z).set k x=l.take (k+1)++List.replicate (l.length - (k+1)) z:=by
 have hk:=(Z0 hx).1
 have e:=(Z0 hx).2
 have hl:(l.take k).length=k:=by rw [List.length_take];omega
 rw [List.set_append_right _ _ (by omega),hl,Nat.sub_self,show l.length - k=(l.length - (k+1))+1 by omega,List.replicate_succ,List.set_cons_zero,List.take_succ_eq_append_getElem hk,e]
 simp
theorem Qn6 {d:Nat} {l:List aA} (hl:l.length<=1048576):S8 (d+2) l=some l:=by
 rw [e66,nn,Q4,Q4,Q3,show (Nat.ble l.length l.length&&Nat.ble (l.length*64) Q7)=true by rw [Z8,Nat.ble_eq,Nat.ble_eq];unfold Q7;omega,Q4]
 refine Ok.val (mI (fun j (s:Int×List aA)=>∃ k:Nat,k+j=l.length/\s.1=(k:Int)/\s.2=l.take k++List.replicate (l.length - k) ((0,0,0,0,0,0,0,0):aA)) ?_ _ l.length _ (by rw [Q6];omega) ⟨0,by omega,rfl,by simp⟩)
 rintro j ⟨n,r⟩ ag ⟨k,hk,h1,h2⟩ eA
 simp only at h1 h2
 subst h1
 have kI:r.length=l.length:=by rw [h2];simp;omega
 simp only [D5]
 rcases Nat.lt_or_ge k l.length with au | tD
 .have hx:=Z6 au
  rw [bV hx,Q4,nn,Q4,Q3,hx,Q8,e19,Q8,Q4,Qo (by omega),Q4,Z6 (by omega),Q8,aN (by omega)]
  exact eA (j - 1) _ (by omega) ⟨k+1,by omega,rfl,by rw [h2];exact Mo hx⟩
 .have:k=l.length:=by omega
  subst this
  rw [bD,Q5]
  unfold D4
  exact Ok.some (by rw [h2];simp)
theorem Qk4 {d:Nat} {l:List dY} (hl:l.length<=1048576):S_ (d+2) l=some l:=by
 rw [e68,nn,Q4,Q4,Q3,show (Nat.ble l.length l.length&&Nat.ble (l.length*40) Q7)=true by rw [Z8,Nat.ble_eq,Nat.ble_eq];unfold Q7;omega,Q4]
 refine Ok.val (mI (fun j (s:Int×List dY)=>∃ k:Nat,k+j=l.length/\s.1=(k:Int)/\s.2=l.take k++List.replicate (l.length - k) ((0,0,0,0,0):dY)) ?_ _ l.length _ (by rw [Q6];omega) ⟨0,by omega,rfl,by simp⟩)
 rintro j ⟨n,r⟩ ag ⟨k,hk,h1,h2⟩ eA
 simp only at h1 h2
 subst h1
 have kI:r.length=l.length:=by rw [h2];simp;omega
 simp only [D9]
 rcases Nat.lt_or_ge k l.length with au | tD
 .have hx:=Z6 au
  rw [bV hx,Q4,nn,Q4,Q3,hx,Q8,S9,Q8,Q4,Qo (by omega),Q4,Z6 (by omega),Q8,aN (by omega)]
  exact eA (j - 1) _ (by omega) ⟨k+1,by omega,rfl,by rw [h2];exact Mo hx⟩
 .have:k=l.length:=by omega
  subst this
  rw [bD,Q5]
  unfold D8
  exact Ok.some (by rw [h2];simp)
theorem Hz {d:Nat} {l:List Int} (hl:l.length<=1048576):Cc (d+1) l=some l:=by
 rw [e67,nn,Q4,Q4,Q3,show (Nat.ble l.length l.length&&Nat.ble (l.length*8) Q7)=true by rw [Z8,Nat.ble_eq,Nat.ble_eq];unfold Q7;omega,Q4]
 refine Ok.val (mI (fun j (s:Int×List Int)=>∃ k:Nat,k+j=l.length/\s.1=(k:Int)/\s.2=l.take k++List.replicate (l.length - k) (0:Int)) ?_ _ l.length _ (by rw [Q6];omega) ⟨0,by omega,rfl,by simp⟩)
 rintro j ⟨n,r⟩ ag ⟨k,hk,h1,h2⟩ eA
 simp only at h1 h2
 subst h1
 have kI:r.length=l.length:=by rw [h2];simp;omega
 simp only [D7]
 rcases Nat.lt_or_ge k l.length with au | tD
 .have hx:=Z6 au
  rw [bV hx,Q4,nn,Q4,Q3,hx,Q8,Q4,Qo (by omega),Q4,Z6 (by omega),Q8,aN (by omega)]
  exact eA (j - 1) _ (by omega) ⟨k+1,by omega,rfl,by rw [h2];exact Mo hx⟩
 .have:k=l.length:=by omega
  subst this
  rw [bD,Q5]
  unfold D6
  exact Ok.some (by rw [h2];simp)
def VW (n:Int) (k:Nat) (r:Int):Prop:=r < 0\/(0<=r/\r<=n/\(k:Int)<=n)
theorem Qn7 {d:Nat} {l:List aA} {n:Int} (h0:0<=n) (h1:n<=1048576) (hl:l.length<=9223372036854775807):Ok (S6 (d+1) l n) fun r=>VW n l.length r:=by
 rw [e49,wr (by omega) (by omega)]
 by_cases h:n - ((l.length:Nat):Int) < 0
 .rw [Z5 h,Q4];exact Ok.some (Or.inl (by omega))
 .rw [Z4 h,Q5];exact Ok.some (Or.inr ⟨by omega,by omega,by omega⟩)
theorem Qk5 {d:Nat} {l:List dY} {n:Int} (h0:0<=n) (h1:n<=1048576) (hl:l.length<=9223372036854775807):Ok (S7 (d+1) l n) fun r=>VW n l.length r:=by
 rw [e51,wr (by omega) (by omega)]
 by_cases h:n - ((l.length:Nat):Int) < 0
 .rw [Z5 h,Q4];exact Ok.some (Or.inl (by omega))
 .rw [Z4 h,Q5];exact Ok.some (Or.inr ⟨by omega,by omega,by omega⟩)
theorem HA {d:Nat} {l:List Int} {n:Int} (h0:0<=n) (h1:n<=1048576) (hl:l.length<=9223372036854775807):Ok (Cb (d+1) l n) fun r=>VW n l.length r:=by
 rw [e50,wr (by omega) (by omega)]
 by_cases h:n - ((l.length:Nat):Int) < 0
 .rw [Z5 h,Q4];exact Ok.some (Or.inl (by omega))
 .rw [Z4 h,Q5];exact Ok.some (Or.inr ⟨by omega,by omega,by omega⟩)
theorem Qn8 {d:Nat} {l:List aA} (hl:l.length<=2000000):Tg (d+2) l l=some true:=by
 rw [e78,bne_self_eq_false,Q5]
 refine (Qc (fun (t:Bool) (i:Int)=>(t,i)) l (fun x i t k=>k t) (Ee (d+1)) ?_ ?_ (by rw [Q6];omega) false).trans ?_
 .intro ag t i x hx;have hi:=(Z0 hx).1;simp only [xE,bV hx,nn,Q3,hx,Q8,Q4]
  rw [Tf]
  simp only [bne_self_eq_false,Q5,Zl,Q8]
  rw [aN (by omega)]
 .intro ag t;simp only [xE,bD,Q5]
 .rw [w7 (f:=fun _ _ t=>t)];rfl
theorem Qk6 {d:Nat} {l:List dY} (hl:l.length<=2000000):Ti (d+2) l l=some true:=by
 rw [e79,bne_self_eq_false,Q5]
 refine (Qc (fun (t:Bool) (i:Int)=>(t,i)) l (fun x i t k=>k t) (Ef (d+1)) ?_ ?_ (by rw [Q6];omega) false).trans ?_
 .intro ag t i x hx;have hi:=(Z0 hx).1;simp only [xG,bV hx,nn,Q3,hx,Q8,Q4]
  rw [Th]
  simp only [bne_self_eq_false,Q5,Zl,Q8]
  rw [aN (by omega)]
 .intro ag t;simp only [xG,bD,Q5]
 .rw [w7 (f:=fun _ _ t=>t)];rfl
theorem DY {d:Nat} {l:List Int} (hl:l.length<=2000000):g11 (d+1) l l=some true:=by
 rw [e11,bne_self_eq_false,Q5]
 refine (Qc (fun (t:Bool) (i:Int)=>(t,i)) l (fun x i t k=>k t) (Ed d) ?_ ?_ (by rw [Q6];omega) false).trans ?_
 .intro ag t i x hx;have hi:=(Z0 hx).1;simp only [xC,bV hx,nn,Q3,hx,Q8,Q4]
  simp only [bne_self_eq_false,Q5]
  rw [aN (by omega)]
 .intro ag t;simp only [xC,bD,Q5]
 .rw [w7 (f:=fun _ _ t=>t)];rfl
def Bo (x:Ld):Prop:=x.1.size<=1048576/\x.2.1.length<=1048576/\x.2.2.1.length<=1048576/\x.2.2.2.1.length<=1048576/\x.2.2.2.2.1.length<=1048576/\x.2.2.2.2.2.1.length<=1048576/\x.2.2.2.2.2.2.1.length<=1048576/\x.2.2.2.2.2.2.2.1.length<=1048576
theorem Qn9 {d:Nat} {x:Ld} (h:Bo x):Tj (d+3) x x=some true:=by
 obtain ⟨z1,z2,z3,z4,z5,z6,z7,z8⟩:=h
 rw [e34,beq_self_eq_true,Zl,Q5,Qn8 (by omega),Q8,Zl,Q5,DY (by omega),Q8,Zl,Q5,DY (by omega),Q8,Zl,Q5,DY (by omega),Q8,Zl,Q5,DY (by omega),Q8,Zl,Q5,Qk6 (by omega),Q8,Zl,Q5,DY (by omega),Q8,Zl,Q5,bne_self_eq_false,Q5]
theorem Qna {d:Nat} {x:Ld} (h:Bo x):Ta (d+3) x=some x:=by
 obtain ⟨z1,z2,z3,z4,z5,z6,z7,z8⟩:=h
 rw [e28,Qn6 z2,Q8,Hz z3,Q8,Hz z4,Q8,Hz z5,Q8,Hz z6,Q8,Qk4 z7,Q8,Hz z8,Q8]
def S3 (x:Ld):Prop:=x.1.size<=9223372036854775807/\x.2.1.length<=9223372036854775807/\x.2.2.1.length<=9223372036854775807/\x.2.2.2.1.length<=9223372036854775807/\x.2.2.2.2.1.length<=9223372036854775807/\x.2.2.2.2.2.1.length<=9223372036854775807/\x.2.2.2.2.2.2.1.length<=9223372036854775807/\x.2.2.2.2.2.2.2.1.length<=9223372036854775807
theorem Qnb {d:Nat} {x:Ld} {n:Int} (h0:0<=n) (h1:n<=1048576) (h:S3 x):Ok (g21 (d+2) x n) fun r=>r < 0\/(0<=r/\r<=n/\Bo x):=by
 obtain ⟨z1,z2,z3,z4,z5,z6,z7,z8⟩:=h
 have no:Ok (some (-1:Int)) fun r=>r < 0\/(0<=r/\r<=n/\Bo x):=Ok.some (Or.inl (by omega))
 rw [e21,wr (by omega) (by omega)]
 refine Ok.aa (fun _=>no) (fun hs=>?_)
 simp only [decide_eq_false_iff_not] at hs
 refine Ok.bind (Qn7 (by omega) (by omega) z2) fun r3 g3=>?_
 refine Ok.aa (fun _=>no) (fun CI=>?_)
 simp only [decide_eq_false_iff_not] at CI
 have g3:=g3.resolve_left CI
 refine Ok.bind (HA (by omega) (by omega) z3) fun r4 g4=>?_
 refine Ok.aa (fun _=>no) (fun EJ=>?_)
 simp only [decide_eq_false_iff_not] at EJ
 have g4:=g4.resolve_left EJ
 refine Ok.bind (HA (by omega) (by omega) z4) fun r5 g5=>?_
 refine Ok.aa (fun _=>no) (fun Mp=>?_)
 simp only [decide_eq_false_iff_not] at Mp
 have g5:=g5.resolve_left Mp
 refine Ok.bind (HA (by omega) (by omega) z5) fun r6 g6=>?_
 refine Ok.aa (fun _=>no) (fun hs6=>?_)
 simp only [decide_eq_false_iff_not] at hs6
 have g6:=g6.resolve_left hs6
 refine Ok.bind (HA (by omega) (by omega) z6) fun r7 g7=>?_
 refine Ok.aa (fun _=>no) (fun hs7=>?_)
 simp only [decide_eq_false_iff_not] at hs7
 have g7:=g7.resolve_left hs7
 refine Ok.bind (Qk5 (by omega) (by omega) z7) fun r8 g8=>?_
 refine Ok.aa (fun _=>no) (fun hs8=>?_)
 simp only [decide_eq_false_iff_not] at hs8
 have g8:=g8.resolve_left hs8
 refine Ok.bind (HA (by omega) (by omega) z8) fun r9 g9=>?_
 refine Ok.aa (fun _=>no) (fun hs9=>?_)
 simp only [decide_eq_false_iff_not] at hs9
 have g9:=g9.resolve_left hs9
 exact Ok.some (Or.inr ⟨by omega,by omega,by omega,by omega,by omega,by omega,by omega,by omega,by omega,by omega⟩)
theorem Bo.sz {x:Ld} (h:Bo x):w8 x:=by
 obtain ⟨z1,z2,z3,z4,z5,z6,z7,z8⟩:=h
 exact ⟨by omega,by omega,by omega,by omega,by omega,by omega,by omega,by omega⟩
def mC (k:Nat):aA:=((k:Int),((k+1:Nat):Int),((k+1+1:Nat):Int),((k+1+1+1:Nat):Int),((k+1+1+1+1:Nat):Int),((k+1+1+1+1+1:Nat):Int),((k+1+1+1+1+1+1:Nat):Int),((k+1+1+1+1+1+1+1:Nat):Int))
def mF (k:Nat):dY:=((k:Int),((k+1:Nat):Int),((k+1+1:Nat):Int),((k+1+1+1:Nat):Int),((k+1+1+1+1:Nat):Int))
def vi:Nat->Nat->List aA
 | _,0=>[]
 | k,n+1=>mC k::vi (k+1+1+1+1+1+1+1+1) n
def vj:Nat->Nat->List dY
 | _,0=>[]
 | k,n+1=>mF k::vj (k+1+1+1+1+1) n
theorem FR {α:Type} {p r:List α} {x y:α}:(p++x::r).set p.length y=p++y::r:=by
 rw [List.set_append_right _ _ (Zd _),Nat.sub_self,List.set_cons_zero]
theorem Qv7 {d:Nat}:∀ (r:List aA) {p:List aA} {k fuel:Nat},r.length < fuel->p.length+r.length<=2000000->k+8*r.length<=1000000000 ->
  Q9 (sH d (zS d)) fuel ((k:Int),((p.length:Nat):Int),p++r)=some (((k+8*r.length:Nat):Int),p++vi k r.length)
 | _,p,k,0,h,_,_=>by omega
 | [],p,k,fuel+1,h,h2,h3=>by
  simp only [Q9,sH]
  rw [List.append_nil,bD,Q5]
  unfold zS
  simp [vi]
 | x::r,p,k,fuel+1,h,h2,h3=>by
  simp only [Z9] at h h2 h3
  have au:p.length < (p++x::r).length:=by simp
  have hg:(p++x::r)[p.length]? = some x:=by simp
  simp only [Q9,sH,Q3,nn,Q4]
  rw [Z5 (show ((p.length:Nat):Int) < (((p++x::r).length:Nat):Int) by omega),Q4,Qo au,Q4,hg,Q8]
  simp only [List.length_set,List.set_set,List.getElem?_set_self au,Q8,Qo au,Q4]
  rw [FR,aN (by omega),aN (by omega),aN (by omega),aN (by omega),aN (by omega),aN (by omega),aN (by omega),aN (by omega),aN (by omega)]
  have:=Qv7 (d:=d) r (p:=p++[mC k]) (k:=k+1+1+1+1+1+1+1+1) (fuel:=fuel) (by omega) (by simp;omega) (by omega)
  rw [Zf,show (p++[mC k])++r=p++mC k::r by simp] at this
  simp only [Z9,Zb,vi]
  rw [show k+8*(r.length+1)=k+1+1+1+1+1+1+1+1+8*r.length by omega,show p++mC k::vi (k+1+1+1+1+1+1+1+1) r.length=(p++[mC k])++vi (k+1+1+1+1+1+1+1+1) r.length by simp]
  exact this
theorem Qv8 {d:Nat} {l:List aA}:∀ (n:Nat) {p:List aA} {k fuel:Nat},l=p++vi k n->n < fuel->p.length+n<=2000000->k+8*n<=1000000000 ->
  Q9 (sj d l (xQ d)) fuel ((k:Int),0,((p.length:Nat):Int))=some ((k+8*n:Nat):Int)
 | n,p,k,0,_,h,_,_=>by omega
 | 0,p,k,fuel+1,e,h,h2,h3=>by
  simp only [vi,List.append_nil] at e
  subst e
  simp only [Q9,sj]
  rw [bD,Q5]
  unfold xQ
  simp
 | n+1,p,k,fuel+1,e,h,h2,h3=>by
  have hg:l[p.length]? = some (mC k):=by rw [e];simp [vi]
  have au:=(Z0 hg).1
  simp only [Q9,sj,Q3,nn,Q4]
  rw [Z5 (show ((p.length:Nat):Int) < ((l.length:Nat):Int) by omega),Q4,hg]
  simp only [Q8]
  rw [aN (by omega),aN (by omega),aN (by omega),aN (by omega),aN (by omega),aN (by omega),aN (by omega),aN (by omega),aN (by omega)]
  unfold mC
  simp only [bne_self_eq_false,Q5]
  have:=Qv8 (d:=d) (l:=l) n (p:=p++[mC k]) (k:=k+1+1+1+1+1+1+1+1) (fuel:=fuel) (by rw [e];simp [vi]) (by omega) (by simp;omega) (by omega)
  rw [Zf] at this
  simp only [Z9,Zb] at this
  rw [show k+8*(n+1)=k+1+1+1+1+1+1+1+1+8*n by omega]
  exact this
theorem Qv9 {d:Nat}:∀ (r:List dY) {p:List dY} {k fuel:Nat},r.length < fuel->p.length+r.length<=2000000->k+5*r.length<=1000000000 ->
  Q9 (sI d (zU d)) fuel ((k:Int),((p.length:Nat):Int),p++r)=some (((k+5*r.length:Nat):Int),p++vj k r.length)
 | _,p,k,0,h,_,_=>by omega
 | [],p,k,fuel+1,h,h2,h3=>by
  simp only [Q9,sI]
  rw [List.append_nil,bD,Q5]
  unfold zU
  simp [vj]
 | x::r,p,k,fuel+1,h,h2,h3=>by
  simp only [Z9] at h h2 h3
  have au:p.length < (p++x::r).length:=by simp
  have hg:(p++x::r)[p.length]? = some x:=by simp
  simp only [Q9,sI,Q3,nn,Q4]
  rw [Z5 (show ((p.length:Nat):Int) < (((p++x::r).length:Nat):Int) by omega),Q4,Qo au,Q4,hg,Q8]
  simp only [List.length_set,List.set_set,List.getElem?_set_self au,Q8,Qo au,Q4]
  rw [FR,aN (by omega),aN (by omega),aN (by omega),aN (by omega),aN (by omega),aN (by omega)]
  have:=Qv9 (d:=d) r (p:=p++[mF k]) (k:=k+1+1+1+1+1) (fuel:=fuel) (by omega) (by simp;omega) (by omega)
  rw [Zf,show (p++[mF k])++r=p++mF k::r by simp] at this
  simp only [Z9,Zb,vj]
  rw [show k+5*(r.length+1)=k+1+1+1+1+1+5*r.length by omega,show p++mF k::vj (k+1+1+1+1+1) r.length=(p++[mF k])++vj (k+1+1+1+1+1) r.length by simp]
  exact this
theorem Qva {d:Nat} {l:List dY}:∀ (n:Nat) {p:List dY} {k fuel:Nat},l=p++vj k n->n < fuel->p.length+n<=2000000->k+5*n<=1000000000 ->
  Q9 (sk d l (xS d)) fuel ((k:Int),0,((p.length:Nat):Int))=some ((k+5*n:Nat):Int)
 | n,p,k,0,_,h,_,_=>by omega
 | 0,p,k,fuel+1,e,h,h2,h3=>by
  simp only [vj,List.append_nil] at e
  subst e
  simp only [Q9,sk]
  rw [bD,Q5]
  unfold xS
  simp
 | n+1,p,k,fuel+1,e,h,h2,h3=>by
  have hg:l[p.length]? = some (mF k):=by rw [e];simp [vj]
  have au:=(Z0 hg).1
  simp only [Q9,sk,Q3,nn,Q4]
  rw [Z5 (show ((p.length:Nat):Int) < ((l.length:Nat):Int) by omega),Q4,hg]
  simp only [Q8]
  rw [aN (by omega),aN (by omega),aN (by omega),aN (by omega),aN (by omega),aN (by omega)]
  unfold mF
  simp only [bne_self_eq_false,Q5]
  have:=Qva (d:=d) (l:=l) n (p:=p++[mF k]) (k:=k+1+1+1+1+1) (fuel:=fuel) (by rw [e];simp [vj]) (by omega) (by simp;omega) (by omega)
  rw [Zf] at this
  simp only [Z9,Zb] at this
  rw [show k+5*(n+1)=k+1+1+1+1+1+5*n by omega]
  exact this
def j8:Nat->Nat->List Int
 | _,0=>[]
 | k,n+1=>(k:Int)::j8 (k+1) n
theorem Qvb {d:Nat}:∀ (r:List Int) {p:List Int} {k fuel:Nat},r.length < fuel->p.length+r.length<=2000000->k+r.length<=1000000000 ->
  Q9 (r_ d (xM d)) fuel ((k:Int),((p.length:Nat):Int),p++r)=some (((k+r.length:Nat):Int),p++j8 k r.length)
 | _,p,k,0,h,_,_=>by omega
 | [],p,k,fuel+1,h,h2,h3=>by
  simp only [Q9,r_]
  rw [List.append_nil,bD,Q5]
  unfold xM
  simp [j8]
 | x::r,p,k,fuel+1,h,h2,h3=>by
  simp only [Z9] at h h2 h3
  have au:p.length < (p++x::r).length:=by simp
  have hg:(p++x::r)[p.length]? = some x:=by simp
  simp only [Q9,r_,Q3,nn,Q4]
  rw [Z5 (show ((p.length:Nat):Int) < (((p++x::r).length:Nat):Int) by omega),Q4,Qo au,Q4,hg,Q8]
  rw [FR,aN (by omega),aN (by omega)]
  have:=Qvb (d:=d) r (p:=p++[(k:Int)]) (k:=k+1) (fuel:=fuel) (by omega) (by simp;omega) (by omega)
  rw [Zf,show (p++[(k:Int)])++r=p++(k:Int)::r by simp] at this
  simp only [Z9,Zb,j8]
  rw [show k+(r.length+1)=k+1+r.length by omega,show p++(k:Int)::j8 (k+1) r.length=(p++[(k:Int)])++j8 (k+1) r.length by simp]
  exact this
theorem Qvc {d:Nat} {l:List Int}:∀ (n:Nat) {p:List Int} {k fuel:Nat},l=p++j8 k n->n < fuel->p.length+n<=2000000->k+n<=1000000000 ->
  Q9 (sg d l (xO d)) fuel ((k:Int),0,((p.length:Nat):Int))=some ((k+n:Nat):Int)
 | n,p,k,0,_,h,_,_=>by omega
 | 0,p,k,fuel+1,e,h,h2,h3=>by
  simp only [j8,List.append_nil] at e
  subst e
  simp only [Q9,sg]
  rw [bD,Q5]
  unfold xO
  simp
 | n+1,p,k,fuel+1,e,h,h2,h3=>by
  have hg:l[p.length]? = some (k:Int):=by rw [e];simp [j8]
  have au:=(Z0 hg).1
  simp only [Q9,sg,Q3,nn,Q4]
  rw [Z5 (show ((p.length:Nat):Int) < ((l.length:Nat):Int) by omega),Q4,hg]
  simp only [Q8]
  rw [aN (by omega),aN (by omega)]
  simp only [bne_self_eq_false,Q5]
  have:=Qvc (d:=d) (l:=l) n (p:=p++[(k:Int)]) (k:=k+1) (fuel:=fuel) (by rw [e];simp [j8]) (by omega) (by simp;omega) (by omega)
  rw [Zf] at this
  simp only [Z9,Zb] at this
  rw [show k+(n+1)=k+1+n by omega]
  exact this
theorem pz {d k:Nat} {l:List Int} (hl:l.length<=1048576) (hk:k<=100000000):g13 (d+1) l (k:Int)=some (((k+l.length:Nat):Int),j8 k l.length):=by
 rw [e13]
 exact Qvb l (p:=[]) (by rw [Q6];omega) (by simp;omega) (by omega)
theorem Qa2 {d k:Nat} {l:List aA} (hl:l.length<=1048576) (hk:k<=100000000):Pe (d+1) l (k:Int)=some (((k+8*l.length:Nat):Int),vi k l.length):=by
 rw [e81]
 exact Qv7 l (p:=[]) (by rw [Q6];omega) (by simp;omega) (by omega)
theorem Q8c {d k:Nat} {l:List dY} (hl:l.length<=1048576) (hk:k<=100000000):Pf (d+1) l (k:Int)=some (((k+5*l.length:Nat):Int),vj k l.length):=by
 rw [e82]
 exact Qv9 l (p:=[]) (by rw [Q6];omega) (by simp;omega) (by omega)
theorem DZ {d k n:Nat} (hl:n<=1048576) (hk:k<=100000000):g15 (d+1) (j8 k n) (k:Int)=some (((k+n:Nat):Int)):=by
 rw [e15]
 exact Qvc n (p:=[]) rfl (by rw [Q6];omega) (by simp;omega) (by omega)
theorem Qhj {d k n:Nat} (hl:n<=1048576) (hk:k<=100000000):Tp (d+1) (vi k n) (k:Int)=some (((k+8*n:Nat):Int)):=by
 rw [e84]
 exact Qv8 n (p:=[]) rfl (by rw [Q6];omega) (by simp;omega) (by omega)
theorem Qf6 {d k n:Nat} (hl:n<=1048576) (hk:k<=100000000):Tq (d+1) (vj k n) (k:Int)=some (((k+5*n:Nat):Int)):=by
 rw [e85]
 exact Qva n (p:=[]) rfl (by rw [Q6];omega) (by simp;omega) (by omega)
def VX (k:Nat) (x:Ld):Ld:=(x.1,vi k x.2.1.length,j8 (k+8*x.2.1.length) x.2.2.1.length,j8 (k+8*x.2.1.length+x.2.2.1.length) x.2.2.2.1.length,j8 (k+8*x.2.1.length+x.2.2.1.length+x.2.2.2.1.length) x.2.2.2.2.1.length,j8 (k+8*x.2.1.length+x.2.2.1.length+x.2.2.2.1.length+x.2.2.2.2.1.length) x.2.2.2.2.2.1.length,vj (k+8*x.2.1.length+x.2.2.1.length+x.2.2.2.1.length+x.2.2.2.2.1.length+x.2.2.2.2.2.1.length) x.2.2.2.2.2.2.1.length,j8 (k+8*x.2.1.length+x.2.2.1.length+x.2.2.2.1.length+x.2.2.2.2.1.length+x.2.2.2.2.2.1.length+5*x.2.2.2.2.2.2.1.length) x.2.2.2.2.2.2.2.1.length,x.2.2.2.2.2.2.2.2)
def B_ (k:Nat) (x:Ld):Nat:=k+8*x.2.1.length+x.2.2.1.length+x.2.2.2.1.length+x.2.2.2.2.1.length+x.2.2.2.2.2.1.length+5*x.2.2.2.2.2.2.1.length+x.2.2.2.2.2.2.2.1.length
theorem O3 {k:Nat} {x:Ld} (h:Bo x):B_ k x<=k+20000000:=by
 obtain ⟨z1,z2,z3,z4,z5,z6,z7,z8⟩:=h
 unfold B_;omega
theorem Qhk {d k:Nat} {x:Ld} (h:Bo x) (hk:k<=10000000):Tt (d+2) (VX k x) (k:Int)=some ((B_ k x:Nat):Int):=by
 obtain ⟨z1,z2,z3,z4,z5,z6,z7,z8⟩:=h
 rw [e40]
 unfold VX
 simp only []
 rw [Qhj (by omega) (by omega),Q8,Z4 (by omega),Q5,DZ (by omega) (by omega),Q8,Z4 (by omega),Q5,DZ (by omega) (by omega),Q8,Z4 (by omega),Q5,DZ (by omega) (by omega),Q8,Z4 (by omega),Q5,DZ (by omega) (by omega),Q8,Z4 (by omega),Q5,Qf6 (by omega) (by omega),Q8,Z4 (by omega),Q5,DZ (by omega) (by omega),Q8,Z4 (by omega),Q5]
 rfl
def nj (k:Nat) (t:Tk):Tk:=(j8 k t.1.length,j8 (k+t.1.length) t.2.length)
def Jg (k:Nat) (t:Tk):Nat:=k+t.1.length+t.2.length
theorem Qhl {d k:Nat} {t:Tk} (h1:t.1.length<=1048576) (h2:t.2.length<=1048576) (hk:k<=90000000):Tu (d+2) (nj k t) (k:Int)=some ((Jg k t:Nat):Int):=by
 rw [e41]
 unfold nj
 simp only []
 rw [DZ (by omega) (by omega),Q8,Z4 (by omega),Q5,DZ (by omega) (by omega),Q8,Z4 (by omega),Q5]
 rfl
theorem Qnc {d:Nat} {t:Tk} (h1:t.1.length<=2000000) (h2:t.2.length<=2000000):Tl (d+2) t t=some true:=by
 rw [e35,DY h1,Q8,Zl,Q5,DY h2,Q8,Zl,Q5]
theorem Qnd {d:Nat} {t:Tk} (h1:t.1.length<=1048576) (h2:t.2.length<=1048576):Tb (d+2) t=some t:=by
 rw [e29,Hz h1,Q8,Hz h2,Q8]
theorem Qne {d:Nat} {t:Tk} {n:Int} (h0:0<=n) (h1:n<=1048576) (z1:t.1.length<=9223372036854775807) (z2:t.2.length<=9223372036854775807):Ok (g22 (d+2) t n) fun r=>r < 0\/(0<=r/\r<=n/\t.1.length<=1048576/\t.2.length<=1048576):=by
 have no:Ok (some (-1:Int)) fun r=>r < 0\/(0<=r/\r<=n/\t.1.length<=1048576/\t.2.length<=1048576):=Ok.some (Or.inl (by omega))
 rw [e22]
 refine Ok.bind (HA (by omega) (by omega) z1) fun r3 g3=>?_
 refine Ok.aa (fun _=>no) (fun CI=>?_)
 simp only [decide_eq_false_iff_not] at CI
 have g3:=g3.resolve_left CI
 refine Ok.bind (HA (by omega) (by omega) z2) fun r4 g4=>?_
 refine Ok.aa (fun _=>no) (fun EJ=>?_)
 simp only [decide_eq_false_iff_not] at EJ
 have g4:=g4.resolve_left EJ
 exact Ok.some (Or.inr ⟨by omega,by omega,by omega,by omega⟩)
theorem nI {l:List Int} {i:Nat} {z:Int} (h:i < l.length):l[i]? = some (l.getD i z):=by
 rw [Zr,Z6 h];rfl
def oQ (t:Tk) (c:aA) (i:Nat):Bool:=decide (0<=t.1.getD i 0/\t.1.getD i 0<=c.2.2.2.2.1)&&decide (0<=t.2.getD i 0/\t.2.getD i 0<=c.2.2.2.2.2.1)
def Bp (x:Ld) (t:Tk):Bool:=decide (t.1.length=x.2.1.length/\t.2.length=x.2.1.length)&&eM (oQ t) x.2.1 0
theorem Qx0 {x:Ld} {t:Tk} (h:Bp x t=true):t.1.length=x.2.1.length/\t.2.length=x.2.1.length:=by
 unfold Bp at h
 simp only [Z8,Zj] at h
 exact h.1
theorem Qf7 {d:Nat} {x:Ld} {t:Tk} (hl:x.2.1.length<=1000):G3 (d+1) x t=some (Bp x t):=by
 rw [US]
 unfold qJ Bp
 by_cases h1:t.1.length=x.2.1.length
 case neg=>rw [show ((((t.1.length:Nat):Int)) != ((x.2.1.length:Nat):Int))=true by simp;omega,Q4,Q4,Z4 (fun h=>h1 h.1)];rfl
 by_cases h2:t.2.length=x.2.1.length
 case neg=>rw [show ((((t.1.length:Nat):Int)) != ((x.2.1.length:Nat):Int))=false by simp;omega,Q5,show ((((t.2.length:Nat):Int)) != ((x.2.1.length:Nat):Int))=true by simp;omega,Q4,Z4 (fun h=>h2 h.2)];rfl
 rw [show ((((t.1.length:Nat):Int)) != ((x.2.1.length:Nat):Int))=false by simp;omega,Q5,show ((((t.2.length:Nat):Int)) != ((x.2.1.length:Nat):Int))=false by simp;omega,Q5,Z5 ⟨h1,h2⟩,Zg]
 refine (Qc (fun (t:Bool) (i:Int)=>(t,i)) x.2.1 (fun c i b k=>aa (oQ t c i) (k b) (some false)) (fun _=>some true) ?_ ?_ (by rw [Q6];omega) false).trans ?_
 .intro ag b i c hx
  have hi:=(Z0 hx).1
  simp only [qI,bV hx,nn,Q3,hx,Q8,Q4]
  rw [nI (l:=t.1) (z:=0) (by omega),nI (l:=t.2) (z:=0) (by omega)]
  simp only [Q8]
  unfold jD
  by_cases a1:t.1.getD i 0 < 0
  .rw [Z5 a1,Q4,Q4,show oQ t c i=false by unfold oQ;rw [Z4 (by omega),Bool.false_and],Q5]
  by_cases a2:t.1.getD i 0 > c.2.2.2.2.1
  .rw [Z4 a1,Q5,Z5 a2,Q4,Q4,show oQ t c i=false by unfold oQ;rw [Z4 (by omega),Bool.false_and],Q5]
  by_cases a3:t.2.getD i 0 < 0
  .rw [Z4 a1,Q5,Z4 a2,Q5,Z5 a3,Q4,Q4,show oQ t c i=false by unfold oQ;rw [Bool.and_comm,Z4 (by omega),Bool.false_and],Q5]
  by_cases a4:t.2.getD i 0 > c.2.2.2.2.2.1
  .rw [Z4 a1,Q5,Z4 a2,Q5,Z4 a3,Q5,Z5 a4,Q4,show oQ t c i=false by unfold oQ;rw [Bool.and_comm,Z4 (by omega),Bool.false_and],Q5]
  .rw [Z4 a1,Q5,Z4 a2,Q5,Z4 a3,Q5,Z4 a4,Q5,show oQ t c i=true by unfold oQ;rw [Z5 (by omega),Z5 (by omega)];rfl,Q4,aN (by omega)]
 .intro ag t;simp only [qI,bD,Q5];rfl
 .rw [qS];cases eM (oQ t) x.2.1 0<;>rfl
theorem Qnf {d:Nat} {x:Ld} {t:Tk} (hl:x.2.1.length<=1000):TO (d+2) x t=some (Bp x t):=by
 rw [e91]
 unfold yB Bp
 by_cases h1:t.1.length=x.2.1.length
 case neg=>rw [show ((((t.1.length:Nat):Int)) != ((x.2.1.length:Nat):Int))=true by simp;omega,Q4,Q4,Z4 (fun h=>h1 h.1)];rfl
 by_cases h2:t.2.length=x.2.1.length
 case neg=>rw [show ((((t.1.length:Nat):Int)) != ((x.2.1.length:Nat):Int))=false by simp;omega,Q5,show ((((t.2.length:Nat):Int)) != ((x.2.1.length:Nat):Int))=true by simp;omega,Q4,Z4 (fun h=>h2 h.2)];rfl
 rw [show ((((t.1.length:Nat):Int)) != ((x.2.1.length:Nat):Int))=false by simp;omega,Q5,show ((((t.2.length:Nat):Int)) != ((x.2.1.length:Nat):Int))=false by simp;omega,Q5,Z5 ⟨h1,h2⟩,Zg]
 refine (Qc (fun (t:Bool) (i:Int)=>(t,i)) x.2.1 (fun c i b k=>aa (oQ t c i) (k b) (some false)) (fun _=>some true) ?_ ?_ (by rw [Q6];omega) false).trans ?_
 .intro ag b i c hx
  have hi:=(Z0 hx).1
  simp only [yz,bV hx,nn,Q3,hx,Q8,Q4]
  rw [nI (l:=t.1) (z:=0) (by omega),nI (l:=t.2) (z:=0) (by omega),Q8,Q8,v8,Q8,v8,Q8,aN (by omega)]
  unfold oQ
  cases decide (0<=t.1.getD i 0/\t.1.getD i 0<=c.2.2.2.2.1) with
  | false=>rfl
  | true=>cases decide (0<=t.2.getD i 0/\t.2.getD i 0<=c.2.2.2.2.2.1)<;>rfl
 .intro ag t;simp only [yz,bD,Q5];rfl
 .rw [qS];cases eM (oQ t) x.2.1 0<;>rfl
theorem Qvd {x:Ld} (h:eW x=true):x.2.1.length<=24:=by
 unfold eW at h
 simp only [Z8,Zj] at h
 exact h.1.1
theorem Qt4 {d:Nat} {x:Ld} {t:Tk} (h:w8 x):TP (d+12) x t=some (eW x&&Bp x t):=by
 rw [e53,Qt3 h,Q8]
 cases hg:eW x with
 | false=>rfl
 | true =>
  have:=Qvd hg
  rw [Q4,show d+11=d+9+2 by omega,Qnf (by omega),Q8,Zg]
def bU (F:List Int):List Int:=fG (fun f _=>decide (f < 0)) (fun _ k=>((k:Nat):Int)) F 0
theorem Be {F:List Int}:(bU F).length<=F.length:=Vd _ _
theorem K8 {d:Nat} {x:Ld} (hl:x.2.1.length<=1000) (hE:x.2.2.2.1.length=x.2.1.length):nR (d+1) x=some (bU x.2.2.2.1):=by
 rw [UT]
 refine (Qc (fun (t:List Int) (i:Int)=>(t,i)) x.2.2.2.1 (fun f i t k=>aa (decide (f < 0)) (aa (Nat.ble ((t.length+[((i:Nat):Int)].length)*8) Q7) (k (t++[((i:Nat):Int)])) none) (k t)) (fun t=>some t) ?_ ?_ (by rw [Q6];omega) []).trans ?_
 .intro ag t i f hx
  have hi:=(Z0 hx).1
  simp only [qK,<- hE,bV hx,nn,Q3,hx,Q8,Q4]
  rw [aN (by omega)]
 .intro ag t;simp only [qK,<- hE,bD,Q5];rfl
 .rw [B8 (c:=fun f _=>decide (f < 0)) (e:=fun (_:Int) (k:Nat)=>((k:Nat):Int)) (w:=8) x.2.2.2.1 0 [] (by simp;omega)]
  rfl
theorem Qt5 {d k:Nat} {x:Ld} {f:Int} (h:x.2.2.2.1[k]? = some f):TQ (d+1) x ((k:Nat):Int)=some (decide (f < 0)):=by
 rw [e92,nn,Q4,Q3,h,Q8]
theorem Jd {d:Nat} {x:Ld} (hl:x.2.1.length<=1000) (hE:x.2.2.2.1.length=x.2.1.length):Eo (d+2) x=some (bU x.2.2.2.1):=by
 rw [e54]
 refine (Qc (fun (t:List Int) (i:Int)=>(t,i)) x.2.2.2.1 (fun f i t k=>aa (decide (f < 0)) (aa (Nat.ble ((t.length+[((i:Nat):Int)].length)*8) Q7) (k (t++[((i:Nat):Int)])) none) (k t)) (fun t=>some t) ?_ ?_ (by rw [Q6];omega) []).trans ?_
 .intro ag t i f hx
  have hi:=(Z0 hx).1
  simp only [yC,<- hE,bV hx,Q4]
  rw [Qt5 hx,Q8,aN (by omega)]
 .intro ag t;simp only [yC,<- hE,bD,Q5];rfl
 .rw [B8 (c:=fun f _=>decide (f < 0)) (e:=fun (_:Int) (k:Nat)=>((k:Nat):Int)) (w:=8) x.2.2.2.1 0 [] (by simp;omega)]
  rfl
theorem Qng {l:List aA} (T:Tr l) {i:Int} (hi:vI l i) (hp:0<=bQ l i):pW l (bQ l i) < pW l i:=by
 have hv:=Hq (l:=l) (i:=i) hp
 obtain ⟨A,B,e⟩:=Vo T _ (bQ l i) (Zd _) hv
 rw [Jx T hv] at e
 have hm:i∈(cj l (bQ l i)).flatMap (iY l):=List.mem_flatMap.2 ⟨i,(Bl T hv).2 ⟨hi,rfl⟩,by rw [Jx T hi];simp⟩
 obtain ⟨m,hm⟩:=List.getElem?_of_mem hm
 have au:=(Z0 hm).1
 have h1:(aG l)[A.length]? = some (bQ l i):=by rw [e];simp
 have h2:(aG l)[A.length+1+m]? = some i:=by
  rw [e,List.append_assoc,Zq (by omega),show A.length+1+m - A.length=m+1 by omega,List.cons_append,List.getElem?_cons_succ,List.getElem?_append_left au,hm]
 unfold pW
 rw [sL (rT T) h1,sL (rT T) h2]
 omega
structure Lk (x:Ld):Prop where
 fL:x.2.1.length<=24
 pl:x.2.2.1.length=x.2.1.length
 fl:x.2.2.2.1.length=x.2.1.length
 pd:∀ (k:Nat) (p:Int),x.2.2.1[k]? = some p->p < (k:Int)
 bur:∀ c∈x.2.1,c.2.2.2.2.1<=1000000/\c.2.2.2.2.2.1<=1000000
theorem vV {x:Ld} (h:eW x=true):Lk x:=by
 have iI:=Qvd h
 unfold eW DP at h
 simp only [Z8,Zj] at h
 obtain ⟨_,hg,s1,s2,s3,_⟩:=h
 have G:=rV hg
 have T:=G.tr
 have e1:x.2.1.length=(aG (eR x).2.1).length:=by rw [s1];show ((aG (eR x).2.1).map _).length=_;rw [List.length_map]
 refine ⟨iI,?_,?_,?_,?_⟩
 .rw [e1,s2];show ((aG (eR x).2.1).map _).length=_;rw [List.length_map]
 .rw [e1,s3];show ((aG (eR x).2.1).map _).length=_;rw [List.length_map]
 .intro k p hp
  rw [s2] at hp
  have HB:((aG (eR x).2.1).map fun i=>pW (eR x).2.1 (bQ (eR x).2.1 i))[k]? = some p:=hp
  rw [List.getElem?_map] at HB
  obtain ⟨i,hi,rfl⟩:=Option.map_eq_some_iff.1 HB
  have hv:=(jT T).1 (Zc hi)
  have hk:pW (eR x).2.1 i=(k:Int):=sL (rT T) hi
  rcases Int.lt_or_le (bQ (eR x).2.1 i) 0 with h0 | h0
  .rw [vg T h0];omega
  .have:=Qng T hv h0;omega
 .intro c hc
  have hm:c∈(eR x).2.1:=Bb.mem_iff.2 hc
  have:=G.cl
  unfold k_ at this
  simp only [Z8] at this
  have:=Z3 this.2.2.2.2.2.2.2.1 c hm
  unfold nh at this
  simp only [Zj] at this
  omega
abbrev Pk:=Int×Int×Int×Int×Int×Int
def JE (n:Int):Bool:=decide (0<=n/\n<=65535)
def kq (p:Pk):Bool:=decide (1<=p.1/\p.1<=100000/\0<=p.2.1/\p.2.1<=65535/\0<=p.2.2.1/\p.2.2.1<=65535/\0<=p.2.2.2.1/\p.2.2.2.1<=65535/\0<=p.2.2.2.2.1/\p.2.2.2.2.1<=65535/\1<=p.2.2.2.2.2/\p.2.2.2.2.2<=1500)
theorem Qde {d:Nat} {x:Pk}:Cw (d+2) x=some (kq x):=by
 rw [UU,LV,Q8]
 refine (Qc (fun (t:Bool) (i:Int)=>(t,i)) [x.2.1,x.2.2.1,x.2.2.2.1,x.2.2.2.2.1] (fun y _ t k=>aa (JE y) (k t) (some false)) (qL (d+1) x) ?_ ?_ (by rw [Q6];simp) false).trans ?_
 .intro ag t i y hy
  have hi:i < 4:=by have:=(Z0 hy).1;simpa using this
  have h4:decide ((i:Int) < 4)=true:=by simp;omega
  simp only [zI,h4,nn,Q3,Q4]
  rw [hy,Q8,aN (by omega)]
  unfold JE
  by_cases h1:y < 0
  .rw [Z5 h1,Q4,Z4 (by omega),Q5]
  .rw [Z4 h1,Q5]
   by_cases h2:y > 65535
   .rw [Z5 h2,Q4,Z4 (by omega),Q5]
   .rw [Z4 h2,Q5,Z5 (by omega),Q4]
 .intro ag t;rfl
 .rw [CD (p:=JE)]
  unfold qL
  simp only [u_]
  congr 1
  rw [Bool.eq_iff_iff]
  simp only [List.all_cons,List.all_nil,Bool.and_true,JE,kq]
  simp
  omega
theorem Qt6 {d:Nat} {n:Int}:Jl (d+2) n=some (JE n):=by
 rw [e93,v8,Q8];rfl
theorem Qt7 {d:Nat} {x:Pk}:TS (d+3) x=some (kq x):=by
 rw [e56]
 simp only [v8,Qt6,Q8,u_]
 congr 1
 rw [Bool.eq_iff_iff]
 simp [JE,kq]
 omega
theorem VY {a b:Nat} (h:a<=b):Nat.ble a b=true:=by rw [Nat.ble_eq];exact h
def Qzw (l:List Pk):Prop:=∀ p∈l,kq p=true
def Bq (l:List Pk) (id:Int):Bool:=l.any fun p=>p.1==id
theorem Qhm {β:Type} {id:Int} {yes:Nat->Option β} {fin:Int->Option β} (hy:∀ i j,yes i=yes j):∀ (l:List Pk) (i:Nat) (t:Int),
  er (fun (x:Pk) i (t:Int) k=>aa (x.1==id) (yes i) (k t)) fin l i t=if Bq l id then yes 0 else fin t
 | [],i,t=>by simp [er,Bq]
 | x::r,i,t=>by
  simp only [er]
  cases h:x.1==id with
  | true=>simp only [Q4,Bq,List.any_cons,h,Bool.true_or,if_true];exact hy i 0
  | false=>simp only [Q5,Bq,List.any_cons,h,Bool.false_or];exact Qhm hy r (i+1) t
theorem Qx1 {d:Nat} {l:List Pk} {id:Int} (hl:l.length < 4194304):G9 (d+4) l id=some (Bq l id):=by
 rw [UZ]
 refine (Qc (fun (t:Int) (i:Int)=>(t,i)) l (fun (x:Pk) i (t:Int) k=>aa (x.1==id) (some true) (k t)) (fun _=>some false) ?_ ?_ (by rw [Q6];exact hl) 0).trans ?_
 .intro ag t i x hx
  have hi:=(Z0 hx).1
  simp only [dR,bV hx,nn,Q3,hx,Q8,Q4]
  rw [aN (by omega)]
  first | done | rfl | simp
 .intro ag t;simp only [dR,bD,Q5];rfl
 .rw [Qhm (fun _ _=>rfl)];cases Bq l id<;>rfl
def JF (l:List Pk) (x:Pk) (i:Nat):Bool:=kq x && !Bq (l.take i) x.1
def Mq (l:List Pk):Bool:=eM (JF l) l 0
theorem Qve (l:List Pk):∀ (r pre:List Pk),l=pre++r->(eM (JF l) r pre.length=true↔(∀ x∈r,kq x=true)/\(∀ x∈r,∀ y∈pre,y.1≠x.1)/\(r.map fun p=>p.1).Nodup)
 | [],pre,_=>by simp [eM]
 | x::r,pre,h=>by
  have ih:=Qve l r (pre++[x]) (by rw [h];simp)
  simp only [Zf,Z9,Zb,Zo] at ih
  have ht:l.take pre.length=pre:=by rw [h];simp
  simp only [eM,Z8,ih,JF,ht,Bool.not_eq_true',List.map_cons,List.nodup_cons,List.mem_cons,forall_eq_or_imp,Zh,List.mem_singleton]
  have hh:Bq pre x.1=false↔∀ y∈pre,y.1≠x.1:=by
   unfold Bq;rw [List.any_eq_false];simp
  rw [hh]
  constructor
  .rintro ⟨⟨a,b⟩,c,e,f⟩
   refine ⟨⟨a,c⟩,⟨b,fun z hz y hy=>e z hz y (.inl hy)⟩,fun hm=>?_,f⟩
   obtain ⟨z,hz,hzx⟩:=List.mem_map.1 hm
   exact e z hz x (.inr (.inl rfl)) hzx.symm
  .rintro ⟨⟨a,c⟩,⟨b,e⟩,g,f⟩
   refine ⟨⟨a,b⟩,c,fun z hz y hy=>?_,f⟩
   rcases hy with hy | hy | hy
   .exact e z hz y hy
   .subst hy;exact fun he=>g (List.mem_map.2 ⟨z,hz,he.symm⟩)
   .simp at hy
theorem Qzx (l:List Pk):Mq l=true↔Qzw l/\(l.map fun p=>p.1).Nodup:=by
 have:=Qve l l [] rfl
 simp only [Zb,List.not_mem_nil,false_imp_iff,implies_true,true_and] at this
 exact this
theorem Qnh {d:Nat} {l:List Pk} (hl:l.length < 4194304):He (d+5) l=some (Mq l):=by
 rw [U0]
 refine (Qc (fun (t:Bool) (i:Int)=>(t,i)) l (fun x i t k=>aa (JF l x i) (k t) (some false)) (fun _=>some true) ?_ ?_ (by rw [Q6];exact hl) false).trans ?_
 .intro ag t i x hx
  have hi:=(Z0 hx).1
  simp only [qN,bV hx,nn,Q3,hx,Q8,Q4,Qde]
  rw [aN (by omega),VY (show i<=l.length by omega),Q4,Qx1 (by simp;omega),Q8]
  unfold JF
  cases kq x<;>cases Bq (l.take i) x.1<;>rfl
 .intro ag t;simp only [qN,bD,Q5];rfl
 .rw [qS];unfold Mq;cases eM (JF l) l 0<;>rfl
abbrev Rg:=Ld×Tk×List (List Pk)×Int×Int
def Mr (l:List (List Pk)):Prop:=l.length<=1048576/\∀ r∈l,r.length<=1048576
theorem JG {rows:List (List Pk)} {k:Nat} {row:List Pk} (hx:rows[k]? = some row):(rows.take (k+1)).flatten=(rows.take k).flatten++row:=by
 have hk:=(Z0 hx).1
 have e:=(Z0 hx).2
 rw [List.take_succ_eq_append_getElem hk,List.flatten_append,e]
 simp
theorem VZ {rows:List (List Pk)} (k:Nat):(rows.take k).flatten.length<=rows.flatten.length:=by
 have:rows.flatten=(rows.take k).flatten++(rows.drop k).flatten:=by rw [<- List.flatten_append,List.take_append_drop]
 rw [this,Zf];omega
theorem Qhn {d:Nat} {l:List (List Pk)} {n:Int} (h0:0<=n) (h1:n<=1048576) (hl:l.length<=9223372036854775807) (hr:∀ r∈l,r.length<=9223372036854775807):Ok (g23 (d+2) l n) fun r=>r < 0\/(0<=r/\Mr l/\l.flatten.length<=1048576/\0<=r/\r<=1048576):=by
 rw [e23,wr (by omega) (by omega)]
 by_cases h:n - ((l.length:Nat):Int) < 0
 .rw [Z5 h,Q4];exact Ok.some (Or.inl (by omega))
 rw [Z4 h,Q5]
 refine Pz (fun (t:Int×Int) (i:Int)=>(t.1,t.2,i)) l (fun k t=>(0<=t.1/\t.1+(((l.take k).flatten.length:Nat):Int)<=1048576)/\∀ (j:Nat) r,j < k->l[j]? = some r->r.length<=1048576) ?_ ?_ Qd 0 (n - ((l.length:Nat):Int),0) (by rw [Q6];omega) (by omega) ⟨⟨by simp only;omega,by simp only [List.take_zero,List.flatten_nil,Zb];omega⟩,fun j r hj=>absurd hj (by omega)⟩
 .rintro ag ⟨a,b⟩ k row hx ⟨⟨a0,a1⟩,hp⟩ eA
  simp only at a0 a1
  have hk:=(Z0 hx).1
  have cz:=hr row (Zc hx)
  simp only [xu,bV hx,nn,Q3,hx,Q8,Q4]
  rw [e52,wr (by omega) (by omega)]
  by_cases h5:a - ((row.length:Nat):Int) < 0
  .rw [Z5 h5,Q4,Q8,Z5 (show (-1:Int) < 0 by omega),Q4];exact Ok.some (Or.inl (by omega))
  .rw [Z4 h5,Q5,Q8,Z4 h5,Q5,aN (by omega)]
   have h6:(l.take (k+1)).flatten.length=(l.take k).flatten.length+row.length:=by rw [JG hx,Zf]
   refine eA (a - ((row.length:Nat):Int),b) ⟨⟨by simp only;omega,by simp only;omega⟩,fun j r hj hg=>?_⟩
   by_cases e:j=k
   .subst e;rw [hx] at hg;injection hg with hg;subst hg;omega
   .exact hp j r (by omega) hg
 .rintro ag ⟨a,b⟩ ⟨⟨a0,a1⟩,hp⟩
  simp only at a0 a1
  simp only [xu,bD,Q5]
  rw [List.take_length] at a1
  refine Ok.some (Or.inr ⟨a0,⟨by omega,fun r hr=>?_⟩,by omega,a0,by omega⟩)
  obtain ⟨j,hj⟩:=List.getElem?_of_mem hr
  exact hp j r (Z0 hj).1 hj
def Ms (r:Rg):Prop:=Bo r.1/\r.2.1.1.length<=1048576/\r.2.1.2.length<=1048576/\Mr r.2.2.1
def S5 (r:Rg):Prop:=S3 r.1/\(r.2.1.1.length<=9223372036854775807/\r.2.1.2.length<=9223372036854775807)/\r.2.2.1.length<=9223372036854775807/\∀ q∈r.2.2.1,q.length<=9223372036854775807
theorem Qx2 {d:Nat} {r:Rg} (h:S5 r):Ok (g6 (d+3) r 1048576) fun z=>z < 0\/(0<=z/\z<=1048576/\Ms r/\r.2.2.1.flatten.length<=1048576):=by
 obtain ⟨z1,z2,z3,z4⟩:=h
 have no:Ok (some (-1:Int)) fun z=>z < 0\/(0<=z/\z<=1048576/\Ms r/\r.2.2.1.flatten.length<=1048576):=Ok.some (Or.inl (by omega))
 rw [e6]
 refine Ok.bind (Qnb (by omega) (by omega) z1) fun r3 g3=>?_
 refine Ok.aa (fun _=>no) (fun CI=>?_)
 simp only [decide_eq_false_iff_not] at CI
 have g3:=g3.resolve_left CI
 refine Ok.bind (Qne (by omega) (by omega) z2.1 z2.2) fun r4 g4=>?_
 refine Ok.aa (fun _=>no) (fun EJ=>?_)
 simp only [decide_eq_false_iff_not] at EJ
 have g4:=g4.resolve_left EJ
 refine Ok.bind (Qhn (by omega) (by omega) z3 z4) fun r5 g5=>?_
 refine Ok.aa (fun _=>no) (fun Mp=>?_)
 simp only [decide_eq_false_iff_not] at Mp
 have g5:=g5.resolve_left Mp
 exact Ok.some (Or.inr ⟨g5.1,g5.2.2.2.2,⟨g3.2.2,g4.2.2.1,g4.2.2.2,g5.2.1⟩,g5.2.2.1⟩)
theorem Qk8 {d:Nat} {l:List Pk} (hl:l.length<=1048576):Td (d+2) l=some l:=by
 rw [e69,nn,Q4,Q4,Q3,show (Nat.ble l.length l.length&&Nat.ble (l.length*48) Q7)=true by rw [Z8,Nat.ble_eq,Nat.ble_eq];unfold Q7;omega,Q4]
 refine Ok.val (mI (fun j (s:Int×List Pk)=>∃ k:Nat,k+j=l.length/\s.1=(k:Int)/\s.2=l.take k++List.replicate (l.length - k) ((0,0,0,0,0,0):Pk)) ?_ _ l.length _ (by rw [Q6];omega) ⟨0,by omega,rfl,by simp⟩)
 rintro j ⟨n,r⟩ ag ⟨k,hk,h1,h2⟩ eA
 simp only at h1 h2
 subst h1
 have kI:r.length=l.length:=by rw [h2];simp;omega
 simp only [Ea]
 rcases Nat.lt_or_ge k l.length with au | tD
 .have hx:=Z6 au
  rw [bV hx,Q4,nn,Q4,Q3,hx,Q8,Tc,Q8,Q4,Qo (by omega),Q4,Z6 (by omega),Q8,aN (by omega)]
  exact eA (j - 1) _ (by omega) ⟨k+1,by omega,rfl,by rw [h2];exact Mo hx⟩
 .have:k=l.length:=by omega
  subst this
  rw [bD,Q5]
  unfold D_
  exact Ok.some (by rw [h2];simp)
theorem Qho {d:Nat} {l:List (List Pk)} (h:Mr l):Te (d+3) l=some l:=by
 obtain ⟨hl,hr⟩:=h
 rw [e30,nn,Q4,Q4,Q3,show (Nat.ble l.length l.length&&Nat.ble (l.length*24) Q7)=true by rw [Z8,Nat.ble_eq,Nat.ble_eq];unfold Q7;omega,Q4]
 refine Ok.val (mI (fun j (s:Int×List (List Pk))=>∃ k:Nat,k+j=l.length/\s.1=(k:Int)/\s.2=l.take k++List.replicate (l.length - k) ([]:List Pk)) ?_ _ l.length _ (by rw [Q6];omega) ⟨0,by omega,rfl,by simp⟩)
 rintro j ⟨n,r⟩ ag ⟨k,hk,h1,h2⟩ eA
 simp only at h1 h2
 subst h1
 have kI:r.length=l.length:=by rw [h2];simp;omega
 simp only [Ec]
 rcases Nat.lt_or_ge k l.length with au | tD
 .have hx:=Z6 au
  rw [bV hx,Q4,nn,Q4,Q3,hx,Q8,Qk8 (hr _ (List.getElem_mem au)),Q8,Q4,Qo (by omega),Q4,Z6 (show k < r.length by omega),Q8,aN (by omega)]
  exact eA (j - 1) _ (by omega) ⟨k+1,by omega,rfl,by rw [h2];exact Mo hx⟩
 .have:k=l.length:=by omega
  subst this
  rw [bD,Q5]
  unfold Eb
  exact Ok.some (by rw [h2];simp)
theorem Qx3 {d:Nat} {r:Rg} (h:Ms r):g8 (d+4) r=some r:=by
 obtain ⟨h1,h2,h3,h4⟩:=h
 rw [e8,Qna h1,Q8,show d+3=d+1+2 by omega,Qnd h2 h3,Q8,show d+1+2=d+3 by omega,Qho h4,Q8]
theorem Qk9 {d:Nat} {l:List Pk} (hl:l.length<=2000000):Tn (d+2) l l=some true:=by
 rw [e80,bne_self_eq_false,Q5]
 refine (Qc (fun (t:Bool) (i:Int)=>(t,i)) l (fun x i t k=>k t) (Eg (d+1)) ?_ ?_ (by rw [Q6];omega) false).trans ?_
 .intro ag t i x hx;have hi:=(Z0 hx).1;simp only [xI,bV hx,nn,Q3,hx,Q8,Q4]
  rw [Tm]
  simp only [bne_self_eq_false,Q5,Zl,Q8]
  rw [aN (by omega)]
 .intro ag t;simp only [xI,bD,Q5]
 .rw [w7 (f:=fun _ _ t=>t)];rfl
theorem Qhp {d:Nat} {l:List (List Pk)} (h:Mr l):To (d+3) l l=some true:=by
 obtain ⟨hl,hr⟩:=h
 rw [e36,bne_self_eq_false,Q5]
 refine (Qc (fun (t:Bool) (i:Int)=>(t,i)) l (fun x i t k=>k t) (Eh (d+2)) ?_ ?_ (by rw [Q6];omega) false).trans ?_
 .intro ag t i x hx;have hi:=(Z0 hx).1;simp only [xK,bV hx,nn,Q3,hx,Q8,Q4]
  have:=hr _ (Zc hx)
  rw [Qk9 (by omega),Q8,Zl,Q5,aN (by omega)]
 .intro ag t;simp only [xK,bD,Q5]
 .rw [w7 (f:=fun _ _ t=>t)];rfl
theorem Qpu {d:Nat} {r:Rg} (h:Ms r):g10 (d+4) r r=some true:=by
 obtain ⟨h1,h2,h3,h4⟩:=h
 rw [e10,Qn9 h1,Q8,Zl,Q5,show d+3=d+1+2 by omega,Qnc (by omega) (by omega),Q8,Zl,Q5,show d+1+2=d+3 by omega,Qhp h4,Q8,Zl,Q5,bne_self_eq_false,Q5,bne_self_eq_false,Q5]
theorem Qt9 {d:Nat} {rows:List (List Pk)} (hl:rows.length<=1000) (hs:rows.flatten.length<=100000):Hf (d+2) rows=some rows.flatten:=by
 rw [U3]
 have lp1:∀ (m k fuel:Nat),k+m=rows.length->m < fuel->Q9 (mD d rows (zJ d)) fuel ((rows.take k).flatten,((k:Nat):Int))=some rows.flatten:=by
  intro m
  induction m with
  | zero =>
   intro k fuel e h
   obtain ⟨g,rfl⟩:∃ g,fuel=g+1:=⟨fuel - 1,by omega⟩
   obtain rfl:k=rows.length:=by omega
   simp only [Q9,mD,bD,Q5]
   rw [List.take_length];rfl
  | succ m ih =>
   intro k fuel e h
   obtain ⟨g,rfl⟩:∃ g,fuel=g+1:=⟨fuel - 1,by omega⟩
   have hk:k < rows.length:=by omega
   have hx:=Z6 hk
   have h2:=VZ (rows:=rows) (k+1)
   rw [JG hx,Zf] at h2
   simp only [Q9,mD,bV hx,nn,Q3,hx,Q8,Q4]
   rw [room (by omega),Q4,aN (by omega),<- JG hx]
   exact ih (k+1) g (by omega) (by omega)
 have lp2:∀ (m k fuel:Nat),k+m=rows.length->m < fuel->Q9 (iX d rows (zK d)) fuel ((rows.take k).flatten,((k:Nat):Int))=some rows.flatten:=by
  intro m
  induction m with
  | zero =>
   intro k fuel e h
   obtain ⟨g,rfl⟩:∃ g,fuel=g+1:=⟨fuel - 1,by omega⟩
   obtain rfl:k=rows.length:=by omega
   simp only [Q9,iX,bD,Q5]
   rw [List.take_length];rfl
  | succ m ih =>
   intro k fuel e h
   obtain ⟨g,rfl⟩:∃ g,fuel=g+1:=⟨fuel - 1,by omega⟩
   have hk:k < rows.length:=by omega
   have hx:=Z6 hk
   have h2:=VZ (rows:=rows) (k+1)
   rw [JG hx,Zf] at h2
   simp only [Q9,iX,bV hx,nn,Q3,hx,Q8,Q4]
   rw [room (by omega),Q4,aN (by omega),<- JG hx]
   exact ih (k+1) g (by omega) (by omega)
 have lp0:∀ (m k fuel:Nat),k+m=rows.length->m < fuel->Q9 (mG d rows (mE d rows)) fuel ((((rows.take k).flatten.length:Nat):Int),((k:Nat):Int))=mE d rows ((rows.flatten.length:Nat):Int):=by
  intro m
  induction m with
  | zero =>
   intro k fuel e h
   obtain ⟨g,rfl⟩:∃ g,fuel=g+1:=⟨fuel - 1,by omega⟩
   obtain rfl:k=rows.length:=by omega
   simp only [Q9,mG,bD,Q5]
   rw [List.take_length]
  | succ m ih =>
   intro k fuel e h
   obtain ⟨g,rfl⟩:∃ g,fuel=g+1:=⟨fuel - 1,by omega⟩
   have hk:k < rows.length:=by omega
   have hx:=Z6 hk
   have h2:=VZ (rows:=rows) (k+1)
   have h3:=JG hx
   have h4:(rows.take (k+1)).flatten.length=(rows.take k).flatten.length+(rows[k]).length:=by rw [h3,Zf]
   simp only [Q9,mG,bV hx,nn,Q3,hx,Q8,Q4]
   rw [wr (n:=(((rows.take k).flatten.length:Nat):Int)+(((rows[k]).length:Nat):Int)) (by omega) (by omega),Z4 (by omega),Q5,aN (by omega),show (((rows.take k).flatten.length:Nat):Int)+(((rows[k]).length:Nat):Int)=(((rows.take (k+1)).flatten.length:Nat):Int) by omega]
   exact ih (k+1) g (by omega) (by omega)
 refine (lp0 rows.length 0 Qd (by omega) (by rw [Q6];omega)).trans ?_
 unfold mE
 have e0:IntKind.i64.wrap ((0:Int) - ((0:Nat):Int))=0:=by rw [wr (by omega) (by omega)];rfl
 rw [Z4 (by omega),Q5,e0,Int.sub_zero,wr (by omega) (by omega)]
 by_cases h:rows.flatten.length=0
 .rw [Z4 (by omega),Q5]
  exact lp2 rows.length 0 Qd (by omega) (by rw [Q6];omega)
 .rw [Z5 (by omega),Q4,show Nat.ble 0 0=true from rfl,Q4,nn,Zg,Z5 (by unfold Q7;omega),Q4,Q3,List.length_replicate,show Nat.ble (rows.flatten.length*48) Q7=true by rw [Nat.ble_eq];unfold Q7;omega,Q4]
  rw [show decide (0<=((0:Nat):Int))=true from rfl,Q4,show (((0:Nat):Int)).toNat=0 from rfl,show Nat.ble 0 rows.flatten.length=true by rw [Nat.ble_eq];omega,Q4,List.take_zero]
  exact lp1 rows.length 0 Qd (by omega) (by rw [Q6];omega)
def Mt (f:dY) (p:Pk):Bool:=(IntKind.i64.wrap ((BitVec.ofInt IntKind.i64.bits (([p.2.1,p.2.2.1,p.2.2.2.1,p.2.2.2.2.1]:List Int).getD f.2.1.toNat 0) &&& BitVec.ofInt IntKind.i64.bits f.2.2.1).toNat:Int))==f.2.2.2.1
theorem Qx4 {d:Nat} {f:dY} {p:Pk} (h:0<=f.2.1/\f.2.1<=3):G6 (d+2) f p=some (Mt f p):=by
 rw [UW,LV,Q8,Z5 h.1,Q4,nI (l:=[p.2.1,p.2.2.1,p.2.2.2.1,p.2.2.2.2.1]) (z:=0) (by simp only [Z9,Zb];omega),Q8]
 rfl
theorem Qpv {d:Nat} {f:dY} {p:Pk} (h:0<=f.2.1/\f.2.1<=3):Gh (d+2) f p=some (Mt f p):=by
 have h4:f.2.1.toNat < ([p.2.1,p.2.2.1,p.2.2.2.1,p.2.2.2.2.1]:List Int).length:=by simp only [Z9,Zb];omega
 rw [TU,TT,Z5 h.1,Q4,Qo h4,Q4,nI (l:=[p.2.1,p.2.2.1,p.2.2.2.1,p.2.2.2.2.1]) (z:=0) h4,Q8,Q8]
 rfl
structure Lr (x:Ld):Prop where
 fo:∀ f∈x.2.2.2.2.2.2.1,0<=f.2.1/\f.2.1<=3
 tl:x.2.2.2.2.2.2.2.1.length=x.2.2.2.2.2.2.1.length
 f16:x.2.2.2.2.2.2.1.length<=16
 ai:∀ c∈x.2.1,c.2.2.2.2.2.2.2<=60
 rat:∀ c∈x.2.1,1<=c.2.2.1/\c.2.2.1<=100000/\1<=c.2.2.2.1/\c.2.2.2.1<=100000
 l0:∀ c∈x.2.1,0<=c.2.2.2.2.2.2.2
 bul:∀ c∈x.2.1,1500<=c.2.2.2.2.1/\1500<=c.2.2.2.2.2.1/\0<=c.2.2.2.2.2.2.1/\c.2.2.2.2.2.2.1<=7
theorem Jb {x:Ld} (h:eW x=true):Lr x:=by
 unfold eW DP at h
 simp only [Z8,Zj] at h
 obtain ⟨hz,hg,s1,s2,s3,s4,s5,s6,s7⟩:=h
 have G:=rV hg
 have hc:=G.cl
 unfold k_ at hc
 simp only [Z8] at hc
 obtain ⟨_,_,_,_,_,h6,h7,h8,h9⟩:=hc
 have hm:∀ c∈x.2.1,c∈(eR x).2.1:=fun c hc=>Bb.mem_iff.2 hc
 refine ⟨fun f hf=>?_,?_,hz.2,fun c hc=>?_,fun c hc=>?_,fun c hc=>?_,fun c hc=>?_⟩
 .have:=(G.Mb f hf).2.2
  unfold zZ at this
  simp only [Z8,Zj] at this
  omega
 .rw [s6]
  show (x.2.2.2.2.2.2.1.map _).length=_
  rw [List.length_map]
 .have:=Z3 h9 c (hm c hc)
  unfold nZ at this
  split at this
  .simp only [Zj] at this;omega
  .simp only [beq_iff_eq] at this;omega
 .have:=Z3 h6 c (hm c hc)
  unfold mJ at this
  simp only [Zj] at this
  omega
 .have:=Z3 h9 c (hm c hc)
  unfold nZ at this
  split at this
  .simp only [Zj] at this;omega
  .simp only [beq_iff_eq] at this;omega
 .have:=Z3 h8 c (hm c hc)
  unfold nh at this
  simp only [Zj] at this
  omega
def vk (fs:List dY) (p:Pk):Int:=fB (fun f=>Mt f p) fs 0
theorem Qf8 {d:Nat} {fs:List dY} {p:Pk} (hl:fs.length<=1000) (h:∀ f∈fs,0<=f.2.1/\f.2.1<=3):G8 (d+3) fs p=some (vk fs p):=by
 rw [UX]
 refine (Qc (fun (t:Int) (i:Int)=>(t,i)) fs (fun f i t k=>aa (Mt f p) (some ((i:Nat):Int)) (k t)) (fun _=>some (-1)) ?_ ?_ (by rw [Q6];omega) 0).trans (Ey fs 0 _)
 .intro ag t i f hx
  have hi:=(Z0 hx).1
  simp only [qM,bV hx,nn,Q3,hx,Q8,Q4]
  rw [Qx4 (h f (Zc hx)),Q8,aN (by omega)]
 .intro ag t;simp only [qM,bD,Q5];rfl
theorem Qpw {d:Nat} {fs:List dY} {p:Pk} (hl:fs.length<=1000) (h:∀ f∈fs,0<=f.2.1/\f.2.1<=3):TW (d+3) fs p=some (vk fs p):=by
 rw [e94]
 refine (Qc (fun (t:Int) (i:Int)=>(t,i)) fs (fun f i t k=>aa (Mt f p) (some ((i:Nat):Int)) (k t)) (fun _=>some (-1)) ?_ ?_ (by rw [Q6];omega) 0).trans (Ey fs 0 _)
 .intro ag t i f hx
  have hi:=(Z0 hx).1
  simp only [yE,bV hx,nn,Q3,hx,Q8,Q4]
  rw [Qpv (h f (Zc hx)),Q8,aN (by omega)]
 .intro ag t;simp only [yE,bD,Q5];rfl
def cG (x:Ld) (p:Pk):Int:=if vk x.2.2.2.2.2.2.1 p>=0 then x.2.2.2.2.2.2.2.1.getD (vk x.2.2.2.2.2.2.1 p).toNat 0 else x.2.2.2.2.2.2.2.2
theorem V0 {fs:List dY} {p:Pk} (h:0<=vk fs p):vk fs p < ((fs.length:Nat):Int):=by
 obtain ⟨j,y,h1,h2,h3,_⟩:=Js h
 have:=(Z0 h2).1
 unfold vk at *
 omega
theorem ZQ {d:Nat} {x:Ld} {p:Pk} (R:Lr x):Cy (d+4) x p=some (cG x p):=by
 have FY:=R.f16
 rw [UY,Qf8 (by omega) R.fo,Q8]
 unfold cG
 by_cases h:vk x.2.2.2.2.2.2.1 p>=0
 .have:=V0 h
  have:=R.tl
  rw [Z5 h,Q4,Q4,nI (l:=x.2.2.2.2.2.2.2.1) (z:=0) (by omega),Q8,if_pos h]
 .rw [Z4 h,Q5,if_neg h]
theorem ZU {d:Nat} {x:Ld} {p:Pk} (R:Lr x):O9 (d+4) x p=some (cG x p):=by
 have FY:=R.f16
 rw [e57,Qpw (by omega) R.fo,Q8]
 unfold cG
 by_cases h:vk x.2.2.2.2.2.2.1 p>=0
 .have:=V0 h
  have:=R.tl
  rw [Z5 h,Q4,Q4,nI (l:=x.2.2.2.2.2.2.2.1) (z:=0) (by omega),Q8,if_pos h]
 .rw [Z4 h,Q5,if_neg h]
def mZ (x:Ld) (w:Int):Int:=(aU x.2.1 w).2.2.2.2.2.2.2
def Ad (x:Ld) (w:Int) (row:List Pk):Bool := !decide (((row.length:Nat):Int) > mZ x w)&&row.all (fun p=>kq p&&(cG x p==w))
def PK (r:Rg):Bool:=decide (r.2.2.1.length=(bU r.1.2.2.2.1).length)&&(decide (-1<=r.2.2.2.1/\r.2.2.2.1 < (((bU r.1.2.2.2.1).length:Nat):Int))&&decide (0<=r.2.2.2.2/\r.2.2.2.2<=1000000))
def j7 (r:Rg):Bool:=eW r.1&&(Bp r.1 r.2.1&&(PK r&&(eM (fun w i=>Ad r.1 w (r.2.2.1.getD i [])) (bU r.1.2.2.2.1) 0&&Mq r.2.2.1.flatten)))
theorem FU {F:List Int} {w:Int} (h:w∈bU F):0<=w/\w < ((F.length:Nat):Int):=by
 obtain ⟨j,x,h1,h2,h3⟩:=Ve _ _ h
 have:=(Z0 h1).1
 omega
theorem V3 {l:List (List Pk)} {i:Nat} (h:i < l.length):l[i]? = some (l.getD i []):=by
 rw [Zr,Z6 h];rfl
theorem Qpz {x:Ld} {rows:List (List Pk)} {W:List Int} (R:Lr x) (hW:∀ w∈W,vI x.2.1 w) (hl:rows.length=W.length) (h:eM (fun w i=>Ad x w (rows.getD i [])) W 0=true):(∀ row∈rows,row.length<=60)/\∀ row∈rows,∀ p∈row,kq p=true:=by
 rw [sK] at h
 have key:∀ row∈rows,row.length<=60/\∀ p∈row,kq p=true:=by
  intro row hr
  obtain ⟨i,hi⟩:=List.getElem?_of_mem hr
  have au:=(Z0 hi).1
  have hw:=Z6 (l:=W) (i:=i) (by omega)
  have:=h i _ hw
  rw [Zo,Zr,hi] at this
  unfold Ad mZ at this
  simp only [Option.getD_some,Z8,Bool.not_eq_true',decide_eq_false_iff_not,List.all_eq_true] at this
  have hv:=hW _ (Zc hw)
  have Jf:=R.ai _ (Zc (fF hv))
  exact ⟨by omega,fun p hp=>(this.2 p hp).1⟩
 exact ⟨fun row hr=>(key row hr).1,fun row hr=>(key row hr).2⟩
theorem PL {B:Nat}:∀ {rows:List (List Pk)},(∀ row∈rows,row.length<=B)->rows.flatten.length<=rows.length*B
 | [],_=>by simp
 | r::rows,h=>by
  have:=PL (B:=B) (rows:=rows) fun row hr=>h row (by simp [hr])
  have:=h r (by simp)
  rw [Ze,Zf,Z9,Nat.add_mul,Nat.one_mul]
  omega
theorem ZV {d:Nat} {r:Rg} (h:w8 r.1):Pd (d+28) r=some (j7 r):=by
 rw [e70,Qn5 h,Q8]
 unfold j7 PK zQ
 cases hg:eW r.1 with
 | false=>rfl
 | true =>
  have L:=vV hg
  have R:=Jb hg
  have iI:=L.fL
  have hf:=L.fl
  have hv:=Be (F:=r.1.2.2.2.1)
  rw [Zl,Q5,show d+27=d+26+1 by omega,Qf7 (by omega),Q8,Zg]
  cases hb:Bp r.1 r.2.1 with
  | false=>rfl
  | true =>
   rw [Zl,Q5,K8 (by omega) hf,Q8,Zg]
   unfold kQ
   by_cases a:r.2.2.1.length=(bU r.1.2.2.2.1).length
   case neg=>rw [show ((((r.2.2.1.length:Nat):Int)) != (((bU r.1.2.2.2.1).length:Nat):Int))=true by simp;omega,Q4,Q4,Z4 a];rfl
   rw [show ((((r.2.2.1.length:Nat):Int)) != (((bU r.1.2.2.2.1).length:Nat):Int))=false by simp;omega,Q5,Z5 a,Zg]
   by_cases a1:r.2.2.2.1 < -1
   .rw [Z5 a1,Q4,Q4,Z4 (show ¬ (-1<=r.2.2.2.1/\r.2.2.2.1 < (((bU r.1.2.2.2.1).length:Nat):Int)) by omega)];rfl
   rw [Z4 a1,Q5]
   by_cases a2:r.2.2.2.1>=(((bU r.1.2.2.2.1).length:Nat):Int)
   .rw [Z5 a2,Q4,Q4,Z4 (show ¬ (-1<=r.2.2.2.1/\r.2.2.2.1 < (((bU r.1.2.2.2.1).length:Nat):Int)) by omega)];rfl
   rw [Z4 a2,Q5,Z5 (show -1<=r.2.2.2.1/\r.2.2.2.1 < (((bU r.1.2.2.2.1).length:Nat):Int) by omega),Zg]
   by_cases a3:r.2.2.2.2 < 0
   .rw [Z5 a3,Q4,Q4,Z4 (show ¬ (0<=r.2.2.2.2/\r.2.2.2.2<=1000000) by omega)];rfl
   rw [Z4 a3,Q5]
   by_cases a4:r.2.2.2.2 > 1000000
   .rw [Z5 a4,Q4,Z4 (show ¬ (0<=r.2.2.2.2/\r.2.2.2.2<=1000000) by omega)];rfl
   rw [Z4 a4,Q5,Z5 (show 0<=r.2.2.2.2/\r.2.2.2.2<=1000000 by omega),Zg]
   have hW:∀ w∈bU r.1.2.2.2.1,vI r.1.2.1 w:=fun w hw=>by obtain ⟨q1,q2⟩:=FU hw;exact ⟨q1,by omega⟩
   refine (Qc (fun (b:Bool) (i:Int)=>(b,i)) (bU r.1.2.2.2.1) (fun w i b k=>aa (Ad r.1 w (r.2.2.1.getD i [])) (k b) (some false)) (fun b=>zL (d+26+1) r b) ?_ ?_ (by rw [Q6];omega) false).trans ?_
   .intro ag b i w hx
    have hi:=(Z0 hx).1
    have gY:=hW w (Zc hx)
    have Jf:=R.ai _ (Zc (fF gY))
    simp only [zO,bV hx,nn,Q3,hx,Q8,Q4,tJ hx]
    rw [V3 (l:=r.2.2.1) (by omega)]
    simp only [Q8]
    rw [Z5 gY.1,Q4,fF gY,Q8]
    unfold Ad mZ
    by_cases b1:((((r.2.2.1.getD i []).length:Nat):Int)) > (aU r.1.2.1 w).2.2.2.2.2.2.2
    .rw [Z5 b1,Q4,Zl,Bool.false_and,Q5]
    .rw [Z4 b1,Q5,Bool.not_false,Zg]
     refine (Qc (fun (b:Bool) (j:Int)=>(b,j)) (r.2.2.1.getD i []) (fun p _ b k=>aa (kq p&&(cG r.1 p==w)) (k b) (some false)) (fun b=>ag (b,((i+1:Nat):Int))) ?_ ?_ (by rw [Q6];omega) b).trans ?_
     .intro V4 b' j p hp
      have hj:=(Z0 hp).1
      simp only [zM,bV hp,nn,Q3,hp,Q8,Q4]
      rw [show d+26+1=d+25+2 by omega,Qde,Q8,show d+25+2=d+23+4 by omega,ZQ R,Q8,aN (by omega)]
      cases kq p with
      | false=>rfl
      | true =>
       rw [Zl,Q5,Zg]
       by_cases e:cG r.1 p=w
       .rw [show (cG r.1 p != w)=false by rw [e];exact bne_self_eq_false _,Q5,show (cG r.1 p==w)=true from beq_iff_eq.2 e,Q4]
       .rw [show (cG r.1 p != w)=true from bne_iff_ne.2 e,Q4,show (cG r.1 p==w)=false from beq_eq_false_iff_ne.2 e,Q5]
     .intro V4 b'
      simp only [zM,bD,Q5]
      unfold Eu
      rw [aN (by omega)]
     .rw [CD (p:=fun p=>kq p&&(cG r.1 p==w))]
   .intro ag t;simp only [zO,bD,Q5]
   .rw [qS]
    cases hk:eM (fun w i=>Ad r.1 w (r.2.2.1.getD i [])) (bU r.1.2.2.2.1) 0 with
    | false=>rfl
    | true =>
     obtain ⟨r1,r2⟩:=Qpz R hW a hk
     have:=PL r1
     rw [Q4,Zg]
     unfold zL
     rw [show d+26+1=d+25+2 by omega,Qt9 (by omega) (by omega),Q8,show d+25+2=d+22+5 by omega,Qnh (by omega),Q8]
def vl {α τ:Type} (p:α->Nat->τ->Bool) (f:α->Nat->τ->τ):List α->Nat->τ->Bool
 | [],_,_=>true
 | x::r,i,t=>p x i t&&vl p f r (i+1) (f x i t)
theorem V5 {α τ β:Type} {p:α->Nat->τ->Bool} {f:α->Nat->τ->τ} {step:α->Nat->τ->(τ->Option β)->Option β} {no:Option β} {fin:τ->Option β} (I:Nat->τ->Prop):∀ (l:List α) (i:Nat) (t:τ),I i t->(∀ j x t k,l[j]? = some x->I (i+j) t->step x (i+j) t k=aa (p x (i+j) t) (k (f x (i+j) t)) no/\(p x (i+j) t=true->I (i+j+1) (f x (i+j) t)))->er step fin l i t=aa (vl p f l i t) (fin (cH f l i t)) no
 | [],i,t,_,_=>rfl
 | x::r,i,t,hI,h=>by
  simp only [er,cH,vl]
  obtain ⟨h1,h2⟩:=h 0 x t (fun t'=>er step fin r (i+1) t') rfl hI
  rw [Nat.add_zero] at h1 h2
  rw [h1]
  cases hp:p x i t with
  | false=>rfl
  | true =>
   rw [Q4,Zg]
   exact V5 I r (i+1) _ (h2 hp) (fun j y t k hy ht=>by
    have:=h (j+1) y t k (by simpa using hy)
    rw [show i+(j+1)=i+1+j by omega] at this
    exact this ht)
abbrev Bs:=Bool×List Int
def JH (x:Ld) (w:Int) (p:Pk) (_:Nat) (t:Bs):Bool:=kq p&&((cG x p==w) && !(t.2.any fun z=>z==p.1))
def EK (p:Pk) (_:Nat) (t:Bs):Bs:=(t.1,t.2++[p.1])
def JI (x:Ld) (W:List Int) (row:List Pk) (i:Nat) (t:Bs):Bool := !decide (((row.length:Nat):Int) > mZ x (W.getD i 0))&&vl (JH x (W.getD i 0)) EK row 0 t
def Br (row:List Pk) (_:Nat) (t:Bs):Bs:=(t.1,t.2++row.map fun p=>p.1)
theorem Qm0:∀ (row:List Pk) (i:Nat) (t:Bs),cH EK row i t=Br row 0 t
 | [],i,t=>by simp [cH,Br]
 | p::r,i,t=>by
  simp only [cH]
  rw [Qm0 r (i+1)]
  simp [Br,EK]
theorem Qvf {x:Ld} {w:Int}:∀ (row:List Pk) (i:Nat) (t:Bs),vl (JH x w) EK row i t=true↔(∀ p∈row,kq p=true/\cG x p=w)/\(∀ p∈row,p.1∉t.2)/\(row.map fun p=>p.1).Nodup
 | [],i,t=>by simp [vl]
 | p::r,i,t=>by
  simp only [vl,Z8,Qvf r (i+1),JH,EK,beq_iff_eq,Bool.not_eq_true',List.any_eq_false,List.mem_cons,forall_eq_or_imp,List.map_cons,List.nodup_cons,Zh,List.mem_singleton]
  constructor
  .rintro ⟨⟨a1,a2,a3⟩,b1,b2,b3⟩
   refine ⟨⟨⟨a1,a2⟩,b1⟩,⟨fun hm=>a3 _ hm rfl,fun q hq hm=>b2 q hq (Or.inl hm)⟩,fun hm=>?_,b3⟩
   obtain ⟨q,hq,e⟩:=List.mem_map.1 hm
   exact b2 q hq (Or.inr (Or.inl e))
  .rintro ⟨⟨⟨a1,a2⟩,b1⟩,⟨c1,c2⟩,n1,n2⟩
   refine ⟨⟨a1,a2,fun z hz e=>c1 (e▸hz)⟩,b1,fun q hq hm=>?_,n2⟩
   rcases hm with hm | hm | hm
   .exact c2 q hq hm
   .exact n1 (List.mem_map.2 ⟨q,hq,hm⟩)
   .simp at hm
theorem Qvg {x:Ld} {W:List Int}:∀ (rows:List (List Pk)) (i:Nat) (t:Bs),vl (JI x W) Br rows i t=true↔(∀ j row,rows[j]? = some row->Ad x (W.getD (i+j) 0) row=true)/\(∀ p∈rows.flatten,p.1∉t.2)/\(rows.flatten.map fun p=>p.1).Nodup
 | [],i,t=>by simp [vl]
 | row::rows,i,t=>by
  simp only [vl,Z8,Qvg rows (i+1),JI,Qvf,Br,Ze,Zh,List.map_append,Zn]
  have cz:Ad x (W.getD i 0) row=true↔(!decide (((row.length:Nat):Int) > mZ x (W.getD i 0)))=true/\∀ p∈row,kq p=true/\cG x p=W.getD i 0:=by
   unfold Ad
   simp only [Z8,List.all_eq_true,beq_iff_eq]
  constructor
  .rintro ⟨⟨a1,a2,a3,a4⟩,b1,b2,b3⟩
   refine ⟨fun j r hj=>?_,fun p hp hm=>?_,a4,b3,fun y hy z hz e=>?_⟩
   .cases j with
    | zero=>simp only [List.getElem?_cons_zero,Option.some.injEq] at hj;subst hj;exact cz.2 ⟨a1,a2⟩
    | succ j=>have:=b1 j r (by simpa using hj);rw [show i+(j+1)=i+1+j by omega];exact this
   .rcases hp with hp | hp
    .exact a3 p hp hm
    .exact b2 p hp (Or.inl hm)
   .obtain ⟨q,hq,rfl⟩:=List.mem_map.1 hz
    exact b2 q hq (Or.inr (e▸hy))
  .rintro ⟨h1,h2,n1,n2,n3⟩
   obtain ⟨a1,a2⟩:=cz.1 (h1 0 row rfl)
   refine ⟨⟨a1,a2,fun p hp=>h2 p (Or.inl hp),n1⟩,fun j r hj=>?_,fun p hp hm=>?_,n2⟩
   .have:=h1 (j+1) r (by simpa using hj);rw [show i+(j+1)=i+1+j by omega] at this;exact this
   .rcases hm with hm | hm
    .exact h2 p (Or.inr hp) hm
    .exact n3 _ hm _ (List.mem_map.2 ⟨p,hp,rfl⟩) rfl
theorem Qx5 {x:Ld} {rows:List (List Pk)} {W:List Int} (hl:rows.length=W.length):vl (JI x W) Br rows 0 (false,[])=(eM (fun w i=>Ad x w (rows.getD i [])) W 0&&Mq rows.flatten):=by
 rw [Bool.eq_iff_iff,Qvg,Z8,sK,Qzx]
 constructor
 .rintro ⟨h1,_,h3⟩
  refine ⟨fun j w hw=>?_,fun p hp=>?_,h3⟩
  .have hj:=(Z0 hw).1
   have:=h1 j _ (V3 (l:=rows) (i:=j) (by omega))
   rw [Zo] at this ⊢
   rw [Zr (l:=W),hw] at this
   exact this
  .obtain ⟨row,hr,hp⟩:=List.mem_flatten.1 hp
   obtain ⟨j,hj⟩:=List.getElem?_of_mem hr
   have:=h1 j _ hj
   unfold Ad at this
   simp only [Z8,List.all_eq_true] at this
   exact (this.2 p hp).1
 .rintro ⟨h1,h2,h3⟩
  refine ⟨fun j row hj=>?_,fun p _ hm=>by simp at hm,h3⟩
  have au:=(Z0 hj).1
  have:=h1 j _ (nI (l:=W) (i:=j) (z:=0) (by omega))
  rw [Zo] at this ⊢
  rw [Zr (l:=rows),hj] at this
  exact this
theorem Qta {d:Nat} {l:List Int} {n:Int} (hl:l.length < 4194304):O_ (d+1) l n=some (l.any fun x=>x==n):=by
 rw [e58]
 refine (Qc (fun (t:Bool) (i:Int)=>(t,i)) l (fun x _ t k=>aa (x==n) (some true) (k t)) (fun _=>some false) ?_ ?_ (by rw [Q6];exact hl) false).trans ?_
 .intro ag t i x hx;have hi:=(Z0 hx).1;simp only [yG,bV hx,nn,Q3,hx,Q8,Q4];rw [aN (by omega)]
 .intro ag t;simp only [yG,bD,Q5];rfl
 .exact Pn l 0 false
theorem V6 {d:Nat} {r:Rg} (R:Lr r.1) {W:List Int} {w:Int} {i:Nat} (hw:W[i]? = some w) (hW:W.length<=1000) {row:List Pk} {k:Bs->Option Bool} (t:Bs) (ht:t.2.length<=10000) (hr:row.length<=60) :
  Q9 (nO (d+4) r W (i:Int) row (fun b _ l=>k (b,l))) Qd (t.1,t.2,0)=aa (vl (JH r.1 w) EK row 0 t) (k (Br row 0 t)) (some false):=by
 refine (Qc (fun (t:Bs) (i:Int)=>(t.1,t.2,i)) row (fun p _ t k=>aa (kq p) (aa (cG r.1 p==w) (Q1 (O_ (d+4) t.2 p.1) fun h=>aa h (some false) (aa (Nat.ble ((t.2.length+[p.1].length)*8) Q7) (k (t.1,t.2++[p.1])) none)) (some false)) (some false)) (fun t=>k t) ?_ ?_ (by rw [Q6];omega) t).trans ?_
 .intro V4 b' j p hp
  have hj:=(Z0 hp).1
  simp only [nO,bV hp,nn,Q3,hp,Q8,Q4,tJ hw,hw]
  rw [show d+4=d+1+3 by omega,Qt7,Q8,show d+1+3=d+4 by omega,ZU R,Q8,aN (by omega)]
  cases kq p with
  | false=>rfl
  | true =>
   rw [Zl,Q5,Q4]
   by_cases e:cG r.1 p=w
   .rw [show (cG r.1 p != w)=false by rw [e];exact bne_self_eq_false _,Q5,show (cG r.1 p==w)=true from beq_iff_eq.2 e,Q4]
   .rw [show (cG r.1 p != w)=true from bne_iff_ne.2 e,Q4,show (cG r.1 p==w)=false from beq_eq_false_iff_ne.2 e,Q5]
 .intro V4 b'
  simp only [nO,bD,Q5]
 .rw [V5 (p:=JH r.1 w) (f:=EK) (fun j t=>t.2.length<=10000+j) row 0 t (by omega) ?_,Qm0]
  intro j p t k hp hI
  have hj:=(Z0 hp).1
  rw [show d+4=d+3+1 by omega,Qta (by omega),Q8,room (by simp;omega),Q4]
  refine ⟨?_,fun _=>by unfold EK;simp;omega⟩
  unfold JH
  cases kq p with
  | false=>rfl
  | true =>
   rw [Q4,Zg]
   cases (cG r.1 p==w) with
   | false=>rfl
   | true=>rw [Q4,Zg];cases (t.2.any fun z=>z==p.1)<;>rfl
theorem Qtb {d:Nat} {r:Rg} (h:w8 r.1):g24 (d+13) r=some (j7 r):=by
 rw [e24,Qt4 h,Q8]
 unfold j7 PK
 cases hg:eW r.1 with
 | false=>rfl
 | true =>
  have L:=vV hg
  have R:=Jb hg
  have iI:=L.fL
  have hf:=L.fl
  have hv:=Be (F:=r.1.2.2.2.1)
  cases hb:Bp r.1 r.2.1 with
  | false=>rfl
  | true =>
   rw [Zg,Zg,Zg,Zl,Q5,show d+12=d+10+2 by omega,Jd (by omega) hf,Q8]
   unfold sC
   by_cases a:r.2.2.1.length=(bU r.1.2.2.2.1).length
   case neg=>rw [show ((((r.2.2.1.length:Nat):Int)) != (((bU r.1.2.2.2.1).length:Nat):Int))=true by simp;omega,Q4,Q4,Z4 a];rfl
   rw [show ((((r.2.2.1.length:Nat):Int)) != (((bU r.1.2.2.2.1).length:Nat):Int))=false by simp;omega,Q5,Z5 a,Zg,show d+10+2=d+11+1 by omega,v8,Q8,wr (by omega) (by omega)]
   by_cases a1:-1<=r.2.2.2.1/\r.2.2.2.1 < (((bU r.1.2.2.2.1).length:Nat):Int)
   case neg=>rw [Z4 (show ¬ (-1<=r.2.2.2.1/\r.2.2.2.1<=(((bU r.1.2.2.2.1).length:Nat):Int) - 1) by omega),Bool.not_false,Q4,Q4,Z4 a1];rfl
   rw [Z5 (show -1<=r.2.2.2.1/\r.2.2.2.1<=(((bU r.1.2.2.2.1).length:Nat):Int) - 1 by omega),Zl,Q5,Z5 a1,Zg,v8,Q8]
   cases decide (0<=r.2.2.2.2/\r.2.2.2.2<=1000000) with
   | false=>rfl
   | true =>
    rw [Zl,Q5,Zg,<- Qx5 a]
    have hW:∀ w∈bU r.1.2.2.2.1,vI r.1.2.1 w:=fun w hw=>by obtain ⟨q1,q2⟩:=FU hw;exact ⟨q1,by omega⟩
    refine (Qc (fun (t:Bs) (i:Int)=>(t.1,t.2,i)) r.2.2.1 (fun row i t k=>aa (decide (((row.length:Nat):Int) > mZ r.1 ((bU r.1.2.2.2.1).getD i 0))) (some false) (Q9 (nO (d+11+1) r (bU r.1.2.2.2.1) (i:Int) row (fun b _ l=>k (b,l))) Qd (t.1,t.2,0))) (fun _=>some true) ?_ ?_ (by rw [Q6];omega) (false,[])).trans ?_
    .intro ag t i row hx
     have hi:=(Z0 hx).1
     have au:i < (bU r.1.2.2.2.1).length:=by omega
     have hw:=nI (l:=bU r.1.2.2.2.1) (i:=i) (z:=0) au
     have gY:=hW _ (Zc hw)
     simp only [yK,bV hx,nn,Q3,hx,Q8,Q4]
     rw [Qo au,Q4,hw,Q8,Z5 gY.1,Q4,fF gY,Q8]
     rw [show yI (d+11+1) ag (i:Int)=fun b _ l=>ag (b,l,((i+1:Nat):Int)) from by
      funext b n l
      unfold yI
      rw [aN (by omega)]]
     rfl
    .intro ag t;simp only [yK,bD,Q5];rfl
    .rw [V5 (p:=JI r.1 (bU r.1.2.2.2.1)) (f:=Br) (fun i t=>t.2.length<=60*i) r.2.2.1 0 (false,[]) (by simp) ?_]
     .cases vl (JI r.1 (bU r.1.2.2.2.1)) Br r.2.2.1 0 (false,[])<;>rfl
     .intro j row t k hj hI
      rw [Zo] at hI ⊢
      have hi:=(Z0 hj).1
      have hw:=nI (l:=bU r.1.2.2.2.1) (i:=j) (z:=0) (by omega)
      have gY:=hW _ (Zc hw)
      have Jf:=R.ai _ (Zc (fF gY))
      unfold JI
      by_cases b1:((row.length:Nat):Int) > mZ r.1 ((bU r.1.2.2.2.1).getD j 0)
      .rw [Z5 b1,Q4,Zl,Bool.false_and,Q5]
       exact ⟨rfl,fun h=>absurd h (by simp)⟩
      .rw [Z4 b1,Q5,Bool.not_false,Zg]
       unfold mZ at b1
       rw [show d+11+1=d+8+4 by omega,V6 R hw (by omega) t (by omega) (by omega)]
       refine ⟨rfl,fun _=>?_⟩
       unfold Br
       simp only [Zf,List.length_map]
       omega
structure Ro (r:Rg):Prop where
 lk:Lk r.1
 lr:Lr r.1
 t1:r.2.1.1.length=r.1.2.1.length
 t2:r.2.1.2.length=r.1.2.1.length
 rl:r.2.2.1.length=(bU r.1.2.2.2.1).length
 rb:∀ row∈r.2.2.1,row.length<=60
 rp:∀ row∈r.2.2.1,∀ p∈row,kq p=true
 la:-1<=r.2.2.2.1/\r.2.2.2.1 < (((bU r.1.2.2.2.1).length:Nat):Int)
 nw:0<=r.2.2.2.2/\r.2.2.2.2<=1000000
theorem OZ {r:Rg} (h:j7 r=true):Ro r:=by
 unfold j7 PK at h
 simp only [Z8,Zj] at h
 obtain ⟨h1,h2,⟨h3,h4,h5⟩,h6,h7⟩:=h
 have L:=vV h1
 have R:=Jb h1
 obtain ⟨t1,t2⟩:=Qx0 h2
 have hf:=L.fl
 obtain ⟨r1,r2⟩:=Qpz R (fun w hw=>by obtain ⟨q1,q2⟩:=FU hw;exact ⟨q1,by omega⟩) h3 h6
 exact ⟨L,R,t1,t2,h3,r1,r2,h4,h5⟩
theorem O6 {r:Rg} (h:j7 r=true):eW r.1=true:=by
 unfold j7 at h
 simp only [Z8] at h
 exact h.1
theorem Qzy {d:Nat} {x:Ld} {id:Int} (hl:x.2.1.length<=1000):TY (d+1) x id=some (bK x.2.1 id):=by
 rw [e99]
 refine (Qc (fun (t:Int) (i:Int)=>(t,i)) x.2.1 (fun y i t k=>aa (y.1==id) (some ((i:Nat):Int)) (k t)) (fun _=>some (-1)) ?_ ?_ (by rw [Q6];omega) 0).trans (Ey x.2.1 0 _)
 .intro ag t i x hx;have hi:=(Z0 hx).1;simp only [yM,bV hx,nn,Q3,hx,Q8,Q4];rw [aN (by omega)]
 .intro ag t;simp only [yM,bD,Q5];rfl
theorem Sx {r:Rg} (O:Ro r):r.2.2.1.length<=24:=by
 have iI:=O.lk.fL
 have hf:=O.lk.fl
 have hv:=Be (F:=r.1.2.2.2.1)
 have kI:=O.rl
 omega
theorem Qte {d:Nat} {x:Ld} (hg:eW x=true):LK (d+26) x=some (eR x):=by
 unfold eW at hg
 simp only [Z8,Zj] at hg
 obtain ⟨⟨h1,h2⟩,h3,h4⟩:=hg
 obtain ⟨c,hc,c1,c2,c3,c4⟩:=Qlw (d:=d) (x:=x) (by omega) (by omega)
 obtain ⟨u1,u2⟩:=Qzu c1 c2 c3 c4
 rw [hc,u2 h3]
theorem S0 {x:Ld} (h:eW x=true):(eR x).2.1.length<=24/\(eR x).2.2.1.length<=16:=by
 unfold eW at h
 simp only [Z8,Zj] at h
 refine ⟨?_,h.1.2⟩
 show (DO x.2.1).length<=24
 rw [Bb.length_eq];exact h.1.1
theorem V7 {α γ δ β:Type} {e:α->γ} {f:α->δ} {fin:List γ×List δ->Option β} {w v:Nat}:∀ (l:List α) (i:Nat) (t:List γ×List δ),(t.1.length+l.length)*w<=100000000->(t.2.length+l.length)*v<=100000000 ->
  er (fun x _ t k=>aa (Nat.ble ((t.1.length+[e x].length)*w) Q7) (aa (Nat.ble ((t.2.length+[f x].length)*v) Q7) (k (t.1++[e x],t.2++[f x])) none) none) fin l i t=fin (t.1++l.map e,t.2++l.map f)
 | [],i,t,_,_=>by simp [er]
 | x::r,i,t,h,h'=>by
  simp only [er]
  rw [room (by
   have:(t.1.length+[e x].length)*w<=(t.1.length+(x::r).length)*w:=Zk w (by simp)
   omega),Q4,room (by
   have:(t.2.length+[f x].length)*v<=(t.2.length+(x::r).length)*v:=Zk v (by simp)
   omega),Q4]
  rw [V7 r (i+1) (t.1++[e x],t.2++[f x]) (by
   refine Nat.le_trans (Zk w ?_) h
   simp;omega) (by
   refine Nat.le_trans (Zk v ?_) h'
   simp;omega)]
  simp
def B6 (x:Ld):Tk:=(x.2.1.map fun c=>c.2.2.2.2.1,x.2.1.map fun c=>c.2.2.2.2.2.1)
theorem Qhq {d:Nat} {x:Ld} (hl:x.2.1.length<=1000):Hh (d+1) x=some (B6 x):=by
 rw [U4]
 refine (Qc (fun (t:Tk) (i:Int)=>(i,t)) x.2.1 (fun c _ t k=>aa (Nat.ble ((t.1.length+[c.2.2.2.2.1].length)*8) Q7) (aa (Nat.ble ((t.2.length+[c.2.2.2.2.2.1].length)*8) Q7) (k (t.1++[c.2.2.2.2.1],t.2++[c.2.2.2.2.2.1])) none) none) (fun t=>some t) ?_ ?_ (by rw [Q6];omega) ([],[])).trans ?_
 .intro ag t i x hx;have hi:=(Z0 hx).1;simp only [qO,bV hx,nn,Q3,hx,Q8,Q4];rw [aN (by omega)]
 .intro ag t;simp only [qO,bD,Q5];rfl
 .rw [V7 (e:=fun c:aA=>c.2.2.2.2.1) (f:=fun c:aA=>c.2.2.2.2.2.1) x.2.1 0 ([],[]) (by simp;omega) (by simp;omega)]
  rfl
theorem Qtf {d:Nat} {x:Ld} (hl:x.2.1.length<=1000):Gk (d+1) x=some (B6 x):=by
 rw [TX]
 refine (Qc (fun (t:Tk) (i:Int)=>(i,t)) x.2.1 (fun c _ t k=>aa (Nat.ble ((t.1.length+[c.2.2.2.2.1].length)*8) Q7) (aa (Nat.ble ((t.2.length+[c.2.2.2.2.2.1].length)*8) Q7) (k (t.1++[c.2.2.2.2.1],t.2++[c.2.2.2.2.2.1])) none) none) (fun t=>some t) ?_ ?_ (by rw [Q6];omega) ([],[])).trans ?_
 .intro ag t i x hx;have hi:=(Z0 hx).1;simp only [pY,bV hx,nn,Q3,hx,Q8,Q4];rw [aN (by omega)]
 .intro ag t;simp only [pY,bD,Q5];rfl
 .rw [V7 (e:=fun c:aA=>c.2.2.2.2.1) (f:=fun c:aA=>c.2.2.2.2.2.1) x.2.1 0 ([],[]) (by simp;omega) (by simp;omega)]
  rfl
theorem Qvh {x:Ld} (h:eW x=true):bT (eR x)=x:=by
 unfold eW DP at h
 simp only [Z8,Zj,beq_iff_eq] at h
 obtain ⟨_,_,s1,s2,s3,s4,s5,s6,s7⟩:=h
 exact Prod.ext rfl (Prod.ext s1.symm (Prod.ext s2.symm (Prod.ext s3.symm (Prod.ext s4.symm (Prod.ext s5.symm (Prod.ext rfl (Prod.ext s6.symm s7.symm)))))))
theorem OV {x:Ld} (h:eW x=true):fA (eR x)=true:=by
 unfold eW at h
 simp only [Z8] at h
 exact h.2.1
theorem Qth {c:Cf} (G:Gd c):(bT c).2.2.2.2.1.length<=24/\(bT c).2.2.2.2.2.1.length<=24/\(bT c).2.2.2.2.2.2.2.1.length<=16:=by
 have h1:=Hu G.tr
 have h2:=G.tr.fL
 have h3:=G.f16
 refine ⟨?_,?_,?_⟩
 .show ((aG c.2.1).map (fun i=>pW c.2.1 (vh c.2.1 i))).length<=24
  rw [List.length_map];omega
 .show ((aG c.2.1).mapIdx (oa c.2.1)).length<=24
  rw [List.length_mapIdx];omega
 .show (c.2.2.1.map (fun f=>pW c.2.1 (bK c.2.1 f.2.2.2.2))).length<=16
  rw [List.length_map];omega
theorem Qx6 {x:Ld} (h:eW x=true):x.2.2.2.2.1.length<=24/\x.2.2.2.2.2.1.length<=24/\x.2.2.2.2.2.2.2.1.length<=16:=by
 have:=Qth (rV (OV h))
 rw [Qvh h] at this;exact this
theorem Qq2 {α γ:Type} {c:α->Nat->Bool} {e:α->Nat->γ}:∀ (l:List α) (i j:Nat) (x:α),l[j]? = some x->c x (i+j)=true->e x (i+j)∈fG c e l i
 | [],i,j,x,h,_=>by simp at h
 | y::r,i,0,x,h,hc=>by
  simp only [List.getElem?_cons_zero,Option.some.injEq] at h
  subst h
  rw [Nat.add_zero] at hc ⊢
  unfold fG;rw [if_pos hc];simp
 | y::r,i,j+1,x,h,hc=>by
  have:=Qq2 (c:=c) (e:=e) r (i+1) j x (by simpa using h) (by rw [show i+1+j=i+(j+1) by omega];exact hc)
  rw [show i+1+j=i+(j+1) by omega] at this
  unfold fG
  split
  .exact List.mem_cons_of_mem _ this
  .exact this
theorem Qq3 {c:Cf} (G:Gd c) {id:Int} (hv:vI c.2.1 (bK c.2.1 id)) (hl:fS c.2.1 id=true):pW c.2.1 (bK c.2.1 id)∈bU (bT c).2.2.2.1:=by
 have T:=G.tr
 obtain ⟨k,h1,h2⟩:=B4 T hv
 obtain ⟨_,x,e1,e2,e3⟩:=tI hv.1
 have hid:(aU c.2.1 (bK c.2.1 id)).1=id:=by rw [e1,jl e2,e3]
 have hk:cj c.2.1 (bK c.2.1 id)=[]:=by
  unfold cj nU
  rw [hid]
  have:=L6 (c:=fun x:aA=>x.2.1==id) (e:=fun _ k=>((k:Nat):Int)) c.2.1 0
  unfold fS at hl
  rw [hl] at this
  exact Z1 (by simpa using this)
 have hF:(bT c).2.2.2.1[k]? = some (-1):=by
  show ((aG c.2.1).map (fun i=>pW c.2.1 (wh c.2.1 i)))[k]? = some (-1)
  rw [List.getElem?_map,h1]
  show some (pW c.2.1 ((cj c.2.1 (bK c.2.1 id)).headD (-1)))=some (-1)
  rw [hk]
  exact congrArg some (vg T (by simp))
 rw [h2]
 have:=Qq2 (c:=fun (f:Int) _=>decide (f < 0)) (e:=fun _ k=>((k:Nat):Int)) (bT c).2.2.2.1 0 k (-1) hF (by simp)
 rw [Zo] at this
 exact this
theorem V8 {c:Cf} (G:Gd c) (p:Pk):cG (bT c) p < 0\/cG (bT c) p∈bU (bT c).2.2.2.1:=by
 unfold cG
 split
 .rename_i h
  have au:=V0 h
  right
  have hm:(bT c).2.2.2.2.2.2.2.1.getD (vk (bT c).2.2.2.2.2.2.1 p).toNat 0∈(bT c).2.2.2.2.2.2.2.1:=by
   refine Zc (i:=(vk (bT c).2.2.2.2.2.2.1 p).toNat) (nI ?_)
   show _ < (c.2.2.1.map _).length
   rw [List.length_map]
   have:vk (bT c).2.2.2.2.2.2.1 p < ((c.2.2.1.length:Nat):Int):=au
   omega
  generalize (bT c).2.2.2.2.2.2.2.1.getD (vk (bT c).2.2.2.2.2.2.1 p).toNat 0=w at hm
  obtain ⟨f,hf,rfl⟩:=List.mem_map.1 (show w∈c.2.2.1.map (fun f=>pW c.2.1 (bK c.2.1 f.2.2.2.2)) from hm)
  obtain ⟨t1,t2,_⟩:=G.Mb f hf
  exact Qq3 G t1 t2
 .show vT c < 0\/vT c∈_
  unfold vT
  split
  .left;omega
  .rename_i h
   obtain ⟨t1,t2⟩:=G.K5 h
   exact Or.inr (Qq3 G t1 t2)
structure Pu (x:Ld) (rows:List (List Pk)):Prop where
 lk:Lk x
 lr:Lr x
 lf:∀ p,cG x p < 0\/cG x p∈bU x.2.2.2.1
 rl:rows.length=(bU x.2.2.2.1).length
 lm:∀ (k:Nat) w,(bU x.2.2.2.1)[k]? = some w->(((rows.getD k []).length:Nat):Int)<=mZ x w
def mM (x:Ld) (p:Pk):Nat:=(wg (bU x.2.2.2.1) (cG x p)).toNat
def rW (x:Ld) (rows:List (List Pk)) (p:Pk):List Pk:=rows.getD (mM x p) []
def Ja (x:Ld) (rows:List (List Pk)) (p:Pk):List (List Pk):=rows.set (mM x p) (rW x rows p++[p])
def DR {τ:Type} (x:Ld) (rows:List (List Pk)) (p:Pk) (A:τ) (B C:aA->τ):τ:=if cG x p < 0 then A else if (((rW x rows p).length:Nat):Int)=mZ x (cG x p) then B (aU x.2.1 (cG x p)) else C (aU x.2.1 (cG x p))
theorem Qm2 {e:Nat->Int} (he:∀ k,e k=(k:Int)) {c:Int->Nat->Bool}:∀ (l:List Int) (i:Nat),(fG c (fun _ k=>e k) l i).Pairwise (· < ·)/\∀ x∈fG c (fun _ k=>e k) l i,((i:Nat):Int)<=x
 | [],i=>⟨List.Pairwise.nil,fun x h=>by simp [fG] at h⟩
 | y::r,i=>by
  obtain ⟨h1,h2⟩:=Qm2 he (c:=c) r (i+1)
  unfold fG
  split
  .refine ⟨List.Pairwise.cons (fun x hx=>?_) h1,fun x hx=>?_⟩
   .have:=h2 x hx;rw [he];omega
   .rcases Z2 hx with rfl | hx
    .rw [he];omega
    .have:=h2 x hx;omega
  .exact ⟨h1,fun x hx=>by have:=h2 x hx;omega⟩
theorem SG {F:List Int}:(bU F).Nodup:=by
 have:=(Qm2 (e:=fun k=>((k:Nat):Int)) (fun _=>rfl) (c:=fun f _=>decide (f < 0)) F 0).1
 exact this.imp fun h=>by omega
structure At (x:Ld) (rows:List (List Pk)) (p:Pk):Prop where
 get:(bU x.2.2.2.1)[mM x p]? = some (cG x p)
 pos:wg (bU x.2.2.2.1) (cG x p)=((mM x p:Nat):Int)
 lt:mM x p < rows.length
 v:vI x.2.1 (cG x p)
 row:rows[mM x p]? = some (rW x rows p)
 ai:(((rW x rows p).length:Nat):Int)<=mZ x (cG x p)
 l60:(rW x rows p).length<=60
theorem So {x:Ld} {rows:List (List Pk)} {p:Pk} (P:Pu x rows) (h:¬ cG x p < 0):At x rows p:=by
 have hm:=(P.lf p).resolve_left h
 obtain ⟨k,h1,h2⟩:=Qpd SG hm
 have hk:mM x p=k:=by unfold mM;rw [h2];rfl
 have au:=(Z0 h1).1
 have kI:=P.rl
 have hf:=P.lk.fl
 obtain ⟨v1,v2⟩:=FU hm
 have hv:vI x.2.1 (cG x p):=⟨v1,by omega⟩
 have aI:=P.lm k _ h1
 have Jf:=P.lr.ai _ (Zc (fF hv))
 have cz:rW x rows p=rows.getD k []:=by unfold rW;rw [hk]
 refine ⟨by rw [hk];exact h1,by rw [hk];exact h2,by omega,hv,by rw [hk,cz];exact V3 (by omega),by rw [cz];exact aI,?_⟩
 rw [cz]
 unfold mZ at aI
 omega
theorem Sw {β:Type} {d:Nat} {x:Ld} {rows:List (List Pk)} {p:Pk} (P:Pu x rows) {A:Option β} {B:aA->Option β} {C:aA->List (List Pk)->Option β} :
  aa (decide (cG x p < 0)) A (aa (decide (0<=cG x p)) (aa (Nat.blt (cG x p).toNat x.2.1.length) (Q1 (x.2.1[(cG x p).toNat]?) fun y=>Q1 (nR (d+1) x) fun ls=>Q1 (yX (d+1) ls (cG x p)) fun k=>aa (decide (0<=k)) (aa (Nat.blt k.toNat rows.length) (Q1 (rows[k.toNat]?) fun row=>aa (((row.length:Nat):Int)==y.2.2.2.2.2.2.2) (B y) (aa (decide (0<=k)) (aa (Nat.blt k.toNat rows.length) (Q1 (rows[k.toNat]?) fun Ae=>aa (Nat.ble ((Ae.length+[p].length)*48) Q7) (aa (decide (0<=k)) (aa (Nat.blt k.toNat rows.length) (aa (Nat.beq k.toNat k.toNat) (Q1 (rows[k.toNat]?) fun _=>C y (rows.set k.toNat (Ae++[p]))) none) none) none) none) none) none)) none) none) none) none)
  = DR x rows p A B (fun y=>C y (Ja x rows p)):=by
 unfold DR
 by_cases h:cG x p < 0
 .rw [Z5 h,Q4,if_pos h]
 .have a:=So P h
  have iI:=P.lk.fL
  have hv:=Be (F:=x.2.2.2.1)
  have hf:=P.lk.fl
  have Jf:=a.l60
  rw [Z4 h,Q5,if_neg h,Z5 a.v.1,Q4,Qo (by have:=a.v;unfold vI at this;omega),Q4,fF a.v,Q8,K8 (by omega) hf,Q8,Qp4 (by omega),Q8]
  have hp:fB (fun y=>y==cG x p) (bU x.2.2.2.1) 0=((mM x p:Nat):Int):=a.pos
  rw [hp]
  simp only [nn,Q3,Q4,Qo a.lt,a.row,Q8]
  rw [room (by simp;omega),Q4,show Nat.beq (mM x p) (mM x p)=true by rw [Nat.beq_eq],Q4]
  by_cases e:(((rW x rows p).length:Nat):Int)=mZ x (cG x p)
  .rw [if_pos e,show ((((rW x rows p).length:Nat):Int)==(aU x.2.1 (cG x p)).2.2.2.2.2.2.2)=true from beq_iff_eq.2 e,Q4]
  .rw [if_neg e,show ((((rW x rows p).length:Nat):Int)==(aU x.2.1 (cG x p)).2.2.2.2.2.2.2)=false from beq_eq_false_iff_ne.2 e,Q5]
   rfl
theorem Qzz {β:Type} {d:Nat} {x:Ld} {rows:List (List Pk)} {p:Pk} {F:(Int->Option β)->Int->Option β} {K:Int->Option β} (a:At x rows p) (h1:x.2.1.length<=1000) (hf:x.2.2.2.1.length=x.2.1.length)
  (hF:∀ ag k,F ag k=Q1 (Eo (d+2) x) fun ls=>aa (decide (0<=k)) (aa (Nat.blt k.toNat ls.length) (Q1 (ls[k.toNat]?) fun w=>aa (w != cG x p) (ag (IntKind.i64.wrap (k+1))) (K k)) none) none):Q9 F Qd 0=K ((mM x p:Nat):Int):=by
 have hv:=Be (F:=x.2.2.2.1)
 have au:=(Z0 a.get).1
 have key:∀ (m k fuel:Nat),k+m=mM x p->m < fuel->Q9 F fuel ((k:Nat):Int)=K ((mM x p:Nat):Int):=by
  intro m
  induction m with
  | zero =>
   intro k fuel e h
   obtain ⟨g,rfl⟩:∃ g,fuel=g+1:=⟨fuel - 1,by omega⟩
   obtain rfl:k=mM x p:=by omega
   simp only [Q9]
   rw [hF,Jd h1 hf,Q8,nn,Q4,Q3,Qo au,Q4,a.get,Q8,bne_self_eq_false,Q5]
  | succ m ih =>
   intro k fuel e h
   obtain ⟨g,rfl⟩:∃ g,fuel=g+1:=⟨fuel - 1,by omega⟩
   have hk:k < (bU x.2.2.2.1).length:=by omega
   have hx:=Z6 hk
   have aV:(bU x.2.2.2.1)[k]≠cG x p:=fun e'=>by
    have:=sL SG hx
    rw [e',a.pos] at this
    omega
   simp only [Q9]
   rw [hF,Jd h1 hf,Q8,nn,Q4,Q3,Qo hk,Q4,hx,Q8,bne_iff_ne.2 aV,Q4,aN (by omega)]
   exact ih (k+1) g (by omega) (by omega)
 exact key (mM x p) 0 Qd (by omega) (by rw [Q6];omega)
def SE {β:Type} (rows:List (List Pk)) (p:Pk) (B:aA->Option β) (C:aA->List (List Pk)->Option β) (y:aA) (k:Int):Option β:=aa (decide (0<=k)) (aa (Nat.blt k.toNat rows.length) (Q1 (rows[k.toNat]?) fun row=>aa (decide (((row.length:Nat):Int)>=y.2.2.2.2.2.2.2)) (B y) (aa (decide (0<=k)) (aa (Nat.blt k.toNat rows.length) (Q1 (rows[k.toNat]?) fun Ae=>aa (Nat.ble ((Ae.length+[p].length)*48) Q7) (aa (decide (0<=k)) (aa (Nat.blt k.toNat rows.length) (aa (Nat.beq k.toNat k.toNat) (Q1 (rows[k.toNat]?) fun _=>C y (rows.set k.toNat (Ae++[p]))) none) none) none) none) none) none)) none) none
theorem SD {β:Type} {x:Ld} {rows:List (List Pk)} {p:Pk} (P:Pu x rows) {A:Option β} {B:aA->Option β} {C:aA->List (List Pk)->Option β} {I:aA->Option β}
  (hI:At x rows p->∀ y,I y=SE rows p B C y ((mM x p:Nat):Int)) :
  aa (decide (cG x p < 0)) A (aa (decide (0<=cG x p)) (aa (Nat.blt (cG x p).toNat x.2.1.length) (Q1 (x.2.1[(cG x p).toNat]?) I) none) none)=DR x rows p A B (fun y=>C y (Ja x rows p)):=by
 unfold DR
 by_cases h:cG x p < 0
 .rw [Z5 h,Q4,if_pos h]
 .have a:=So P h
  have Jf:=a.l60
  have aI:=a.ai
  rw [Z4 h,Q5,if_neg h,Z5 a.v.1,Q4,Qo (by have:=a.v;unfold vI at this;omega),Q4,fF a.v,Q8,hI a]
  unfold SE
  simp only [nn,Q3,Q4,Qo a.lt,a.row,Q8]
  rw [room (by simp;omega),Q4,show Nat.beq (mM x p) (mM x p)=true by rw [Nat.beq_eq],Q4]
  by_cases e:(((rW x rows p).length:Nat):Int)=mZ x (cG x p)
  .rw [if_pos e,Z5 (show (((rW x rows p).length:Nat):Int)>=(aU x.2.1 (cG x p)).2.2.2.2.2.2.2 by unfold mZ at e;omega),Q4]
  .rw [if_neg e,Z4 (show ¬ (((rW x rows p).length:Nat):Int)>=(aU x.2.1 (cG x p)).2.2.2.2.2.2.2 by unfold mZ at e aI;omega),Q5]
   rfl
theorem Sr {x:Ld} (h:eW x=true) (p:Pk):cG x p < 0\/cG x p∈bU x.2.2.2.1:=by
 have:=V8 (rV (OV h)) p
 rw [Qvh h] at this;exact this
def mP (k:Nat):Pk:=((k:Int),((k+1:Nat):Int),((k+1+1:Nat):Int),((k+1+1+1:Nat):Int),((k+1+1+1+1:Nat):Int),((k+1+1+1+1+1:Nat):Int))
def nk:Nat->Nat->List Pk
 | _,0=>[]
 | k,n+1=>mP k::nk (k+1+1+1+1+1+1) n
def wm:Nat->List (List Pk)->List (List Pk)
 | _,[]=>[]
 | k,q::r=>nk k q.length::wm (k+6*q.length) r
theorem Qvi {d:Nat}:∀ (r:List Pk) {p:List Pk} {k fuel:Nat},r.length < fuel->p.length+r.length<=2000000->k+6*r.length<=1000000000 ->
  Q9 (sJ d (zW d)) fuel ((k:Int),((p.length:Nat):Int),p++r)=some (((k+6*r.length:Nat):Int),p++nk k r.length)
 | _,p,k,0,h,_,_=>by omega
 | [],p,k,fuel+1,h,h2,h3=>by
  simp only [Q9,sJ]
  rw [List.append_nil,bD,Q5]
  unfold zW
  simp [nk]
 | x::r,p,k,fuel+1,h,h2,h3=>by
  simp only [Z9] at h h2 h3
  have au:p.length < (p++x::r).length:=by simp
  have hg:(p++x::r)[p.length]? = some x:=by simp
  simp only [Q9,sJ,Q3,nn,Q4]
  rw [Z5 (show ((p.length:Nat):Int) < (((p++x::r).length:Nat):Int) by omega),Q4,Qo au,Q4,hg,Q8]
  simp only [List.length_set,List.set_set,List.getElem?_set_self au,Q8,Qo au,Q4]
  rw [FR,aN (by omega),aN (by omega),aN (by omega),aN (by omega),aN (by omega),aN (by omega),aN (by omega)]
  have:=Qvi (d:=d) r (p:=p++[mP k]) (k:=k+1+1+1+1+1+1) (fuel:=fuel) (by omega) (by simp;omega) (by omega)
  rw [Zf,show (p++[mP k])++r=p++mP k::r by simp] at this
  simp only [Z9,Zb,nk]
  rw [show k+6*(r.length+1)=k+1+1+1+1+1+1+6*r.length by omega,show p++mP k::nk (k+1+1+1+1+1+1) r.length=(p++[mP k])++nk (k+1+1+1+1+1+1) r.length by simp]
  exact this
theorem Qvj {d:Nat} {l:List Pk}:∀ (n:Nat) {p:List Pk} {k fuel:Nat},l=p++nk k n->n < fuel->p.length+n<=2000000->k+6*n<=1000000000 ->
  Q9 (so d l (xU d)) fuel ((k:Int),0,((p.length:Nat):Int))=some ((k+6*n:Nat):Int)
 | n,p,k,0,_,h,_,_=>by omega
 | 0,p,k,fuel+1,e,h,h2,h3=>by
  simp only [nk,List.append_nil] at e
  subst e
  simp only [Q9,so]
  rw [bD,Q5]
  unfold xU
  simp
 | n+1,p,k,fuel+1,e,h,h2,h3=>by
  have hg:l[p.length]? = some (mP k):=by rw [e];simp [nk]
  have au:=(Z0 hg).1
  simp only [Q9,so,Q3,nn,Q4]
  rw [Z5 (show ((p.length:Nat):Int) < ((l.length:Nat):Int) by omega),Q4,hg]
  simp only [Q8]
  rw [aN (by omega),aN (by omega),aN (by omega),aN (by omega),aN (by omega),aN (by omega),aN (by omega)]
  unfold mP
  simp only [bne_self_eq_false,Q5]
  have:=Qvj (d:=d) (l:=l) n (p:=p++[mP k]) (k:=k+1+1+1+1+1+1) (fuel:=fuel) (by rw [e];simp [nk]) (by omega) (by simp;omega) (by omega)
  rw [Zf] at this
  simp only [Z9,Zb] at this
  rw [show k+6*(n+1)=k+1+1+1+1+1+1+6*n by omega]
  exact this
theorem Qhr {d:Nat} {β:Type} {F:((Int×Int×List (List Pk))->Option β)->(Int×Int×List (List Pk))->Option β} {kx:Int->List (List Pk)->Option β}
  (hF:∀ ag n i rs,F ag (n,i,rs)=aa (decide (i < ((rs.length:Nat):Int))) (aa (decide (0<=i)) (aa (Nat.blt i.toNat rs.length) (Q1 (rs[i.toNat]?) fun a=>Q1 (rs[i.toNat]?) fun b=>aa (Nat.beq b.length a.length) (Q1 (LW (d+1) a n) fun z=>ag (z.1,IntKind.i64.wrap (i+1),rs.set i.toNat z.2)) none) none) none) (kx n rs)) :
  ∀ (r:List (List Pk)) {p:List (List Pk)} {k fuel:Nat},r.length < fuel->p.length+r.length<=2000000->(∀ q∈r,q.length<=1048576)->k+6*r.flatten.length<=100000000 ->
  Q9 F fuel ((k:Int),((p.length:Nat):Int),p++r)=kx ((k+6*r.flatten.length:Nat):Int) (p++wm k r)
 | _,p,k,0,h,_,_,_=>by omega
 | [],p,k,fuel+1,h,h2,_,h3=>by
  simp only [Q9]
  rw [hF,List.append_nil,bD,Q5]
  simp [wm]
 | q::r,p,k,fuel+1,h,h2,hq,h3=>by
  simp only [Z9,Ze,Zf] at h h2 h3
  have au:p.length < (p++q::r).length:=by simp
  have hg:(p++q::r)[p.length]? = some q:=by simp
  simp only [Q9]
  rw [hF,Z5 (show ((p.length:Nat):Int) < (((p++q::r).length:Nat):Int) by omega),Q4,nn,Q4,Q3,Qo au,Q4,hg,Q8,Q8,show Nat.beq q.length q.length=true by rw [Nat.beq_eq],Q4,e83]
  have h1:=Qvi (d:=d) q (p:=[]) (k:=k) (fuel:=Qd) (by have:=hq q (by simp);rw [Q6];omega) (by have:=hq q (by simp);simp;omega) (by omega)
  rw [List.nil_append,List.nil_append] at h1
  rw [show ((([]:List Pk).length:Nat):Int)=0 from rfl] at h1
  rw [h1,Q8]
  simp only []
  rw [FR,aN (by omega)]
  have:=Qhr hF r (p:=p++[nk k q.length]) (k:=k+6*q.length) (fuel:=fuel) (by omega) (by simp;omega) (fun x hx=>hq x (by simp [hx])) (by omega)
  rw [Zf,show (p++[nk k q.length])++r=p++nk k q.length::r by simp] at this
  simp only [Z9,Zb,wm,Ze,Zf]
  rw [show k+6*(q.length+r.flatten.length)=k+6*q.length+6*r.flatten.length by omega,show p++nk k q.length::wm (k+6*q.length) r=(p++[nk k q.length])++wm (k+6*q.length) r by simp]
  exact this
theorem Qdf {d k:Nat} {β:Type} {F:((Int×Int×List (List Pk))->Option β)->(Int×Int×List (List Pk))->Option β} {kx:Int->List (List Pk)->Option β} {rows:List (List Pk)}
  (hF:∀ ag n i rs,F ag (n,i,rs)=aa (decide (i < ((rs.length:Nat):Int))) (aa (decide (0<=i)) (aa (Nat.blt i.toNat rs.length) (Q1 (rs[i.toNat]?) fun a=>Q1 (rs[i.toNat]?) fun b=>aa (Nat.beq b.length a.length) (Q1 (LW (d+1) a n) fun z=>ag (z.1,IntKind.i64.wrap (i+1),rs.set i.toNat z.2)) none) none) none) (kx n rs))
  (h:Mr rows) (hf:rows.flatten.length<=1048576) (hk:k<=50000000):Q9 F Qd ((k:Int),0,rows)=kx ((k+6*rows.flatten.length:Nat):Int) (wm k rows) :=
 Qhr hF rows (p:=[]) (by have:=h.1;rw [Q6];omega) (by have:=h.1;simp;omega) h.2 (by omega)
theorem Qhs {d:Nat} {l:List (List Pk)}:∀ (r:List (List Pk)) {p:List (List Pk)} {k fuel:Nat},l=p++wm k r->r.length < fuel->p.length+r.length<=2000000->(∀ q∈r,q.length<=1048576)->k+6*r.flatten.length<=100000000 ->
  Q9 (sq (d+1) l (xW (d+1))) fuel ((k:Int),0,((p.length:Nat):Int))=some ((k+6*r.flatten.length:Nat):Int)
 | _,p,k,0,_,h,_,_,_=>by omega
 | [],p,k,fuel+1,e,h,h2,_,h3=>by
  simp only [wm,List.append_nil] at e
  subst e
  simp only [Q9,sq]
  rw [bD,Q5]
  unfold xW
  simp
 | q::r,p,k,fuel+1,e,h,h2,hq,h3=>by
  simp only [Z9,Ze,Zf] at h h2 h3
  have hg:l[p.length]? = some (nk k q.length):=by rw [e];simp [wm]
  have au:=(Z0 hg).1
  simp only [Q9,sq,Q3,nn,Q4]
  rw [Z5 (show ((p.length:Nat):Int) < ((l.length:Nat):Int) by omega),Q4,hg,Q8,e86]
  have h1:=Qvj (d:=d) q.length (p:=[]) (k:=k) (fuel:=Qd) rfl (by have:=hq q (by simp);rw [Q6];omega) (by have:=hq q (by simp);simp;omega) (by omega)
  rw [show ((([]:List Pk).length:Nat):Int)=0 from rfl,List.nil_append] at h1
  rw [h1,Q8,Z4 (by omega),Q5,aN (by omega)]
  have:=Qhs (d:=d) (l:=l) r (p:=p++[nk k q.length]) (k:=k+6*q.length) (fuel:=fuel) (by rw [e];simp [wm]) (by omega) (by simp;omega) (fun x hx=>hq x (by simp [hx])) (by omega)
  rw [Zf] at this
  simp only [Z9,Zb,Ze,Zf] at this ⊢
  rw [show k+6*(q.length+r.flatten.length)=k+6*q.length+6*r.flatten.length by omega]
  exact this
def w_ (r:Rg):Prop:=Bo r.1/\(r.2.1.1.length<=1048576/\r.2.1.2.length<=1048576)/\r.2.2.1.length<=1000/\∀ q∈r.2.2.1,q.length<=1000
theorem w_.l {r:Rg} (h:w_ r):Ms r/\r.2.2.1.flatten.length<=1000000:=by
 obtain ⟨h1,⟨h2,h3⟩,h4,h5⟩:=h
 have:=PL h5
 exact ⟨⟨h1,h2,h3,by omega,fun q hq=>by have:=h5 q hq;omega⟩,by omega⟩
def Li (r:Rg):Rg:=(VX 1 r.1,nj (B_ 1 r.1) r.2.1,wm (Jg (B_ 1 r.1) r.2.1) r.2.2.1,r.2.2.2)
def xd (r:Rg):Nat:=Jg (B_ 1 r.1) r.2.1+6*r.2.2.1.flatten.length
theorem Qq4 {d:Nat} {r:Rg} (h:w_ r):g14 (d+3) (Li r) ((1:Nat):Int)=some ((xd r:Nat):Int):=by
 obtain ⟨h1,⟨h2,h3⟩,h4,h5⟩:=h
 have hf:=PL h5
 have hL:=O3 (k:=1) h1
 rw [e14]
 unfold Li
 simp only []
 rw [Qhk h1 (by omega),Q8,Z4 (by omega),Q5,Qhl h2 h3 (by omega),Q8,Z4 (by omega),Q5,e42]
 have:=Qhs (d:=d) r.2.2.1 (p:=[]) (k:=Jg (B_ 1 r.1) r.2.1) (fuel:=Qd) rfl (by rw [Q6];omega) (by simp;omega) (fun q hq=>by have:=h5 q hq;omega) (by unfold Jg;omega)
 rw [show ((([]:List (List Pk)).length:Nat):Int)=0 from rfl,List.nil_append] at this
 rw [this,Q8,Z4 (by omega),Q5]
 rfl
end Go.Proofs.YtcoimfbmgjhcjabGreatDoor
