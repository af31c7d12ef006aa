/-
  Configurations by value. And what stood behind it in 5 texts.
  Conditions: said at the theorems.
-/
import Derived.Test.YtcoimfbmgjhcjaaGreatDoorK15
set_option linter.all false
namespace Go.Proofs.YtcoimfbmgjhcjaaGreatDoor
open Go.Ev Go.Pv
instance aad:DecidableEq (Int×Int×Int×Int):=inferInstance
theorem Quo {p:aC->Bool}:∀ {l:List aC},(∀ y∈l,p y=true)->l.takeWhile p=l
 | [],_=>rfl
 | z::l,h=>by rw [List.takeWhile_cons,if_pos (h z (by simp)),Quo (fun y hy=>h y (by simp [hy]))]
def rX (l:List aC) (x:aC):List aC:=(l.takeWhile fun y=>decide (y.1 < x.1))++x::l.dropWhile fun y=>decide (y.1 < x.1)
def Ff (l:List aC):List aC:=cD (fun x _ t=>rX t x) l 0 []
theorem Qhi {l:List aC} {x:aC}:(rX l x).Perm (x::l):=by
 unfold rX
 refine List.perm_middle.trans (List.Perm.cons x ?_)
 rw [List.takeWhile_append_dropWhile]
theorem Qsg {l:List aC} {x:aC}:(rX l x).length=l.length+1:=by rw [Qhi.length_eq];rfl
theorem Q9v {x:aC}:∀ {l:List aC},di cu l->∀ y∈l.dropWhile (fun y=>decide (y.1 < x.1)),x.1<=y.1
 | [],_,y,hy=>by simp at hy
 | z::l,h,y,hy=>by
  rw [List.dropWhile_cons] at hy
  have h':=List.pairwise_cons.1 h
  by_cases hz:z.1 < x.1
  .rw [if_pos (by simpa using hz)] at hy
   exact Q9v h'.2 y hy
  .rw [if_neg (by simpa using hz)] at hy
   rcases Z2 hy with rfl | hy
   .omega
   .have:=h'.1 y hy;unfold cu at this;omega
theorem Q9w {x:aC}:∀ {l:List aC},∀ y∈l.takeWhile (fun y=>decide (y.1 < x.1)),y.1 < x.1
 | [],y,hy=>by simp at hy
 | z::l,y,hy=>by
  rw [List.takeWhile_cons] at hy
  by_cases hz:z.1 < x.1
  .rw [if_pos (by simpa using hz)] at hy
   rcases Z2 hy with rfl | hy
   .exact hz
   .exact Q9w y hy
  .rw [if_neg (by simpa using hz)] at hy;simp at hy
theorem Qsh {l:List aC} {x:aC} (h:di cu l):di cu (rX l x):=by
 have hl:di cu (l.takeWhile (fun y=>decide (y.1 < x.1))++l.dropWhile (fun y=>decide (y.1 < x.1))):=by rw [List.takeWhile_append_dropWhile];exact h
 unfold rX di
 unfold di at hl
 rw [List.pairwise_append] at hl ⊢
 refine ⟨hl.1,List.pairwise_cons.2 ⟨fun y hy=>Q9v h y hy,hl.2.1⟩,fun a ha b hb=>?_⟩
 rcases Z2 hb with rfl | hb
 .have:=Q9w a ha;unfold cu;omega
 .exact hl.2.2 a ha b hb
theorem U7:∀ (l:List aC) (i:Nat) (t:List aC),di cu t->di cu (cD (fun x _ t=>rX t x) l i t)/\(cD (fun x _ t=>rX t x) l i t).Perm (l++t)
 | [],i,t,h=>⟨h,List.Perm.refl _⟩
 | x::r,i,t,h=>by
  simp only [cD]
  obtain ⟨h1,h2⟩:=U7 r (i+1) (rX t x) (Qsh h)
  refine ⟨h1,h2.trans ?_⟩
  exact (List.Perm.append_left r Qhi).trans List.perm_middle
theorem YG {l:List aC}:di cu (Ff l):=(U7 l 0 [] List.Pairwise.nil).1
theorem Bx {l:List aC}:(Ff l).Perm l:=by
 have:=(U7 l 0 [] List.Pairwise.nil).2
 rw [List.append_nil] at this;exact this
theorem RD {l:List aC} (h:rm l=true):(l.map (·.1)).Nodup:=by
 rw [List.nodup_iff_pairwise_ne,List.pairwise_map,List.pairwise_iff_getElem]
 intro i j hi hj ng e
 have:=Kc h j i _ _ ng (Z6 hi) (Z6 hj)
 omega
theorem YH {l:List aC} (h:(l.map (·.1)).Nodup) {a b:aC} (ha:a∈l) (hb:b∈l) (e:a.1=b.1):a=b:=by
 obtain ⟨i,hi⟩:=List.getElem?_of_mem ha
 obtain ⟨j,hj⟩:=List.getElem?_of_mem hb
 obtain ⟨hi1,hi2⟩:=Z0 hi
 obtain ⟨UB,uF⟩:=Z0 hj
 have:=(List.getElem_inj (h₀:=show i < (l.map (·.1)).length by simpa using hi1) (h₁:=show j < (l.map (·.1)).length by simpa using UB) h).1 (by simp [hi2,uF,e])
 subst this
 rw [<- hi2,<- uF]
theorem Qz2 {l S:List aC} (h:cR cu l S) (hd:(l.map (·.1)).Nodup):S=Ff l:=by
 refine List.Perm.eq_of_pairwise (le:=fun a b=>cu a<=cu b) (fun a b ha hb h1 h2=>?_) h.vN YG (h.perm.trans Bx.symm)
 unfold cu at h1 h2
 exact YH hd (h.perm.mem_iff.1 ha) (Bx.mem_iff.1 hb) (by omega)
theorem RG {c:Cf} {l:List aC} (h:gb c=true) (hp:c.2.1.Perm l):(l.map (·.1)).Nodup:=by
 have hc:=(q_ h).cl
 unfold kE at hc
 simp only [Z8] at hc
 exact (hp.map _).nodup_iff.1 (RD hc.2.1)
def By (x:Ld):Int:=if 0<=x.2.2.2.2.2.2.2.2/\x.2.2.2.2.2.2.2.2 < ((x.2.1.length:Nat):Int) then (aX x.2.1 x.2.2.2.2.2.2.2.2).1 else 0
def fK (x:Ld):Cf:=(x.1,Ff x.2.1,x.2.2.2.2.2.2.1,By x)
theorem U8 {x:Ld} {c:Cf} (h1:c.1=x.1) (h2:cR cu x.2.1 c.2.1) (h3:c.2.2.1=x.2.2.2.2.2.2.1) (h4:c.2.2.2=By x):gb c=gb (fK x)/\(gb (fK x)=true->c=fK x):=by
 obtain ⟨c1,c2,c3,c4⟩:=c
 simp only at h1 h2 h3 h4
 subst h1 h3 h4
 by_cases hd:(x.2.1.map (·.1)).Nodup
 .have e:=Qz2 h2 hd
  subst e
  exact ⟨rfl,fun _=>rfl⟩
 .have e1:gb (x.1,c2,x.2.2.2.2.2.2.1,By x)=false:=Bool.eq_false_iff.2 fun h=>hd (RG h h2.perm)
  have e2:gb (fK x)=false:=Bool.eq_false_iff.2 fun h=>hd (RG h Bx)
  exact ⟨by rw [e1,e2],fun h=>by rw [e2] at h;simp at h⟩
theorem U9 {d:Nat} {l:List aC} {b:Bool} (hl:l.length<=1000000):Ok (BP (d+25) l b) fun r=>cR cu l r:=by
 rw [Tx]
 exact Ok.bind (Qpc hl) fun r hr=>Ok.some hr
theorem Qsi {d:Nat} {x:Ld} (hl:x.2.1.length<=1000) (hf:x.2.2.2.2.2.2.1.length<=1000):Ok (Tz (d+26) x) fun c=>c.1=x.1/\cR cu x.2.1 c.2.1/\c.2.2.1=x.2.2.2.2.2.2.1/\c.2.2.2=By x:=by
 rw [e60,Qsb hl,Q9,Qll (by omega),Q9]
 unfold yh By
 by_cases h0:x.2.2.2.2.2.2.2.2>=0
 .rw [Z5 h0,Q4]
  by_cases h1:x.2.2.2.2.2.2.2.2 < ((x.2.1.length:Nat):Int)
  .rw [Z5 h1,Q4,Q4,Gv h0 h1,Q9,if_pos ⟨h0,h1⟩]
   exact Ok.bind (U9 (by omega)) fun r hr=>Ok.some ⟨rfl,hr,rfl,rfl⟩
  .rw [Z4 h1,Q5,if_neg (fun h=>h1 h.2)]
   exact Ok.bind (U9 (by omega)) fun r hr=>Ok.some ⟨rfl,hr,rfl,rfl⟩
 .rw [Z4 h0,Q5,Q5,if_neg (fun h=>h0 h.1)]
  exact Ok.bind (U9 (by omega)) fun r hr=>Ok.some ⟨rfl,hr,rfl,rfl⟩
theorem Qw9 {d:Nat} {l:List aC} {x:aC} (hl:l.length<=10000):BI (d+1) l x=some (rX l x):=by
 rw [Sq]
 have fin:kT d l x (((l.takeWhile fun y=>decide (y.1 < x.1)).length:Nat):Int)=some (rX l x):=by
  have hle:(l.takeWhile fun y=>decide (y.1 < x.1)).length<=l.length:=by
   have:=congrArg List.length (List.takeWhile_append_dropWhile (p:=fun y:aC=>decide (y.1 < x.1)) (l:=l))
   rw [Zf] at this;omega
  have ht:l.take (l.takeWhile fun y=>decide (y.1 < x.1)).length=l.takeWhile fun y=>decide (y.1 < x.1):=by
   conv=>lhs;arg 2;rw [<- List.takeWhile_append_dropWhile (p:=fun y:aC=>decide (y.1 < x.1)) (l:=l)]
   rw [List.take_left]
  have hd:l.drop (l.takeWhile fun y=>decide (y.1 < x.1)).length=l.dropWhile fun y=>decide (y.1 < x.1):=by
   conv=>lhs;arg 2;rw [<- List.takeWhile_append_dropWhile (p:=fun y:aC=>decide (y.1 < x.1)) (l:=l)]
   rw [List.drop_left]
  unfold kT
  simp only [nn,Q3,Q4]
  rw [K9 hle,Q4,Q4,room (by simp;omega),Q4,room (by simp;omega),Q4,room (by simp;omega),Q4,ht,hd]
  unfold rX
  simp
 have key:∀ (B A:List aC) (fuel:Nat),l=A++B->(∀ y∈A,y.1 < x.1)->B.length < fuel->Q8 (kU d l x (kT d l x)) fuel ((A.length:Nat):Int)=some (rX l x):=by
  intro B
  induction B with
  | nil =>
   intro A fuel e hA hf
   obtain ⟨g,rfl⟩:∃ g,fuel=g+1:=⟨fuel - 1,by omega⟩
   rw [List.append_nil] at e
   have ht:(l.takeWhile fun y=>decide (y.1 < x.1))=A:=by rw [e];exact Quo (fun y hy=>by simpa using hA y hy)
   simp only [Q8,kU]
   rw [show (l.length:Int)=((A.length:Nat):Int) by rw [e],bB,Q5]
   rw [ht] at fin;exact fin
  | cons z B ih =>
   intro A fuel e hA hf
   obtain ⟨g,rfl⟩:∃ g,fuel=g+1:=⟨fuel - 1,by omega⟩
   have au:A.length < l.length:=by rw [e];simp
   have hg:l[A.length]? = some z:=by rw [e];simp
   simp only [Q8,kU]
   rw [Z5 (show ((A.length:Nat):Int) < ((l.length:Nat):Int) by omega),Q4,nn,Q4,Q3,hg,Q9]
   by_cases hz:z.1 < x.1
   .rw [Z5 hz,Q4,aN (by omega)]
    have:=ih (A++[z]) g (by rw [e];simp) (fun y hy=>by
     rcases List.mem_append.1 hy with h | h
     .exact hA y h
     .simp at h;subst h;exact hz) (by simpa using hf)
    rw [Zf] at this
    exact this
   .rw [Z4 hz,Q5]
    have ht:(l.takeWhile fun y=>decide (y.1 < x.1))=A:=by
     rw [e,List.takeWhile_append_of_pos (fun y hy=>by simpa using hA y hy),List.takeWhile_cons,if_neg (by simpa using hz),List.append_nil]
    rw [ht] at fin;exact fin
 exact key l [] Qd rfl (by simp) (by rw [Q6];omega)
theorem Qsj {d:Nat} {x:Ld} (hl:x.2.1.length<=1000) (hf:x.2.2.2.2.2.2.1.length<=1000):Sr (d+2) x=some (fK x):=by
 rw [e57,room (by simp;omega),Q4,List.nil_append]
 refine (Qc (fun (t:List aC) (i:Int)=>(i,((x.1,t,x.2.2.2.2.2.2.1,0):Cf))) x.2.1 (fun y _ t k=>Q1 (BI (d+1) t y) fun r=>k r) (fun t=>w6 (d+1) x x.1 0 t x.2.2.2.2.2.2.1) ?_ ?_ (by rw [Q6];omega) []).trans ?_
 .intro ag t i y hx
  have hi:=(Z0 hx).1
  simp only [w7,bW hx,nn,Q3,hx,Q9,Q4]
  rw [aN (by omega)]
 .intro ag t;simp only [w7,bB,Q5]
 .rw [UW (f:=fun y _ t=>rX t y) (fun k t=>t.length=k) x.2.1 0 [] rfl (fun j y t k hy ht=>by
   have hj:=(Z0 hy).1
   rw [Qw9 (by omega),Q9]
   exact ⟨rfl,by rw [Qsg];omega⟩)]
  unfold w6
  rw [vG,Q9]
  show _=some (x.1,Ff x.2.1,x.2.2.2.2.2.2.1,By x)
  unfold By
  rw [wr (by omega) (by omega)]
  by_cases h:0<=x.2.2.2.2.2.2.2.2/\x.2.2.2.2.2.2.2.2 < ((x.2.1.length:Nat):Int)
  .rw [if_pos h,Z5 (show 0<=x.2.2.2.2.2.2.2.2/\x.2.2.2.2.2.2.2.2<=((x.2.1.length:Nat):Int) - 1 by omega),Q4,Z5 h.1,Q4,Gv h.1 h.2,Q9]
   rfl
  .rw [if_neg h,Z4 (show ¬ (0<=x.2.2.2.2.2.2.2.2/\x.2.2.2.2.2.2.2.2<=((x.2.1.length:Nat):Int) - 1) by omega),Q5]
   rfl
theorem IT {α:Type} [DecidableEq α]:∀ {a b:List α} {i:Nat} {c:List α},i=c.length->a.length=b.length->eI (fun x j=>decide ((c++b)[j]? = some x)) a i=decide (a=b)
 | [],[],i,c,_,_=>by simp [eI]
 | x::a,y::b,i,c,hi,h=>by
  subst hi
  have h1:(c++y::b)[c.length]? = some y:=by simp
  have ih:=IT (a:=a) (b:=b) (i:=c.length+1) (c:=c++[y]) (by simp) (by simpa using h)
  rw [show c++[y]++b=c++y::b by simp] at ih
  simp only [eI]
  rw [ih,h1]
  by_cases gH:x=y
  .subst gH;simp
  .rw [Z4 (show ¬ some y=some x by simp;exact fun e=>gH e.symm),Bool.false_and,Z4 (by simp [gH])]
 | [],_::_,_,_,_,h=>by simp at h
 | _::_,[],_,_,_,h=>by simp at h
theorem Lw {d:Nat} {a b:List Int} (hl:a.length < 4000000):qj (d+1) a b=some (decide (a=b)):=by
 rw [TU]
 by_cases h:a.length=b.length
 case neg=>rw [show ((((a.length:Nat):Int)) != ((b.length:Nat):Int))=true by simp;omega,Q4,Z4 (fun e=>h (by rw [e]))]
 rw [show ((((a.length:Nat):Int)) != ((b.length:Nat):Int))=false by simp;omega,Q5]
 refine (Qc (fun (t:Bool) (i:Int)=>(t,i)) a (fun x i t k=>aa (decide (([]++b)[i]? = some x)) (k t) (some false)) (fun _=>some true) ?_ ?_ (by rw [Q6];omega) false).trans ?_
 .intro ag t i x hx;have hi:=(Z0 hx).1;simp only [qi,bW hx,nn,Q3,hx,Q9,Q4];rw [aN (by omega)]
  have hb:i < b.length:=by omega
  rw [List.nil_append,Z6 hb,Q9]
  by_cases gH:x=b[i]
  .rw [show (x != b[i])=false by simp [gH],Q5,Z5 (by rw [gH]),Q4]
  .rw [show (x != b[i])=true by simp [gH],Q4,Z4 (show ¬ some b[i]=some x by simp;exact fun e=>gH e.symm),Q5]
 .intro ag t;simp only [qi,bB,Q5];rfl
 .rw [qp,IT (i:=0) (c:=[]) rfl h];cases decide (a=b)<;>rfl
theorem Lx {d:Nat} {a b:List Int} (hl:a.length < 4000000):o9 (d+1) a b=some (decide (a=b)):=by
 rw [Sx]
 by_cases h:a.length=b.length
 case neg=>rw [show ((((a.length:Nat):Int)) != ((b.length:Nat):Int))=true by simp;omega,Q4,Z4 (fun e=>h (by rw [e]))]
 rw [show ((((a.length:Nat):Int)) != ((b.length:Nat):Int))=false by simp;omega,Q5]
 refine (Qc (fun (t:Bool) (i:Int)=>(t,i)) a (fun x i t k=>aa (decide (([]++b)[i]? = some x)) (k t) (some false)) (fun _=>some true) ?_ ?_ (by rw [Q6];omega) false).trans ?_
 .intro ag t i x hx;have hi:=(Z0 hx).1;simp only [o8,bW hx,nn,Q3,hx,Q9,Q4];rw [aN (by omega)]
  have hb:i < b.length:=by omega
  rw [List.nil_append,Z6 hb,Q9]
  by_cases gH:x=b[i]
  .rw [show (x != b[i])=false by simp [gH],Q5,Z5 (by rw [gH]),Q4]
  .rw [show (x != b[i])=true by simp [gH],Q4,Z4 (show ¬ some b[i]=some x by simp;exact fun e=>gH e.symm),Q5]
 .intro ag t;simp only [o8,bB,Q5];rfl
 .rw [qp,IT (i:=0) (c:=[]) rfl h];cases decide (a=b)<;>rfl
theorem Qup {x y:aC}:((x.1==y.1)&&((x.2.1==y.2.1)&&((x.2.2.1==y.2.2.1)&&((x.2.2.2.1==y.2.2.2.1)&&((x.2.2.2.2.1==y.2.2.2.2.1)&&((x.2.2.2.2.2.1==y.2.2.2.2.2.1)&&((x.2.2.2.2.2.2.1==y.2.2.2.2.2.2.1)&&((x.2.2.2.2.2.2.2==y.2.2.2.2.2.2.2)&&true))))))))=decide (x=y):=by
 obtain ⟨x1,x2,x3,x4,x5,x6,x7,x8⟩:=x
 obtain ⟨y1,y2,y3,y4,y5,y6,y7,y8⟩:=y
 rw [Bool.eq_iff_iff];simp
theorem Qz3 {x y:dU}:((x.1==y.1)&&((x.2.1==y.2.1)&&((x.2.2.1==y.2.2.1)&&((x.2.2.2.1==y.2.2.2.1)&&((x.2.2.2.2==y.2.2.2.2)&&true)))))=decide (x=y):=by
 obtain ⟨x1,x2,x3,x4,x5⟩:=x
 obtain ⟨y1,y2,y3,y4,y5⟩:=y
 rw [Bool.eq_iff_iff];simp
theorem U_ {d:Nat} {a b:List aC} (hl:a.length < 4000000):Gi (d+1) a b=some (decide (a=b)):=by
 rw [TT]
 by_cases h:a.length=b.length
 case neg=>rw [show ((((a.length:Nat):Int)) != ((b.length:Nat):Int))=true by simp;omega,Q4,Z4 (fun e=>h (by rw [e]))]
 rw [show ((((a.length:Nat):Int)) != ((b.length:Nat):Int))=false by simp;omega,Q5]
 refine (Qc (fun (t:Bool) (i:Int)=>(t,i)) a (fun x i t k=>aa (decide (([]++b)[i]? = some x)) (k t) (some false)) (fun _=>some true) ?_ ?_ (by rw [Q6];omega) false).trans ?_
 .intro ag t i x hx;have hi:=(Z0 hx).1;simp only [qh,bW hx,nn,Q3,hx,Q9,Q4];rw [aN (by omega)]
  have hb:i < b.length:=by omega
  rw [List.nil_append,Z6 hb,Q9,Qup]
  by_cases gH:x=b[i]
  .rw [Z5 gH,Zl,Q5,Z5 (by rw [gH]),Q4]
  .rw [Z4 gH,Bool.not_false,Q4,Z4 (show ¬ some b[i]=some x by simp;exact fun e=>gH e.symm),Q5]
 .intro ag t;simp only [qh,bB,Q5];rfl
 .rw [qp,IT (i:=0) (c:=[]) rfl h];cases decide (a=b)<;>rfl
def Dl (x y:Ld):Bool:=decide (x.2.1=y.2.1)&&(decide (x.2.2.1=y.2.2.1)&&(decide (x.2.2.2.1=y.2.2.2.1)&&(decide (x.2.2.2.2.1=y.2.2.2.2.1)&&(decide (x.2.2.2.2.2.1=y.2.2.2.2.2.1)&&(decide (x.2.2.2.2.2.2.2.1=y.2.2.2.2.2.2.2.1)&&(x.2.2.2.2.2.2.2.2==y.2.2.2.2.2.2.2.2))))))
def fD (x:Ld):Bool:=decide (x.2.1.length<=24/\x.2.2.2.2.2.2.1.length<=16)&&(gb (fK x)&&Dl x (bT (fK x)))
def BE (x:Ld):Prop:=x.1.size < 4000000/\x.2.1.length < 4000000/\x.2.2.1.length < 4000000/\x.2.2.2.1.length < 4000000/\x.2.2.2.2.1.length < 4000000/\x.2.2.2.2.2.1.length < 4000000/\x.2.2.2.2.2.2.1.length < 4000000/\x.2.2.2.2.2.2.2.1.length < 4000000
theorem Qms {d:Nat} {x:Ld} (h:BE x):TW (d+27) x=some (fD x):=by
 obtain ⟨z1,z2,z3,z4,z5,z6,z7,z8⟩:=h
 rw [e87]
 unfold yE fD
 by_cases h1:x.2.1.length<=24
 case neg=>rw [Z5 (show ((x.2.1.length:Nat):Int) > 24 by omega),Q4,Q4,Z4 (fun h=>h1 h.1)];rfl
 rw [Z4 (show ¬ ((x.2.1.length:Nat):Int) > 24 by omega),Q5]
 by_cases h2:x.2.2.2.2.2.2.1.length<=16
 case neg=>rw [Z5 (show ((x.2.2.2.2.2.2.1.length:Nat):Int) > 16 by omega),Q4,Z4 (fun h=>h2 h.2)];rfl
 rw [Z4 (show ¬ ((x.2.2.2.2.2.2.1.length:Nat):Int) > 16 by omega),Q5,Z5 ⟨h1,h2⟩,Zg]
 obtain ⟨c,hc,c1,c2,c3,c4⟩:=Qsi (d:=d) (x:=x) (by omega) (by omega)
 obtain ⟨u1,u2⟩:=U8 c1 c2 c3 c4
 have eT:=c2.len
 rw [hc,Q9,show d+26=(d+18)+8 by omega,YR (by omega) (by rw [c3];omega),Q9,u1]
 cases hg:gb (fK x) with
 | false=>rfl
 | true =>
  have e:=u2 hg
  subst e
  rw [Zl,Q5,show d+18+8=(d+12)+14 by omega,YN (q_ hg),Q9,Zg]
  unfold Dl
  rw [show d+12+14=(d+25)+1 by omega,U_ (by omega),Q9]
  cases decide (x.2.1=(bT (fK x)).2.1) with
  | false=>rfl
  | true =>
  rw [Q4,Lw (by omega),Q9]
  cases decide (x.2.2.1=(bT (fK x)).2.2.1) with
  | false=>rfl
  | true =>
  rw [Q4,Lw (by omega),Q9]
  cases decide (x.2.2.2.1=(bT (fK x)).2.2.2.1) with
  | false=>rfl
  | true =>
  rw [Q4,Lw (by omega),Q9]
  cases decide (x.2.2.2.2.1=(bT (fK x)).2.2.2.2.1) with
  | false=>rfl
  | true =>
  rw [Q4,Lw (by omega),Q9]
  cases decide (x.2.2.2.2.2.1=(bT (fK x)).2.2.2.2.2.1) with
  | false=>rfl
  | true =>
  rw [Q4,Lw (by omega),Q9]
  cases decide (x.2.2.2.2.2.2.2.1=(bT (fK x)).2.2.2.2.2.2.2.1) with
  | false=>rfl
  | true=>rw [Q4];rfl
theorem Qsl {d:Nat} {u y:Ld} (h:BE u) (hn:u.1=y.1) (hf:u.2.2.2.2.2.2.1=y.2.2.2.2.2.2.1):Fy (d+2) u y=some (Dl u y):=by
 obtain ⟨z1,z2,z3,z4,z5,z6,z7,z8⟩:=h
 rw [Sy,Oz,Z5 (by rw [hn]),Zl,Q5]
 unfold jc Dl
 by_cases hc:u.2.1.length=y.2.1.length
 case neg=>rw [show ((((u.2.1.length:Nat):Int)) != ((y.2.1.length:Nat):Int))=true by simp;omega,Q4,Q4,Z4 (fun e=>hc (by rw [e]))];rfl
 rw [show ((((u.2.1.length:Nat):Int)) != ((y.2.1.length:Nat):Int))=false by simp;omega,Q5,show ((((u.2.2.2.2.2.2.1.length:Nat):Int)) != ((y.2.2.2.2.2.2.1.length:Nat):Int))=false by rw [hf];simp,Q5]
 by_cases hd:u.2.2.2.2.2.2.2.2=y.2.2.2.2.2.2.2.2
 case neg=>rw [show (u.2.2.2.2.2.2.2.2 != y.2.2.2.2.2.2.2.2)=true by simp [hd],Q4,show (u.2.2.2.2.2.2.2.2==y.2.2.2.2.2.2.2.2)=false by simp [hd]];simp
 rw [show (u.2.2.2.2.2.2.2.2 != y.2.2.2.2.2.2.2.2)=false by simp [hd],Q5,show (u.2.2.2.2.2.2.2.2==y.2.2.2.2.2.2.2.2)=true by simp [hd],Bool.and_true]
 refine (Qc (fun (t:Bool) (i:Int)=>(t,i)) u.2.1 (fun z i t k=>aa (decide (([]++y.2.1)[i]? = some z)) (k t) (some false)) (fun t=>pg (d+1) u y t) ?_ ?_ (by rw [Q6];omega) false).trans ?_
 .intro ag t i x hx;have hi:=(Z0 hx).1;simp only [pn,bW hx,nn,Q3,hx,Q9,Q4];rw [aN (by omega)]
  have hb:i < y.2.1.length:=by omega
  rw [List.nil_append,Z6 hb,Q9,Qup]
  by_cases gH:x=y.2.1[i]
  .rw [Z5 gH,Zl,Q5,Z5 (by rw [gH]),Q4]
  .rw [Z4 gH,Bool.not_false,Q4,Z4 (show ¬ some y.2.1[i]=some x by simp;exact fun e=>gH e.symm),Q5]
 .intro ag t;simp only [pn,bB,Q5]
 .rw [qp,IT (i:=0) (c:=[]) rfl hc]
  cases decide (u.2.1=y.2.1) with
  | false=>rfl
  | true =>
  rw [Q4,Zg]
  unfold pg
  have cF:u.2.2.2.2.2.2.1.length=y.2.2.2.2.2.2.1.length:=by rw [hf]
  refine (Qc (fun (t:Bool) (i:Int)=>(t,i)) u.2.2.2.2.2.2.1 (fun z i t k=>aa (decide (([]++y.2.2.2.2.2.2.1)[i]? = some z)) (k t) (some false)) (fun t=>o_ (d+1) u y t) ?_ ?_ (by rw [Q6];omega) false).trans ?_
  .intro ag t i x hx;have hi:=(Z0 hx).1;simp only [pe,bW hx,nn,Q3,hx,Q9,Q4];rw [aN (by omega)]
   have hb:i < y.2.2.2.2.2.2.1.length:=by omega
   rw [List.nil_append,Z6 hb,Q9,Qz3]
   by_cases gH:x=y.2.2.2.2.2.2.1[i]
   .rw [Z5 gH,Zl,Q5,Z5 (by rw [gH]),Q4]
   .rw [Z4 gH,Bool.not_false,Q4,Z4 (show ¬ some y.2.2.2.2.2.2.1[i]=some x by simp;exact fun e=>gH e.symm),Q5]
  .intro ag t;simp only [pe,bB,Q5]
  .rw [qp,IT (i:=0) (c:=[]) rfl cF,Z5 hf,Q4]
   unfold o_
   rw [Lx (by omega),Q9]
   cases decide (u.2.2.1=y.2.2.1) with
   | false=>rfl
   | true =>
   rw [Q4,Lx (by omega),Q9]
   cases decide (u.2.2.2.1=y.2.2.2.1) with
   | false=>rfl
   | true =>
   rw [Q4,Lx (by omega),Q9]
   cases decide (u.2.2.2.2.1=y.2.2.2.2.1) with
   | false=>rfl
   | true =>
   rw [Q4,Lx (by omega),Q9]
   cases decide (u.2.2.2.2.2.1=y.2.2.2.2.2.1) with
   | false=>rfl
   | true=>rw [Q4,Lx (by omega),Q9];rfl
theorem Qsm {d:Nat} {x:Ld} (h:BE x):Fz (d+11) x=some (fD x):=by
 have h':=h
 obtain ⟨z1,z2,z3,z4,z5,z6,z7,z8⟩:=h
 rw [Sz]
 unfold pq fD
 by_cases h1:x.2.1.length<=24
 case neg=>rw [Z5 (show ((x.2.1.length:Nat):Int) > 24 by omega),Q4,Q4,Z4 (fun h=>h1 h.1)];rfl
 rw [Z4 (show ¬ ((x.2.1.length:Nat):Int) > 24 by omega),Q5]
 by_cases h2:x.2.2.2.2.2.2.1.length<=16
 case neg=>rw [Z5 (show ((x.2.2.2.2.2.2.1.length:Nat):Int) > 16 by omega),Q4,Z4 (fun h=>h2 h.2)];rfl
 rw [Z4 (show ¬ ((x.2.2.2.2.2.2.1.length:Nat):Int) > 16 by omega),Q5,Z5 ⟨h1,h2⟩,Zg]
 rw [show d+10=(d+8)+2 by omega,Qsj (by omega) (by omega),Q9,show d+8+2=(d+5)+5 by omega,YS (c:=fK x) z1 (show x.2.2.2.2.2.2.1.length < 4000000 by omega),Q9]
 cases hg:gb (fK x) with
 | false=>rfl
 | true=>rw [Q4,show d+5+5=d+10 by omega,YO (q_ hg),Q9,show d+10=(d+8)+2 by omega,Qsl (y:=bT (fK x)) h' rfl rfl,Q9,Zg]
theorem Ly {α:Type} {l:List α} {z x:α} {k:Nat} (hx:l[k]? = some x):(l.take k++List.replicate (l.length - k) z).set k x=l.take (k+1)++List.replicate (l.length - (k+1)) z:=by
 have hk:=(Z0 hx).1
 have e:=(Z0 hx).2
 have hl:(l.take k).length=k:=by rw [List.length_take];omega
 rw [List.set_append_right _ _ (by omega),hl,Nat.sub_self,show l.length - k=(l.length - (k+1))+1 by omega,List.replicate_succ,List.set_cons_zero,List.take_succ_eq_append_getElem hk,e]
 simp
theorem Qde {d:Nat} {l:List aC} (hl:l.length<=1048576):Oh (d+2) l=some l:=by
 rw [e41,nn,Q4,Q4,Q3,show (Nat.ble l.length l.length&&Nat.ble (l.length*64) Q7)=true by rw [Z8,Nat.ble_eq,Nat.ble_eq];unfold Q7;omega,Q4]
 refine Ok.val (lX (fun j (s:Int×List aC)=>∃ k:Nat,k+j=l.length/\s.1=(k:Int)/\s.2=l.take k++List.replicate (l.length - k) ((0,0,0,0,0,0,0,0):aC)) ?_ _ l.length _ (by rw [Q6];omega) ⟨0,by omega,rfl,by simp⟩)
 rintro j ⟨n,r⟩ ag ⟨k,hk,h1,h2⟩ eu
 simp only at h1 h2
 subst h1
 have jZ:r.length=l.length:=by rw [h2];simp;omega
 simp only [DB]
 rcases Nat.lt_or_ge k l.length with au | sO
 .have hx:=Z6 au
  rw [bW hx,Q4,nn,Q4,Q3,hx,Q9,e86,Q9,Q4,Qp (by omega),Q4,Z6 (by omega),Q9,aN (by omega)]
  exact eu (j - 1) _ (by omega) ⟨k+1,by omega,rfl,by rw [h2];exact Ly hx⟩
 .have:k=l.length:=by omega
  subst this
  rw [bB,Q5]
  unfold DA
  exact Ok.some (by rw [h2];simp)
theorem Qb9 {d:Nat} {l:List dU} (hl:l.length<=1048576):Og (d+2) l=some l:=by
 rw [e27,nn,Q4,Q4,Q3,show (Nat.ble l.length l.length&&Nat.ble (l.length*40) Q7)=true by rw [Z8,Nat.ble_eq,Nat.ble_eq];unfold Q7;omega,Q4]
 refine Ok.val (lX (fun j (s:Int×List dU)=>∃ k:Nat,k+j=l.length/\s.1=(k:Int)/\s.2=l.take k++List.replicate (l.length - k) ((0,0,0,0,0):dU)) ?_ _ l.length _ (by rw [Q6];omega) ⟨0,by omega,rfl,by simp⟩)
 rintro j ⟨n,r⟩ ag ⟨k,hk,h1,h2⟩ eu
 simp only at h1 h2
 subst h1
 have jZ:r.length=l.length:=by rw [h2];simp;omega
 simp only [Dz]
 rcases Nat.lt_or_ge k l.length with au | sO
 .have hx:=Z6 au
  rw [bW hx,Q4,nn,Q4,Q3,hx,Q9,e64,Q9,Q4,Qp (by omega),Q4,Z6 (by omega),Q9,aN (by omega)]
  exact eu (j - 1) _ (by omega) ⟨k+1,by omega,rfl,by rw [h2];exact Ly hx⟩
 .have:k=l.length:=by omega
  subst this
  rw [bB,Q5]
  unfold Dy
  exact Ok.some (by rw [h2];simp)
theorem GJ {d:Nat} {l:List Int} (hl:l.length<=1048576):BM (d+1) l=some l:=by
 rw [e84,nn,Q4,Q4,Q3,show (Nat.ble l.length l.length&&Nat.ble (l.length*8) Q7)=true by rw [Z8,Nat.ble_eq,Nat.ble_eq];unfold Q7;omega,Q4]
 refine Ok.val (lX (fun j (s:Int×List Int)=>∃ k:Nat,k+j=l.length/\s.1=(k:Int)/\s.2=l.take k++List.replicate (l.length - k) (0:Int)) ?_ _ l.length _ (by rw [Q6];omega) ⟨0,by omega,rfl,by simp⟩)
 rintro j ⟨n,r⟩ ag ⟨k,hk,h1,h2⟩ eu
 simp only at h1 h2
 subst h1
 have jZ:r.length=l.length:=by rw [h2];simp;omega
 simp only [DD]
 rcases Nat.lt_or_ge k l.length with au | sO
 .have hx:=Z6 au
  rw [bW hx,Q4,nn,Q4,Q3,hx,Q9,Q4,Qp (by omega),Q4,Z6 (by omega),Q9,aN (by omega)]
  exact eu (j - 1) _ (by omega) ⟨k+1,by omega,rfl,by rw [h2];exact Ly hx⟩
 .have:k=l.length:=by omega
  subst this
  rw [bB,Q5]
  unfold DC
  exact Ok.some (by rw [h2];simp)
def Vc (n:Int) (k:Nat) (r:Int):Prop:=r < 0\/(0<=r/\r<=n/\(k:Int)<=n)
theorem Qdf {d:Nat} {l:List aC} {n:Int} (h0:0<=n) (h1:n<=1048576) (hl:l.length<=9223372036854775807):Ok (Oa (d+1) l n) fun r=>Vc n l.length r:=by
 rw [e34,wr (by omega) (by omega)]
 by_cases h:n - ((l.length:Nat):Int) < 0
 .rw [Z5 h,Q4];exact Ok.some (Or.inl (by omega))
 .rw [Z4 h,Q5];exact Ok.some (Or.inr ⟨by omega,by omega,by omega⟩)
theorem Qba {d:Nat} {l:List dU} {n:Int} (h0:0<=n) (h1:n<=1048576) (hl:l.length<=9223372036854775807):Ok (N_ (d+1) l n) fun r=>Vc n l.length r:=by
 rw [e25,wr (by omega) (by omega)]
 by_cases h:n - ((l.length:Nat):Int) < 0
 .rw [Z5 h,Q4];exact Ok.some (Or.inl (by omega))
 .rw [Z4 h,Q5];exact Ok.some (Or.inr ⟨by omega,by omega,by omega⟩)
theorem GK {d:Nat} {l:List Int} {n:Int} (h0:0<=n) (h1:n<=1048576) (hl:l.length<=9223372036854775807):Ok (BH (d+1) l n) fun r=>Vc n l.length r:=by
 rw [e68,wr (by omega) (by omega)]
 by_cases h:n - ((l.length:Nat):Int) < 0
 .rw [Z5 h,Q4];exact Ok.some (Or.inl (by omega))
 .rw [Z4 h,Q5];exact Ok.some (Or.inr ⟨by omega,by omega,by omega⟩)
theorem Qdg {d:Nat} {l:List aC} (hl:l.length<=2000000):Ot (d+2) l l=some true:=by
 rw [e48,bne_self_eq_false,Q5]
 refine (Qc (fun (t:Bool) (i:Int)=>(t,i)) l (fun x i t k=>k t) (DQ (d+1)) ?_ ?_ (by rw [Q6];omega) false).trans ?_
 .intro ag t i x hx;have hi:=(Z0 hx).1;simp only [zf,bW hx,nn,Q3,hx,Q9,Q4]
  rw [T7]
  simp only [bne_self_eq_false,Q5,Zl,Q9]
  rw [aN (by omega)]
 .intro ag t;simp only [zf,bB,Q5]
 .rw [wM (f:=fun _ _ t=>t)];rfl
theorem Qbb {d:Nat} {l:List dU} (hl:l.length<=2000000):Oq (d+2) l l=some true:=by
 rw [e29,bne_self_eq_false,Q5]
 refine (Qc (fun (t:Bool) (i:Int)=>(t,i)) l (fun x i t k=>k t) (DP (d+1)) ?_ ?_ (by rw [Q6];omega) false).trans ?_
 .intro ag t i x hx;have hi:=(Z0 hx).1;simp only [zd,bW hx,nn,Q3,hx,Q9,Q4]
  rw [e67]
  simp only [bne_self_eq_false,Q5,Zl,Q9]
  rw [aN (by omega)]
 .intro ag t;simp only [zd,bB,Q5]
 .rw [wM (f:=fun _ _ t=>t)];rfl
theorem Ds {d:Nat} {l:List Int} (hl:l.length<=2000000):g14 (d+1) l l=some true:=by
 rw [e14,bne_self_eq_false,Q5]
 refine (Qc (fun (t:Bool) (i:Int)=>(t,i)) l (fun x i t k=>k t) (DO d) ?_ ?_ (by rw [Q6];omega) false).trans ?_
 .intro ag t i x hx;have hi:=(Z0 hx).1;simp only [zb,bW hx,nn,Q3,hx,Q9,Q4]
  simp only [bne_self_eq_false,Q5]
  rw [aN (by omega)]
 .intro ag t;simp only [zb,bB,Q5]
 .rw [wM (f:=fun _ _ t=>t)];rfl
theorem Qmt {d:Nat} {c:Cf} (h1:c.2.1.length<=2000000) (h2:c.2.2.1.length<=2000000):g15 (d+3) c c=some true:=by
 rw [e15,beq_self_eq_true,Zl,Q5,Qdg h1,Q9,Zl,Q5,Qbb h2,Q9,Zl,Q5,bne_self_eq_false,Q5]
def AJ (x:Ld):Prop:=x.1.size<=1048576/\x.2.1.length<=1048576/\x.2.2.1.length<=1048576/\x.2.2.2.1.length<=1048576/\x.2.2.2.2.1.length<=1048576/\x.2.2.2.2.2.1.length<=1048576/\x.2.2.2.2.2.2.1.length<=1048576/\x.2.2.2.2.2.2.2.1.length<=1048576
theorem Qmu {d:Nat} {x:Ld} (h:AJ x):T8 (d+3) x x=some true:=by
 obtain ⟨z1,z2,z3,z4,z5,z6,z7,z8⟩:=h
 rw [e45,beq_self_eq_true,Zl,Q5,Qdg (by omega),Q9,Zl,Q5,Ds (by omega),Q9,Zl,Q5,Ds (by omega),Q9,Zl,Q5,Ds (by omega),Q9,Zl,Q5,Ds (by omega),Q9,Zl,Q5,Qbb (by omega),Q9,Zl,Q5,Ds (by omega),Q9,Zl,Q5,bne_self_eq_false,Q5]
theorem Qmv {d:Nat} {x:Ld} (h:AJ x):SO (d+3) x=some x:=by
 obtain ⟨z1,z2,z3,z4,z5,z6,z7,z8⟩:=h
 rw [e38,Qde z2,Q9,GJ z3,Q9,GJ z4,Q9,GJ z5,Q9,GJ z6,Q9,Qb9 z7,Q9,GJ z8,Q9]
def R6 (x:Ld):Prop:=x.1.size<=9223372036854775807/\x.2.1.length<=9223372036854775807/\x.2.2.1.length<=9223372036854775807/\x.2.2.2.1.length<=9223372036854775807/\x.2.2.2.2.1.length<=9223372036854775807/\x.2.2.2.2.2.1.length<=9223372036854775807/\x.2.2.2.2.2.2.1.length<=9223372036854775807/\x.2.2.2.2.2.2.2.1.length<=9223372036854775807
theorem Qmw {d:Nat} {x:Ld} {n:Int} (h0:0<=n) (h1:n<=1048576) (h:R6 x):Ok (Sb (d+2) x n) fun r=>r < 0\/(0<=r/\r<=n/\AJ x):=by
 obtain ⟨z1,z2,z3,z4,z5,z6,z7,z8⟩:=h
 have no:Ok (some (-1:Int)) fun r=>r < 0\/(0<=r/\r<=n/\AJ x):=Ok.some (Or.inl (by omega))
 rw [e31,wr (by omega) (by omega)]
 refine Ok.aa (fun _=>no) (fun hs=>?_)
 simp only [decide_eq_false_iff_not] at hs
 refine Ok.bind (Qdf (by omega) (by omega) z2) fun r3 g3=>?_
 refine Ok.aa (fun _=>no) (fun vM=>?_)
 simp only [decide_eq_false_iff_not] at vM
 have g3:=g3.resolve_left vM
 refine Ok.bind (GK (by omega) (by omega) z3) fun r4 g4=>?_
 refine Ok.aa (fun _=>no) (fun zH=>?_)
 simp only [decide_eq_false_iff_not] at zH
 have g4:=g4.resolve_left zH
 refine Ok.bind (GK (by omega) (by omega) z4) fun r5 g5=>?_
 refine Ok.aa (fun _=>no) (fun Lz=>?_)
 simp only [decide_eq_false_iff_not] at Lz
 have g5:=g5.resolve_left Lz
 refine Ok.bind (GK (by omega) (by omega) z5) fun r6 g6=>?_
 refine Ok.aa (fun _=>no) (fun hs6=>?_)
 simp only [decide_eq_false_iff_not] at hs6
 have g6:=g6.resolve_left hs6
 refine Ok.bind (GK (by omega) (by omega) z6) fun r7 g7=>?_
 refine Ok.aa (fun _=>no) (fun hs7=>?_)
 simp only [decide_eq_false_iff_not] at hs7
 have g7:=g7.resolve_left hs7
 refine Ok.bind (Qba (by omega) (by omega) z7) fun r8 g8=>?_
 refine Ok.aa (fun _=>no) (fun hs8=>?_)
 simp only [decide_eq_false_iff_not] at hs8
 have g8:=g8.resolve_left hs8
 refine Ok.bind (GK (by omega) (by omega) z8) fun r9 g9=>?_
 refine Ok.aa (fun _=>no) (fun hs9=>?_)
 simp only [decide_eq_false_iff_not] at hs9
 have g9:=g9.resolve_left hs9
 exact Ok.some (Or.inr ⟨by omega,by omega,by omega,by omega,by omega,by omega,by omega,by omega,by omega,by omega⟩)
theorem AJ.sz {x:Ld} (h:AJ x):BE x:=by
 obtain ⟨z1,z2,z3,z4,z5,z6,z7,z8⟩:=h
 exact ⟨by omega,by omega,by omega,by omega,by omega,by omega,by omega,by omega⟩
def mC (k:Nat):aC:=((k:Int),((k+1:Nat):Int),((k+1+1:Nat):Int),((k+1+1+1:Nat):Int),((k+1+1+1+1:Nat):Int),((k+1+1+1+1+1:Nat):Int),((k+1+1+1+1+1+1:Nat):Int),((k+1+1+1+1+1+1+1:Nat):Int))
def mF (k:Nat):dU:=((k:Int),((k+1:Nat):Int),((k+1+1:Nat):Int),((k+1+1+1:Nat):Int),((k+1+1+1+1:Nat):Int))
def uI:Nat->Nat->List aC
 | _,0=>[]
 | k,n+1=>mC k::uI (k+1+1+1+1+1+1+1+1) n
def uJ:Nat->Nat->List dU
 | _,0=>[]
 | k,n+1=>mF k::uJ (k+1+1+1+1+1) n
theorem Fe {α:Type} {p r:List α} {x y:α}:(p++x::r).set p.length y=p++y::r:=by
 rw [List.set_append_right _ _ (Zd _),Nat.sub_self,List.set_cons_zero]
theorem Quq {d:Nat}:∀ (r:List aC) {p:List aC} {k fuel:Nat},r.length < fuel->p.length+r.length<=2000000->k+8*r.length<=1000000000 ->
  Q8 (rR d (zw d)) fuel ((k:Int),((p.length:Nat):Int),p++r)=some (((k+8*r.length:Nat):Int),p++uI k r.length)
 | _,p,k,0,h,_,_=>by omega
 | [],p,k,fuel+1,h,h2,h3=>by
  simp only [Q8,rR]
  rw [List.append_nil,bB,Q5]
  unfold zw
  simp [uI]
 | x::r,p,k,fuel+1,h,h2,h3=>by
  simp only [Z9] at h h2 h3
  have au:p.length < (p++x::r).length:=by simp
  have hg:(p++x::r)[p.length]? = some x:=by simp
  simp only [Q8,rR,Q3,nn,Q4]
  rw [Z5 (show ((p.length:Nat):Int) < (((p++x::r).length:Nat):Int) by omega),Q4,Qp au,Q4,hg,Q9]
  simp only [List.length_set,List.set_set,List.getElem?_set_self au,Q9,Qp au,Q4]
  rw [Fe,aN (by omega),aN (by omega),aN (by omega),aN (by omega),aN (by omega),aN (by omega),aN (by omega),aN (by omega),aN (by omega)]
  have:=Quq (d:=d) r (p:=p++[mC k]) (k:=k+1+1+1+1+1+1+1+1) (fuel:=fuel) (by omega) (by simp;omega) (by omega)
  rw [Zf,show (p++[mC k])++r=p++mC k::r by simp] at this
  simp only [Z9,Zb,uI]
  rw [show k+8*(r.length+1)=k+1+1+1+1+1+1+1+1+8*r.length by omega,show p++mC k::uI (k+1+1+1+1+1+1+1+1) r.length=(p++[mC k])++uI (k+1+1+1+1+1+1+1+1) r.length by simp]
  exact this
theorem Qur {d:Nat} {l:List aC}:∀ (n:Nat) {p:List aC} {k fuel:Nat},l=p++uI k n->n < fuel->p.length+n<=2000000->k+8*n<=1000000000 ->
  Q8 (lU d l (qm d)) fuel ((k:Int),0,((p.length:Nat):Int))=some ((k+8*n:Nat):Int)
 | n,p,k,0,_,h,_,_=>by omega
 | 0,p,k,fuel+1,e,h,h2,h3=>by
  simp only [uI,List.append_nil] at e
  subst e
  simp only [Q8,lU]
  rw [bB,Q5]
  unfold qm
  simp
 | n+1,p,k,fuel+1,e,h,h2,h3=>by
  have hg:l[p.length]? = some (mC k):=by rw [e];simp [uI]
  have au:=(Z0 hg).1
  simp only [Q8,lU,Q3,nn,Q4]
  rw [Z5 (show ((p.length:Nat):Int) < ((l.length:Nat):Int) by omega),Q4,hg]
  simp only [Q9]
  rw [aN (by omega),aN (by omega),aN (by omega),aN (by omega),aN (by omega),aN (by omega),aN (by omega),aN (by omega),aN (by omega)]
  unfold mC
  simp only [bne_self_eq_false,Q5]
  have:=Qur (d:=d) (l:=l) n (p:=p++[mC k]) (k:=k+1+1+1+1+1+1+1+1) (fuel:=fuel) (by rw [e];simp [uI]) (by omega) (by simp;omega) (by omega)
  rw [Zf] at this
  simp only [Z9,Zb] at this
  rw [show k+8*(n+1)=k+1+1+1+1+1+1+1+1+8*n by omega]
  exact this
theorem Qus {d:Nat}:∀ (r:List dU) {p:List dU} {k fuel:Nat},r.length < fuel->p.length+r.length<=2000000->k+5*r.length<=1000000000 ->
  Q8 (rQ d (zu d)) fuel ((k:Int),((p.length:Nat):Int),p++r)=some (((k+5*r.length:Nat):Int),p++uJ k r.length)
 | _,p,k,0,h,_,_=>by omega
 | [],p,k,fuel+1,h,h2,h3=>by
  simp only [Q8,rQ]
  rw [List.append_nil,bB,Q5]
  unfold zu
  simp [uJ]
 | x::r,p,k,fuel+1,h,h2,h3=>by
  simp only [Z9] at h h2 h3
  have au:p.length < (p++x::r).length:=by simp
  have hg:(p++x::r)[p.length]? = some x:=by simp
  simp only [Q8,rQ,Q3,nn,Q4]
  rw [Z5 (show ((p.length:Nat):Int) < (((p++x::r).length:Nat):Int) by omega),Q4,Qp au,Q4,hg,Q9]
  simp only [List.length_set,List.set_set,List.getElem?_set_self au,Q9,Qp au,Q4]
  rw [Fe,aN (by omega),aN (by omega),aN (by omega),aN (by omega),aN (by omega),aN (by omega)]
  have:=Qus (d:=d) r (p:=p++[mF k]) (k:=k+1+1+1+1+1) (fuel:=fuel) (by omega) (by simp;omega) (by omega)
  rw [Zf,show (p++[mF k])++r=p++mF k::r by simp] at this
  simp only [Z9,Zb,uJ]
  rw [show k+5*(r.length+1)=k+1+1+1+1+1+5*r.length by omega,show p++mF k::uJ (k+1+1+1+1+1) r.length=(p++[mF k])++uJ (k+1+1+1+1+1) r.length by simp]
  exact this
theorem Qut {d:Nat} {l:List dU}:∀ (n:Nat) {p:List dU} {k fuel:Nat},l=p++uJ k n->n < fuel->p.length+n<=2000000->k+5*n<=1000000000 ->
  Q8 (lV d l (qn d)) fuel ((k:Int),0,((p.length:Nat):Int))=some ((k+5*n:Nat):Int)
 | n,p,k,0,_,h,_,_=>by omega
 | 0,p,k,fuel+1,e,h,h2,h3=>by
  simp only [uJ,List.append_nil] at e
  subst e
  simp only [Q8,lV]
  rw [bB,Q5]
  unfold qn
  simp
 | n+1,p,k,fuel+1,e,h,h2,h3=>by
  have hg:l[p.length]? = some (mF k):=by rw [e];simp [uJ]
  have au:=(Z0 hg).1
  simp only [Q8,lV,Q3,nn,Q4]
  rw [Z5 (show ((p.length:Nat):Int) < ((l.length:Nat):Int) by omega),Q4,hg]
  simp only [Q9]
  rw [aN (by omega),aN (by omega),aN (by omega),aN (by omega),aN (by omega),aN (by omega)]
  unfold mF
  simp only [bne_self_eq_false,Q5]
  have:=Qut (d:=d) (l:=l) n (p:=p++[mF k]) (k:=k+1+1+1+1+1) (fuel:=fuel) (by rw [e];simp [uJ]) (by omega) (by simp;omega) (by omega)
  rw [Zf] at this
  simp only [Z9,Zb] at this
  rw [show k+5*(n+1)=k+1+1+1+1+1+5*n by omega]
  exact this
def jL:Nat->Nat->List Int
 | _,0=>[]
 | k,n+1=>(k:Int)::jL (k+1) n
theorem Quu {d:Nat}:∀ (r:List Int) {p:List Int} {k fuel:Nat},r.length < fuel->p.length+r.length<=2000000->k+r.length<=1000000000 ->
  Q8 (rO d (zl d)) fuel ((k:Int),((p.length:Nat):Int),p++r)=some (((k+r.length:Nat):Int),p++jL k r.length)
 | _,p,k,0,h,_,_=>by omega
 | [],p,k,fuel+1,h,h2,h3=>by
  simp only [Q8,rO]
  rw [List.append_nil,bB,Q5]
  unfold zl
  simp [jL]
 | x::r,p,k,fuel+1,h,h2,h3=>by
  simp only [Z9] at h h2 h3
  have au:p.length < (p++x::r).length:=by simp
  have hg:(p++x::r)[p.length]? = some x:=by simp
  simp only [Q8,rO,Q3,nn,Q4]
  rw [Z5 (show ((p.length:Nat):Int) < (((p++x::r).length:Nat):Int) by omega),Q4,Qp au,Q4,hg,Q9]
  rw [Fe,aN (by omega),aN (by omega)]
  have:=Quu (d:=d) r (p:=p++[(k:Int)]) (k:=k+1) (fuel:=fuel) (by omega) (by simp;omega) (by omega)
  rw [Zf,show (p++[(k:Int)])++r=p++(k:Int)::r by simp] at this
  simp only [Z9,Zb,jL]
  rw [show k+(r.length+1)=k+1+r.length by omega,show p++(k:Int)::jL (k+1) r.length=(p++[(k:Int)])++jL (k+1) r.length by simp]
  exact this
theorem Quv {d:Nat} {l:List Int}:∀ (n:Nat) {p:List Int} {k fuel:Nat},l=p++jL k n->n < fuel->p.length+n<=2000000->k+n<=1000000000 ->
  Q8 (rP d l (zn d)) fuel ((k:Int),0,((p.length:Nat):Int))=some ((k+n:Nat):Int)
 | n,p,k,0,_,h,_,_=>by omega
 | 0,p,k,fuel+1,e,h,h2,h3=>by
  simp only [jL,List.append_nil] at e
  subst e
  simp only [Q8,rP]
  rw [bB,Q5]
  unfold zn
  simp
 | n+1,p,k,fuel+1,e,h,h2,h3=>by
  have hg:l[p.length]? = some (k:Int):=by rw [e];simp [jL]
  have au:=(Z0 hg).1
  simp only [Q8,rP,Q3,nn,Q4]
  rw [Z5 (show ((p.length:Nat):Int) < ((l.length:Nat):Int) by omega),Q4,hg]
  simp only [Q9]
  rw [aN (by omega),aN (by omega)]
  simp only [bne_self_eq_false,Q5]
  have:=Quv (d:=d) (l:=l) n (p:=p++[(k:Int)]) (k:=k+1) (fuel:=fuel) (by rw [e];simp [jL]) (by omega) (by simp;omega) (by omega)
  rw [Zf] at this
  simp only [Z9,Zb] at this
  rw [show k+(n+1)=k+1+n by omega]
  exact this
theorem oR {d k:Nat} {l:List Int} (hl:l.length<=1048576) (hk:k<=100000000):g18 (d+1) l (k:Int)=some (((k+l.length:Nat):Int),jL k l.length):=by
 rw [e18]
 exact Quu l (p:=[]) (by rw [Q6];omega) (by simp;omega) (by omega)
theorem R_ {d k:Nat} {l:List aC} (hl:l.length<=1048576) (hk:k<=100000000):K8 (d+1) l (k:Int)=some (((k+8*l.length:Nat):Int),uI k l.length):=by
 rw [e52]
 exact Quq l (p:=[]) (by rw [Q6];omega) (by simp;omega) (by omega)
theorem Sa {d k:Nat} {l:List dU} (hl:l.length<=1048576) (hk:k<=100000000):K7 (d+1) l (k:Int)=some (((k+5*l.length:Nat):Int),uJ k l.length):=by
 rw [e30]
 exact Qus l (p:=[]) (by rw [Q6];omega) (by simp;omega) (by omega)
theorem Dt {d k n:Nat} (hl:n<=1048576) (hk:k<=100000000):g20 (d+1) (jL k n) (k:Int)=some (((k+n:Nat):Int)):=by
 rw [e20]
 exact Quv n (p:=[]) rfl (by rw [Q6];omega) (by simp;omega) (by omega)
theorem Qhj {d k n:Nat} (hl:n<=1048576) (hk:k<=100000000):Gr (d+1) (uI k n) (k:Int)=some (((k+8*n:Nat):Int)):=by
 rw [Ud]
 exact Qur n (p:=[]) rfl (by rw [Q6];omega) (by simp;omega) (by omega)
theorem Qf5 {d k n:Nat} (hl:n<=1048576) (hk:k<=100000000):Gs (d+1) (uJ k n) (k:Int)=some (((k+5*n:Nat):Int)):=by
 rw [Ue]
 exact Qut n (p:=[]) rfl (by rw [Q6];omega) (by simp;omega) (by omega)
def RA (k:Nat) (x:Ld):Ld:=(x.1,uI k x.2.1.length,jL (k+8*x.2.1.length) x.2.2.1.length,jL (k+8*x.2.1.length+x.2.2.1.length) x.2.2.2.1.length,jL (k+8*x.2.1.length+x.2.2.1.length+x.2.2.2.1.length) x.2.2.2.2.1.length,jL (k+8*x.2.1.length+x.2.2.1.length+x.2.2.2.1.length+x.2.2.2.2.1.length) x.2.2.2.2.2.1.length,uJ (k+8*x.2.1.length+x.2.2.1.length+x.2.2.2.1.length+x.2.2.2.2.1.length+x.2.2.2.2.2.1.length) x.2.2.2.2.2.2.1.length,jL (k+8*x.2.1.length+x.2.2.1.length+x.2.2.2.1.length+x.2.2.2.2.1.length+x.2.2.2.2.2.1.length+5*x.2.2.2.2.2.2.1.length) x.2.2.2.2.2.2.2.1.length,x.2.2.2.2.2.2.2.2)
def Bw (k:Nat) (x:Ld):Nat:=k+8*x.2.1.length+x.2.2.1.length+x.2.2.2.1.length+x.2.2.2.2.1.length+x.2.2.2.2.2.1.length+5*x.2.2.2.2.2.2.1.length+x.2.2.2.2.2.2.2.1.length
theorem N4 {k:Nat} {x:Ld} (h:AJ x):Bw k x<=k+20000000:=by
 obtain ⟨z1,z2,z3,z4,z5,z6,z7,z8⟩:=h
 unfold Bw;omega
theorem Qhk {d k:Nat} {x:Ld} (h:AJ x) (hk:k<=10000000):Uf (d+2) (RA k x) (k:Int)=some ((Bw k x:Nat):Int):=by
 obtain ⟨z1,z2,z3,z4,z5,z6,z7,z8⟩:=h
 rw [e53]
 unfold RA
 simp only []
 rw [Qhj (by omega) (by omega),Q9,Z4 (by omega),Q5,Dt (by omega) (by omega),Q9,Z4 (by omega),Q5,Dt (by omega) (by omega),Q9,Z4 (by omega),Q5,Dt (by omega) (by omega),Q9,Z4 (by omega),Q5,Dt (by omega) (by omega),Q9,Z4 (by omega),Q5,Qf5 (by omega) (by omega),Q9,Z4 (by omega),Q5,Dt (by omega) (by omega),Q9,Z4 (by omega),Q5]
 rfl
def mG (k:Nat) (t:Tk):Tk:=(jL k t.1.length,jL (k+t.1.length) t.2.length)
def It (k:Nat) (t:Tk):Nat:=k+t.1.length+t.2.length
theorem Qhl {d k:Nat} {t:Tk} (h1:t.1.length<=1048576) (h2:t.2.length<=1048576) (hk:k<=90000000):Ug (d+2) (mG k t) (k:Int)=some ((It k t:Nat):Int):=by
 rw [e54]
 unfold mG
 simp only []
 rw [Dt (by omega) (by omega),Q9,Z4 (by omega),Q5,Dt (by omega) (by omega),Q9,Z4 (by omega),Q5]
 rfl
theorem Qmx {d:Nat} {t:Tk} (h1:t.1.length<=2000000) (h2:t.2.length<=2000000):T9 (d+2) t t=some true:=by
 rw [e46,Ds h1,Q9,Zl,Q5,Ds h2,Q9,Zl,Q5]
theorem Qmy {d:Nat} {t:Tk} (h1:t.1.length<=1048576) (h2:t.2.length<=1048576):SP (d+2) t=some t:=by
 rw [e39,GJ h1,Q9,GJ h2,Q9]
theorem Qmz {d:Nat} {t:Tk} {n:Int} (h0:0<=n) (h1:n<=1048576) (z1:t.1.length<=9223372036854775807) (z2:t.2.length<=9223372036854775807):Ok (Sc (d+2) t n) fun r=>r < 0\/(0<=r/\r<=n/\t.1.length<=1048576/\t.2.length<=1048576):=by
 have no:Ok (some (-1:Int)) fun r=>r < 0\/(0<=r/\r<=n/\t.1.length<=1048576/\t.2.length<=1048576):=Ok.some (Or.inl (by omega))
 rw [e32]
 refine Ok.bind (GK (by omega) (by omega) z1) fun r3 g3=>?_
 refine Ok.aa (fun _=>no) (fun vM=>?_)
 simp only [decide_eq_false_iff_not] at vM
 have g3:=g3.resolve_left vM
 refine Ok.bind (GK (by omega) (by omega) z2) fun r4 g4=>?_
 refine Ok.aa (fun _=>no) (fun zH=>?_)
 simp only [decide_eq_false_iff_not] at zH
 have g4:=g4.resolve_left zH
 exact Ok.some (Or.inr ⟨by omega,by omega,by omega,by omega⟩)
def R9 (c:Cf):Prop:=c.1.size<=9223372036854775807/\c.2.1.length<=9223372036854775807/\c.2.2.1.length<=9223372036854775807
def N9 (c:Cf):Prop:=c.1.size<=1048576/\c.2.1.length<=1048576/\c.2.2.1.length<=1048576
theorem Qn0 {d:Nat} {c:Cf} {n:Int} (h0:0<=n) (h1:n<=1048576) (h:R9 c):Ok (g8 (d+2) c n) fun r=>r < 0\/(0<=r/\r<=n/\N9 c):=by
 obtain ⟨z1,z2,z3⟩:=h
 have no:Ok (some (-1:Int)) fun r=>r < 0\/(0<=r/\r<=n/\N9 c):=Ok.some (Or.inl (by omega))
 rw [e8,wr (by omega) (by omega)]
 refine Ok.aa (fun _=>no) (fun hs=>?_)
 simp only [decide_eq_false_iff_not] at hs
 refine Ok.bind (Qdf (by omega) (by omega) z2) fun r3 g3=>?_
 refine Ok.aa (fun _=>no) (fun vM=>?_)
 simp only [decide_eq_false_iff_not] at vM
 have g3:=g3.resolve_left vM
 refine Ok.bind (Qba (by omega) (by omega) z3) fun r4 g4=>?_
 refine Ok.aa (fun _=>no) (fun zH=>?_)
 simp only [decide_eq_false_iff_not] at zH
 have g4:=g4.resolve_left zH
 exact Ok.some (Or.inr ⟨by omega,by omega,by omega,by omega,by omega⟩)
theorem Qn1 {d:Nat} {c:Cf} (h:N9 c):g11 (d+3) c=some c:=by
 rw [e11,Qde h.2.1,Q9,Qb9 h.2.2,Q9]
theorem nh {l:List Int} {i:Nat} {z:Int} (h:i < l.length):l[i]? = some (l.getD i z):=by
 rw [Zr,Z6 h];rfl
def oz (t:Tk) (c:aC) (i:Nat):Bool:=decide (0<=t.1.getD i 0/\t.1.getD i 0<=c.2.2.2.2.1)&&decide (0<=t.2.getD i 0/\t.2.getD i 0<=c.2.2.2.2.2.1)
def AW (x:Ld) (t:Tk):Bool:=decide (t.1.length=x.2.1.length/\t.2.length=x.2.1.length)&&eI (oz t) x.2.1 0
theorem Qwa {x:Ld} {t:Tk} (h:AW x t=true):t.1.length=x.2.1.length/\t.2.length=x.2.1.length:=by
 unfold AW at h
 simp only [Z8,Zj] at h
 exact h.1
theorem Qf6 {d:Nat} {x:Ld} {t:Tk} (hl:x.2.1.length<=1000):TX (d+1) x t=some (AW x t):=by
 rw [e88]
 unfold yH AW
 by_cases h1:t.1.length=x.2.1.length
 case neg=>rw [show ((((t.1.length:Nat):Int)) != ((x.2.1.length:Nat):Int))=true by simp;omega,Q4,Q4,Z4 (fun h=>h1 h.1)];rfl
 by_cases h2:t.2.length=x.2.1.length
 case neg=>rw [show ((((t.1.length:Nat):Int)) != ((x.2.1.length:Nat):Int))=false by simp;omega,Q5,show ((((t.2.length:Nat):Int)) != ((x.2.1.length:Nat):Int))=true by simp;omega,Q4,Z4 (fun h=>h2 h.2)];rfl
 rw [show ((((t.1.length:Nat):Int)) != ((x.2.1.length:Nat):Int))=false by simp;omega,Q5,show ((((t.2.length:Nat):Int)) != ((x.2.1.length:Nat):Int))=false by simp;omega,Q5,Z5 ⟨h1,h2⟩,Zg]
 refine (Qc (fun (t:Bool) (i:Int)=>(t,i)) x.2.1 (fun c i b k=>aa (oz t c i) (k b) (some false)) (fun _=>some true) ?_ ?_ (by rw [Q6];omega) false).trans ?_
 .intro ag b i c hx
  have hi:=(Z0 hx).1
  simp only [yF,bW hx,nn,Q3,hx,Q9,Q4]
  rw [nh (l:=t.1) (z:=0) (by omega),nh (l:=t.2) (z:=0) (by omega)]
  simp only [Q9]
  unfold nD
  by_cases a1:t.1.getD i 0 < 0
  .rw [Z5 a1,Q4,Q4,show oz t c i=false by unfold oz;rw [Z4 (by omega),Bool.false_and],Q5]
  by_cases a2:t.1.getD i 0 > c.2.2.2.2.1
  .rw [Z4 a1,Q5,Z5 a2,Q4,Q4,show oz t c i=false by unfold oz;rw [Z4 (by omega),Bool.false_and],Q5]
  by_cases a3:t.2.getD i 0 < 0
  .rw [Z4 a1,Q5,Z4 a2,Q5,Z5 a3,Q4,Q4,show oz t c i=false by unfold oz;rw [Bool.and_comm,Z4 (by omega),Bool.false_and],Q5]
  by_cases a4:t.2.getD i 0 > c.2.2.2.2.2.1
  .rw [Z4 a1,Q5,Z4 a2,Q5,Z4 a3,Q5,Z5 a4,Q4,show oz t c i=false by unfold oz;rw [Bool.and_comm,Z4 (by omega),Bool.false_and],Q5]
  .rw [Z4 a1,Q5,Z4 a2,Q5,Z4 a3,Q5,Z4 a4,Q5,show oz t c i=true by unfold oz;rw [Z5 (by omega),Z5 (by omega)];rfl,Q4,aN (by omega)]
 .intro ag t;simp only [yF,bB,Q5];rfl
 .rw [qp];cases eI (oz t) x.2.1 0<;>rfl
theorem Qn2 {d:Nat} {x:Ld} {t:Tk} (hl:x.2.1.length<=1000):FB (d+2) x t=some (AW x t):=by
 rw [SA]
 unfold pE AW
 by_cases h1:t.1.length=x.2.1.length
 case neg=>rw [show ((((t.1.length:Nat):Int)) != ((x.2.1.length:Nat):Int))=true by simp;omega,Q4,Q4,Z4 (fun h=>h1 h.1)];rfl
 by_cases h2:t.2.length=x.2.1.length
 case neg=>rw [show ((((t.1.length:Nat):Int)) != ((x.2.1.length:Nat):Int))=false by simp;omega,Q5,show ((((t.2.length:Nat):Int)) != ((x.2.1.length:Nat):Int))=true by simp;omega,Q4,Z4 (fun h=>h2 h.2)];rfl
 rw [show ((((t.1.length:Nat):Int)) != ((x.2.1.length:Nat):Int))=false by simp;omega,Q5,show ((((t.2.length:Nat):Int)) != ((x.2.1.length:Nat):Int))=false by simp;omega,Q5,Z5 ⟨h1,h2⟩,Zg]
 refine (Qc (fun (t:Bool) (i:Int)=>(t,i)) x.2.1 (fun c i b k=>aa (oz t c i) (k b) (some false)) (fun _=>some true) ?_ ?_ (by rw [Q6];omega) false).trans ?_
 .intro ag b i c hx
  have hi:=(Z0 hx).1
  simp only [pz,bW hx,nn,Q3,hx,Q9,Q4]
  rw [nh (l:=t.1) (z:=0) (by omega),nh (l:=t.2) (z:=0) (by omega),Q9,Q9,vG,Q9,vG,Q9,aN (by omega)]
  unfold oz
  cases decide (0<=t.1.getD i 0/\t.1.getD i 0<=c.2.2.2.2.1) with
  | false=>rfl
  | true=>cases decide (0<=t.2.getD i 0/\t.2.getD i 0<=c.2.2.2.2.2.1)<;>rfl
 .intro ag t;simp only [pz,bB,Q5];rfl
 .rw [qp];cases eI (oz t) x.2.1 0<;>rfl
theorem Quw {x:Ld} (h:fD x=true):x.2.1.length<=24:=by
 unfold fD at h
 simp only [Z8,Zj] at h
 exact h.1.1
theorem Qsn {d:Nat} {x:Ld} {t:Tk} (h:BE x):SB (d+12) x t=some (fD x&&AW x t):=by
 rw [e70,Qsm h,Q9]
 cases hg:fD x with
 | false=>rfl
 | true =>
  have:=Quw hg
  rw [Q4,show d+11=d+9+2 by omega,Qn2 (by omega),Q9,Zg]
def bS (F:List Int):List Int:=fI (fun f _=>decide (f < 0)) (fun _ k=>((k:Nat):Int)) F 0
theorem AH {F:List Int}:(bS F).length<=F.length:=Um _ _
theorem J_ {d:Nat} {x:Ld} (hl:x.2.1.length<=1000) (hE:x.2.2.2.1.length=x.2.1.length):Di (d+1) x=some (bS x.2.2.2.1):=by
 rw [e89]
 refine (Qc (fun (t:List Int) (i:Int)=>(t,i)) x.2.2.2.1 (fun f i t k=>aa (decide (f < 0)) (aa (Nat.ble ((t.length+[((i:Nat):Int)].length)*8) Q7) (k (t++[((i:Nat):Int)])) none) (k t)) (fun t=>some t) ?_ ?_ (by rw [Q6];omega) []).trans ?_
 .intro ag t i f hx
  have hi:=(Z0 hx).1
  simp only [yI,<- hE,bW hx,nn,Q3,hx,Q9,Q4]
  rw [aN (by omega)]
 .intro ag t;simp only [yI,<- hE,bB,Q5];rfl
 .rw [DU (c:=fun f _=>decide (f < 0)) (e:=fun (_:Int) (k:Nat)=>((k:Nat):Int)) (w:=8) x.2.2.2.1 0 [] (by simp;omega)]
  rfl
theorem Qso {d k:Nat} {x:Ld} {f:Int} (h:x.2.2.2.1[k]? = some f):FC (d+1) x ((k:Nat):Int)=some (decide (f < 0)):=by
 rw [SC,nn,Q4,Q3,h,Q9]
theorem Is {d:Nat} {x:Ld} (hl:x.2.1.length<=1000) (hE:x.2.2.2.1.length=x.2.1.length):Dj (d+2) x=some (bS x.2.2.2.1):=by
 rw [e71]
 refine (Qc (fun (t:List Int) (i:Int)=>(t,i)) x.2.2.2.1 (fun f i t k=>aa (decide (f < 0)) (aa (Nat.ble ((t.length+[((i:Nat):Int)].length)*8) Q7) (k (t++[((i:Nat):Int)])) none) (k t)) (fun t=>some t) ?_ ?_ (by rw [Q6];omega) []).trans ?_
 .intro ag t i f hx
  have hi:=(Z0 hx).1
  simp only [xe,<- hE,bW hx,Q4]
  rw [Qso hx,Q9,aN (by omega)]
 .intro ag t;simp only [xe,<- hE,bB,Q5];rfl
 .rw [DU (c:=fun f _=>decide (f < 0)) (e:=fun (_:Int) (k:Nat)=>((k:Nat):Int)) (w:=8) x.2.2.2.1 0 [] (by simp;omega)]
  rfl
theorem Qn3 {l:List aC} (T:Tr l) {i:Int} (hi:vI l i) (hp:0<=bN l i):pW l (bN l i) < pW l i:=by
 have hv:=Gz (l:=l) (i:=i) hp
 obtain ⟨A,B,e⟩:=UA T _ (bN l i) (Zd _) hv
 rw [IL T hv] at e
 have hm:i∈(cg l (bN l i)).flatMap (iK l):=List.mem_flatMap.2 ⟨i,(AT T hv).2 ⟨hi,rfl⟩,by rw [IL T hi];simp⟩
 obtain ⟨m,hm⟩:=List.getElem?_of_mem hm
 have au:=(Z0 hm).1
 have h1:(aG l)[A.length]? = some (bN l i):=by rw [e];simp
 have h2:(aG l)[A.length+1+m]? = some i:=by
  rw [e,List.append_assoc,Zq (by omega),show A.length+1+m - A.length=m+1 by omega,List.cons_append,List.getElem?_cons_succ,List.getElem?_append_left au,hm]
 unfold pW
 rw [qZ (rj T) h1,qZ (rj T) h2]
 omega
structure Lk (x:Ld):Prop where
 fJ:x.2.1.length<=24
 pl:x.2.2.1.length=x.2.1.length
 fl:x.2.2.2.1.length=x.2.1.length
 pd:∀ (k:Nat) (p:Int),x.2.2.1[k]? = some p->p < (k:Int)
 bur:∀ c∈x.2.1,c.2.2.2.2.1<=1000000/\c.2.2.2.2.2.1<=1000000
theorem vu {x:Ld} (h:fD x=true):Lk x:=by
 have iI:=Quw h
 unfold fD Dl at h
 simp only [Z8,Zj] at h
 obtain ⟨_,hg,s1,s2,s3,_⟩:=h
 have G:=q_ hg
 have T:=G.tr
 have e1:x.2.1.length=(aG (fK x).2.1).length:=by rw [s1];show ((aG (fK x).2.1).map _).length=_;rw [List.length_map]
 refine ⟨iI,?_,?_,?_,?_⟩
 .rw [e1,s2];show ((aG (fK x).2.1).map _).length=_;rw [List.length_map]
 .rw [e1,s3];show ((aG (fK x).2.1).map _).length=_;rw [List.length_map]
 .intro k p hp
  rw [s2] at hp
  have GL:((aG (fK x).2.1).map fun i=>pW (fK x).2.1 (bN (fK x).2.1 i))[k]? = some p:=hp
  rw [List.getElem?_map] at GL
  obtain ⟨i,hi,rfl⟩:=Option.map_eq_some_iff.1 GL
  have hv:=(jz T).1 (Zc hi)
  have hk:pW (fK x).2.1 i=(k:Int):=qZ (rj T) hi
  rcases Int.lt_or_le (bN (fK x).2.1 i) 0 with h0 | h0
  .rw [uG T h0];omega
  .have:=Qn3 T hv h0;omega
 .intro c hc
  have hm:c∈(fK x).2.1:=Bx.mem_iff.2 hc
  have:=G.cl
  unfold kE at this
  simp only [Z8] at this
  have:=Z3 this.2.2.2.2.2.2.2.1 c hm
  unfold mL at this
  simp only [Zj] at this
  omega
abbrev Pk:=Int×Int×Int×Int×Int×Int
def IU (n:Int):Bool:=decide (0<=n/\n<=65535)
def jR (p:Pk):Bool:=decide (1<=p.1/\p.1<=100000/\0<=p.2.1/\p.2.1<=65535/\0<=p.2.2.1/\p.2.2.1<=65535/\0<=p.2.2.2.1/\p.2.2.2.1<=65535/\0<=p.2.2.2.2.1/\p.2.2.2.2.1<=65535/\1<=p.2.2.2.2.2/\p.2.2.2.2.2<=1500)
theorem Qdi {d:Nat} {x:Pk}:On (d+2) x=some (jR x):=by
 rw [e90,KY,Q9]
 refine (Qc (fun (t:Bool) (i:Int)=>(t,i)) [x.2.1,x.2.2.1,x.2.2.2.1,x.2.2.2.2.1] (fun y _ t k=>aa (IU y) (k t) (some false)) (yK (d+1) x) ?_ ?_ (by rw [Q6];simp) false).trans ?_
 .intro ag t i y hy
  have hi:i < 4:=by have:=(Z0 hy).1;simpa using this
  have h4:decide ((i:Int) < 4)=true:=by simp;omega
  simp only [DK,h4,nn,Q3,Q4]
  rw [hy,Q9,aN (by omega)]
  unfold IU
  by_cases h1:y < 0
  .rw [Z5 h1,Q4,Z4 (by omega),Q5]
  .rw [Z4 h1,Q5]
   by_cases h2:y > 65535
   .rw [Z5 h2,Q4,Z4 (by omega),Q5]
   .rw [Z4 h2,Q5,Z5 (by omega),Q4]
 .intro ag t;rfl
 .rw [B7 (p:=IU)]
  unfold yK
  simp only [uC]
  congr 1
  rw [Bool.eq_iff_iff]
  simp only [List.all_cons,List.all_nil,Bool.and_true,IU,jR]
  simp
  omega
theorem Qsp {d:Nat} {n:Int}:tA (d+2) n=some (IU n):=by
 rw [SD,vG,Q9];rfl
theorem Qsq {d:Nat} {x:Pk}:SE (d+3) x=some (jR x):=by
 rw [e73]
 simp only [vG,Qsp,Q9,uC]
 congr 1
 rw [Bool.eq_iff_iff]
 simp [IU,jR]
 omega
theorem Vd {a b:Nat} (h:a<=b):Nat.ble a b=true:=by rw [Nat.ble_eq];exact h
def Qz4 (l:List Pk):Prop:=∀ p∈l,jR p=true
def AX (l:List Pk) (id:Int):Bool:=l.any fun p=>p.1==id
theorem Qhm {β:Type} {id:Int} {yes:Nat->Option β} {fin:Int->Option β} (hy:∀ i j,yes i=yes j):∀ (l:List Pk) (i:Nat) (t:Int),
  d_ (fun (x:Pk) i (t:Int) k=>aa (x.1==id) (yes i) (k t)) fin l i t=if AX l id then yes 0 else fin t
 | [],i,t=>by simp [d_,AX]
 | x::r,i,t=>by
  simp only [d_]
  cases h:x.1==id with
  | true=>simp only [Q4,AX,List.any_cons,h,Bool.true_or,if_true];exact hy i 0
  | false=>simp only [Q5,AX,List.any_cons,h,Bool.false_or];exact Qhm hy r (i+1) t
theorem Qwb {d:Nat} {l:List Pk} {id:Int} (hl:l.length < 4194304):Gp (d+4) l id=some (AX l id):=by
 rw [T0]
 refine (Qc (fun (t:Int) (i:Int)=>(t,i)) l (fun (x:Pk) i (t:Int) k=>aa (x.1==id) (some true) (k t)) (fun _=>some false) ?_ ?_ (by rw [Q6];exact hl) 0).trans ?_
 .intro ag t i x hx
  have hi:=(Z0 hx).1
  simp only [dM,bW hx,nn,Q3,hx,Q9,Q4]
  rw [aN (by omega)]
  first | done | rfl | simp
 .intro ag t;simp only [dM,bB,Q5];rfl
 .rw [Qhm (fun _ _=>rfl)];cases AX l id<;>rfl
def IV (l:List Pk) (x:Pk) (i:Nat):Bool:=jR x && !AX (l.take i) x.1
def LA (l:List Pk):Bool:=eI (IV l) l 0
theorem Qux (l:List Pk):∀ (r pre:List Pk),l=pre++r->(eI (IV l) r pre.length=true↔(∀ x∈r,jR x=true)/\(∀ x∈r,∀ y∈pre,y.1≠x.1)/\(r.map fun p=>p.1).Nodup)
 | [],pre,_=>by simp [eI]
 | x::r,pre,h=>by
  have ih:=Qux l r (pre++[x]) (by rw [h];simp)
  simp only [Zf,Z9,Zb,Zo] at ih
  have ht:l.take pre.length=pre:=by rw [h];simp
  simp only [eI,Z8,ih,IV,ht,Bool.not_eq_true',List.map_cons,List.nodup_cons,List.mem_cons,forall_eq_or_imp,Zh,List.mem_singleton]
  have hh:AX pre x.1=false↔∀ y∈pre,y.1≠x.1:=by
   unfold AX;rw [List.any_eq_false];simp
  rw [hh]
  constructor
  .rintro ⟨⟨a,b⟩,c,e,f⟩
   refine ⟨⟨a,c⟩,⟨b,fun z hz y hy=>e z hz y (.inl hy)⟩,fun hm=>?_,f⟩
   obtain ⟨z,hz,hzx⟩:=List.mem_map.1 hm
   exact e z hz x (.inr (.inl rfl)) hzx.symm
  .rintro ⟨⟨a,c⟩,⟨b,e⟩,g,f⟩
   refine ⟨⟨a,b⟩,c,fun z hz y hy=>?_,f⟩
   rcases hy with hy | hy | hy
   .exact e z hz y hy
   .subst hy;exact fun he=>g (List.mem_map.2 ⟨z,hz,he.symm⟩)
   .simp at hy
theorem Qz5 (l:List Pk):LA l=true↔Qz4 l/\(l.map fun p=>p.1).Nodup:=by
 have:=Qux l l [] rfl
 simp only [Zb,List.not_mem_nil,false_imp_iff,implies_true,true_and] at this
 exact this
theorem Qn4 {d:Nat} {l:List Pk} (hl:l.length < 4194304):T1 (d+5) l=some (LA l):=by
 rw [e92]
 refine (Qc (fun (t:Bool) (i:Int)=>(t,i)) l (fun x i t k=>aa (IV l x i) (k t) (some false)) (fun _=>some true) ?_ ?_ (by rw [Q6];exact hl) false).trans ?_
 .intro ag t i x hx
  have hi:=(Z0 hx).1
  simp only [yM,bW hx,nn,Q3,hx,Q9,Q4,Qdi]
  rw [aN (by omega),Vd (show i<=l.length by omega),Q4,Qwb (by simp;omega),Q9]
  unfold IV
  cases jR x<;>cases AX (l.take i) x.1<;>rfl
 .intro ag t;simp only [yM,bB,Q5];rfl
 .rw [qp];unfold LA;cases eI (IV l) l 0<;>rfl
abbrev Rg:=Ld×Tk×List (List Pk)×Int×Int
def J' (l:List (List Pk)):Prop:=l.length<=1048576/\∀ r∈l,r.length<=1048576
theorem IW {rows:List (List Pk)} {k:Nat} {row:List Pk} (hx:rows[k]? = some row):(rows.take (k+1)).flatten=(rows.take k).flatten++row:=by
 have hk:=(Z0 hx).1
 have e:=(Z0 hx).2
 rw [List.take_succ_eq_append_getElem hk,List.flatten_append,e]
 simp
theorem Ve {rows:List (List Pk)} (k:Nat):(rows.take k).flatten.length<=rows.flatten.length:=by
 have:rows.flatten=(rows.take k).flatten++(rows.drop k).flatten:=by rw [<- List.flatten_append,List.take_append_drop]
 rw [this,Zf];omega
theorem Qhn {d:Nat} {l:List (List Pk)} {n:Int} (h0:0<=n) (h1:n<=1048576) (hl:l.length<=9223372036854775807) (hr:∀ r∈l,r.length<=9223372036854775807):Ok (Sd (d+2) l n) fun r=>r < 0\/(0<=r/\J' l/\l.flatten.length<=1048576/\0<=r/\r<=1048576):=by
 rw [e33,wr (by omega) (by omega)]
 by_cases h:n - ((l.length:Nat):Int) < 0
 .rw [Z5 h,Q4];exact Ok.some (Or.inl (by omega))
 rw [Z4 h,Q5]
 refine OI (fun (t:Int×Int) (i:Int)=>(t.1,t.2,i)) l (fun k t=>(0<=t.1/\t.1+(((l.take k).flatten.length:Nat):Int)<=1048576)/\∀ (j:Nat) r,j < k->l[j]? = some r->r.length<=1048576) ?_ ?_ Qd 0 (n - ((l.length:Nat):Int),0) (by rw [Q6];omega) (by omega) ⟨⟨by simp only;omega,by simp only [List.take_zero,List.flatten_nil,Zb];omega⟩,fun j r hj=>absurd hj (by omega)⟩
 .rintro ag ⟨a,b⟩ k row hx ⟨⟨a0,a1⟩,hp⟩ eu
  simp only at a0 a1
  have hk:=(Z0 hx).1
  have cx:=hr row (Zc hx)
  simp only [wO,bW hx,nn,Q3,hx,Q9,Q4]
  rw [e69,wr (by omega) (by omega)]
  by_cases h5:a - ((row.length:Nat):Int) < 0
  .rw [Z5 h5,Q4,Q9,Z5 (show (-1:Int) < 0 by omega),Q4];exact Ok.some (Or.inl (by omega))
  .rw [Z4 h5,Q5,Q9,Z4 h5,Q5,aN (by omega)]
   have h6:(l.take (k+1)).flatten.length=(l.take k).flatten.length+row.length:=by rw [IW hx,Zf]
   refine eu (a - ((row.length:Nat):Int),b) ⟨⟨by simp only;omega,by simp only;omega⟩,fun j r hj hg=>?_⟩
   by_cases e:j=k
   .subst e;rw [hx] at hg;injection hg with hg;subst hg;omega
   .exact hp j r (by omega) hg
 .rintro ag ⟨a,b⟩ ⟨⟨a0,a1⟩,hp⟩
  simp only at a0 a1
  simp only [wO,bB,Q5]
  rw [List.take_length] at a1
  refine Ok.some (Or.inr ⟨a0,⟨by omega,fun r hr=>?_⟩,by omega,a0,by omega⟩)
  obtain ⟨j,hj⟩:=List.getElem?_of_mem hr
  exact hp j r (Z0 hj).1 hj
def Ka (r:Rg):Prop:=AJ r.1/\r.2.1.1.length<=1048576/\r.2.1.2.length<=1048576/\J' r.2.2.1
def R8 (r:Rg):Prop:=R6 r.1/\(r.2.1.1.length<=9223372036854775807/\r.2.1.2.length<=9223372036854775807)/\r.2.2.1.length<=9223372036854775807/\∀ q∈r.2.2.1,q.length<=9223372036854775807
theorem Qwc {d:Nat} {r:Rg} (h:R8 r):Ok (g7 (d+3) r 1048576) fun z=>z < 0\/(0<=z/\z<=1048576/\Ka r/\r.2.2.1.flatten.length<=1048576):=by
 obtain ⟨z1,z2,z3,z4⟩:=h
 have no:Ok (some (-1:Int)) fun z=>z < 0\/(0<=z/\z<=1048576/\Ka r/\r.2.2.1.flatten.length<=1048576):=Ok.some (Or.inl (by omega))
 rw [e7]
 refine Ok.bind (Qmw (by omega) (by omega) z1) fun r3 g3=>?_
 refine Ok.aa (fun _=>no) (fun vM=>?_)
 simp only [decide_eq_false_iff_not] at vM
 have g3:=g3.resolve_left vM
 refine Ok.bind (Qmz (by omega) (by omega) z2.1 z2.2) fun r4 g4=>?_
 refine Ok.aa (fun _=>no) (fun zH=>?_)
 simp only [decide_eq_false_iff_not] at zH
 have g4:=g4.resolve_left zH
 refine Ok.bind (Qhn (by omega) (by omega) z3 z4) fun r5 g5=>?_
 refine Ok.aa (fun _=>no) (fun Lz=>?_)
 simp only [decide_eq_false_iff_not] at Lz
 have g5:=g5.resolve_left Lz
 exact Ok.some (Or.inr ⟨g5.1,g5.2.2.2.2,⟨g3.2.2,g4.2.2.1,g4.2.2.2,g5.2.1⟩,g5.2.2.1⟩)
theorem Qk0 {d:Nat} {l:List Pk} (hl:l.length<=1048576):SS (d+2) l=some l:=by
 rw [e85,nn,Q4,Q4,Q3,show (Nat.ble l.length l.length&&Nat.ble (l.length*48) Q7)=true by rw [Z8,Nat.ble_eq,Nat.ble_eq];unfold Q7;omega,Q4]
 refine Ok.val (lX (fun j (s:Int×List Pk)=>∃ k:Nat,k+j=l.length/\s.1=(k:Int)/\s.2=l.take k++List.replicate (l.length - k) ((0,0,0,0,0,0):Pk)) ?_ _ l.length _ (by rw [Q6];omega) ⟨0,by omega,rfl,by simp⟩)
 rintro j ⟨n,r⟩ ag ⟨k,hk,h1,h2⟩ eu
 simp only at h1 h2
 subst h1
 have jZ:r.length=l.length:=by rw [h2];simp;omega
 simp only [DF]
 rcases Nat.lt_or_ge k l.length with au | sO
 .have hx:=Z6 au
  rw [bW hx,Q4,nn,Q4,Q3,hx,Q9,SQ,Q9,Q4,Qp (by omega),Q4,Z6 (by omega),Q9,aN (by omega)]
  exact eu (j - 1) _ (by omega) ⟨k+1,by omega,rfl,by rw [h2];exact Ly hx⟩
 .have:k=l.length:=by omega
  subst this
  rw [bB,Q5]
  unfold DE
  exact Ok.some (by rw [h2];simp)
theorem Qho {d:Nat} {l:List (List Pk)} (h:J' l):SU (d+3) l=some l:=by
 obtain ⟨hl,hr⟩:=h
 rw [e40,nn,Q4,Q4,Q3,show (Nat.ble l.length l.length&&Nat.ble (l.length*24) Q7)=true by rw [Z8,Nat.ble_eq,Nat.ble_eq];unfold Q7;omega,Q4]
 refine Ok.val (lX (fun j (s:Int×List (List Pk))=>∃ k:Nat,k+j=l.length/\s.1=(k:Int)/\s.2=l.take k++List.replicate (l.length - k) ([]:List Pk)) ?_ _ l.length _ (by rw [Q6];omega) ⟨0,by omega,rfl,by simp⟩)
 rintro j ⟨n,r⟩ ag ⟨k,hk,h1,h2⟩ eu
 simp only at h1 h2
 subst h1
 have jZ:r.length=l.length:=by rw [h2];simp;omega
 simp only [DH]
 rcases Nat.lt_or_ge k l.length with au | sO
 .have hx:=Z6 au
  rw [bW hx,Q4,nn,Q4,Q3,hx,Q9,Qk0 (hr _ (List.getElem_mem au)),Q9,Q4,Qp (by omega),Q4,Z6 (show k < r.length by omega),Q9,aN (by omega)]
  exact eu (j - 1) _ (by omega) ⟨k+1,by omega,rfl,by rw [h2];exact Ly hx⟩
 .have:k=l.length:=by omega
  subst this
  rw [bB,Q5]
  unfold DG
  exact Ok.some (by rw [h2];simp)
theorem Qwd {d:Nat} {r:Rg} (h:Ka r):g10 (d+4) r=some r:=by
 obtain ⟨h1,h2,h3,h4⟩:=h
 rw [e10,Qmv h1,Q9,show d+3=d+1+2 by omega,Qmy h2 h3,Q9,show d+1+2=d+3 by omega,Qho h4,Q9]
theorem Qk1 {d:Nat} {l:List Pk} (hl:l.length<=2000000):Gq (d+2) l l=some true:=by
 rw [T',bne_self_eq_false,Q5]
 refine (Qc (fun (t:Bool) (i:Int)=>(t,i)) l (fun x i t k=>k t) (zh (d+1)) ?_ ?_ (by rw [Q6];omega) false).trans ?_
 .intro ag t i x hx;have hi:=(Z0 hx).1;simp only [ql,bW hx,nn,Q3,hx,Q9,Q4]
  rw [T_]
  simp only [bne_self_eq_false,Q5,Zl,Q9]
  rw [aN (by omega)]
 .intro ag t;simp only [ql,bB,Q5]
 .rw [wM (f:=fun _ _ t=>t)];rfl
theorem Qhp {d:Nat} {l:List (List Pk)} (h:J' l):Uc (d+3) l l=some true:=by
 obtain ⟨hl,hr⟩:=h
 rw [e47,bne_self_eq_false,Q5]
 refine (Qc (fun (t:Bool) (i:Int)=>(t,i)) l (fun x i t k=>k t) (DR (d+2)) ?_ ?_ (by rw [Q6];omega) false).trans ?_
 .intro ag t i x hx;have hi:=(Z0 hx).1;simp only [zi,bW hx,nn,Q3,hx,Q9,Q4]
  have:=hr _ (Zc hx)
  rw [Qk1 (by omega),Q9,Zl,Q5,aN (by omega)]
 .intro ag t;simp only [zi,bB,Q5]
 .rw [wM (f:=fun _ _ t=>t)];rfl
theorem YZ {d:Nat} {r:Rg} (h:Ka r):g13 (d+4) r r=some true:=by
 obtain ⟨h1,h2,h3,h4⟩:=h
 rw [e13,Qmu h1,Q9,Zl,Q5,show d+3=d+1+2 by omega,Qmx (by omega) (by omega),Q9,Zl,Q5,show d+1+2=d+3 by omega,Qhp h4,Q9,Zl,Q5,bne_self_eq_false,Q5,bne_self_eq_false,Q5]
theorem Qss {d:Nat} {rows:List (List Pk)} (hl:rows.length<=1000) (hs:rows.flatten.length<=100000):T2 (d+2) rows=some rows.flatten:=by
 rw [e93]
 have lp1:∀ (m k fuel:Nat),k+m=rows.length->m < fuel->Q8 (rL d rows (DL d)) fuel ((rows.take k).flatten,((k:Nat):Int))=some rows.flatten:=by
  intro m
  induction m with
  | zero =>
   intro k fuel e h
   obtain ⟨g,rfl⟩:∃ g,fuel=g+1:=⟨fuel - 1,by omega⟩
   obtain rfl:k=rows.length:=by omega
   simp only [Q8,rL,bB,Q5]
   rw [List.take_length];rfl
  | succ m ih =>
   intro k fuel e h
   obtain ⟨g,rfl⟩:∃ g,fuel=g+1:=⟨fuel - 1,by omega⟩
   have hk:k < rows.length:=by omega
   have hx:=Z6 hk
   have h2:=Ve (rows:=rows) (k+1)
   rw [IW hx,Zf] at h2
   simp only [Q8,rL,bW hx,nn,Q3,hx,Q9,Q4]
   rw [room (by omega),Q4,aN (by omega),<- IW hx]
   exact ih (k+1) g (by omega) (by omega)
 have lp2:∀ (m k fuel:Nat),k+m=rows.length->m < fuel->Q8 (lS d rows (DM d)) fuel ((rows.take k).flatten,((k:Nat):Int))=some rows.flatten:=by
  intro m
  induction m with
  | zero =>
   intro k fuel e h
   obtain ⟨g,rfl⟩:∃ g,fuel=g+1:=⟨fuel - 1,by omega⟩
   obtain rfl:k=rows.length:=by omega
   simp only [Q8,lS,bB,Q5]
   rw [List.take_length];rfl
  | succ m ih =>
   intro k fuel e h
   obtain ⟨g,rfl⟩:∃ g,fuel=g+1:=⟨fuel - 1,by omega⟩
   have hk:k < rows.length:=by omega
   have hx:=Z6 hk
   have h2:=Ve (rows:=rows) (k+1)
   rw [IW hx,Zf] at h2
   simp only [Q8,lS,bW hx,nn,Q3,hx,Q9,Q4]
   rw [room (by omega),Q4,aN (by omega),<- IW hx]
   exact ih (k+1) g (by omega) (by omega)
 have lp0:∀ (m k fuel:Nat),k+m=rows.length->m < fuel->Q8 (rN d rows (rM d rows)) fuel ((((rows.take k).flatten.length:Nat):Int),((k:Nat):Int))=rM d rows ((rows.flatten.length:Nat):Int):=by
  intro m
  induction m with
  | zero =>
   intro k fuel e h
   obtain ⟨g,rfl⟩:∃ g,fuel=g+1:=⟨fuel - 1,by omega⟩
   obtain rfl:k=rows.length:=by omega
   simp only [Q8,rN,bB,Q5]
   rw [List.take_length]
  | succ m ih =>
   intro k fuel e h
   obtain ⟨g,rfl⟩:∃ g,fuel=g+1:=⟨fuel - 1,by omega⟩
   have hk:k < rows.length:=by omega
   have hx:=Z6 hk
   have h2:=Ve (rows:=rows) (k+1)
   have h3:=IW hx
   have h4:(rows.take (k+1)).flatten.length=(rows.take k).flatten.length+(rows[k]).length:=by rw [h3,Zf]
   simp only [Q8,rN,bW hx,nn,Q3,hx,Q9,Q4]
   rw [wr (n:=(((rows.take k).flatten.length:Nat):Int)+(((rows[k]).length:Nat):Int)) (by omega) (by omega),Z4 (by omega),Q5,aN (by omega),show (((rows.take k).flatten.length:Nat):Int)+(((rows[k]).length:Nat):Int)=(((rows.take (k+1)).flatten.length:Nat):Int) by omega]
   exact ih (k+1) g (by omega) (by omega)
 refine (lp0 rows.length 0 Qd (by omega) (by rw [Q6];omega)).trans ?_
 unfold rM
 have e0:IntKind.i64.wrap ((0:Int) - ((0:Nat):Int))=0:=by rw [wr (by omega) (by omega)];rfl
 rw [Z4 (by omega),Q5,e0,Int.sub_zero,wr (by omega) (by omega)]
 by_cases h:rows.flatten.length=0
 .rw [Z4 (by omega),Q5]
  exact lp2 rows.length 0 Qd (by omega) (by rw [Q6];omega)
 .rw [Z5 (by omega),Q4,show Nat.ble 0 0=true from rfl,Q4,nn,Zg,Z5 (by unfold Q7;omega),Q4,Q3,List.length_replicate,show Nat.ble (rows.flatten.length*48) Q7=true by rw [Nat.ble_eq];unfold Q7;omega,Q4]
  rw [show decide (0<=((0:Nat):Int))=true from rfl,Q4,show (((0:Nat):Int)).toNat=0 from rfl,show Nat.ble 0 rows.flatten.length=true by rw [Nat.ble_eq];omega,Q4,List.take_zero]
  exact lp1 rows.length 0 Qd (by omega) (by rw [Q6];omega)
def LB (f:dU) (p:Pk):Bool:=(IntKind.i64.wrap ((BitVec.ofInt IntKind.i64.bits (([p.2.1,p.2.2.1,p.2.2.2.1,p.2.2.2.2.1]:List Int).getD f.2.1.toNat 0) &&& BitVec.ofInt IntKind.i64.bits f.2.2.1).toNat:Int))==f.2.2.2.1
theorem Qwe {d:Nat} {f:dU} {p:Pk} (h:0<=f.2.1/\f.2.1<=3):Gl (d+2) f p=some (LB f p):=by
 rw [TY,KY,Q9,Z5 h.1,Q4,nh (l:=[p.2.1,p.2.2.1,p.2.2.2.1,p.2.2.2.2.1]) (z:=0) (by simp only [Z9,Zb];omega),Q9]
 rfl
theorem Qph {d:Nat} {f:dU} {p:Pk} (h:0<=f.2.1/\f.2.1<=3):FD (d+2) f p=some (LB f p):=by
 have h4:f.2.1.toNat < ([p.2.1,p.2.2.1,p.2.2.2.1,p.2.2.2.2.1]:List Int).length:=by simp only [Z9,Zb];omega
 rw [SG,SF,Z5 h.1,Q4,Qp h4,Q4,nh (l:=[p.2.1,p.2.2.1,p.2.2.2.1,p.2.2.2.2.1]) (z:=0) h4,Q9,Q9]
 rfl
structure Lr (x:Ld):Prop where
 fo:∀ f∈x.2.2.2.2.2.2.1,0<=f.2.1/\f.2.1<=3
 tl:x.2.2.2.2.2.2.2.1.length=x.2.2.2.2.2.2.1.length
 f16:x.2.2.2.2.2.2.1.length<=16
 ai:∀ c∈x.2.1,c.2.2.2.2.2.2.2<=60
 rat:∀ c∈x.2.1,1<=c.2.2.1/\c.2.2.1<=100000/\1<=c.2.2.2.1/\c.2.2.2.1<=100000
 l0:∀ c∈x.2.1,0<=c.2.2.2.2.2.2.2
 bul:∀ c∈x.2.1,1500<=c.2.2.2.2.1/\1500<=c.2.2.2.2.2.1/\0<=c.2.2.2.2.2.2.1/\c.2.2.2.2.2.2.1<=7
theorem Iv {x:Ld} (h:fD x=true):Lr x:=by
 unfold fD Dl at h
 simp only [Z8,Zj] at h
 obtain ⟨hz,hg,s1,s2,s3,s4,s5,s6,s7⟩:=h
 have G:=q_ hg
 have hc:=G.cl
 unfold kE at hc
 simp only [Z8] at hc
 obtain ⟨_,_,_,_,_,h6,h7,h8,h9⟩:=hc
 have hm:∀ c∈x.2.1,c∈(fK x).2.1:=fun c hc=>Bx.mem_iff.2 hc
 refine ⟨fun f hf=>?_,?_,hz.2,fun c hc=>?_,fun c hc=>?_,fun c hc=>?_,fun c hc=>?_⟩
 .have:=(G.Li f hf).2.2
  unfold zB at this
  simp only [Z8,Zj] at this
  omega
 .rw [s6]
  show (x.2.2.2.2.2.2.1.map _).length=_
  rw [List.length_map]
 .have:=Z3 h9 c (hm c hc)
  unfold nK at this
  split at this
  .simp only [Zj] at this;omega
  .simp only [beq_iff_eq] at this;omega
 .have:=Z3 h6 c (hm c hc)
  unfold lY at this
  simp only [Zj] at this
  omega
 .have:=Z3 h9 c (hm c hc)
  unfold nK at this
  split at this
  .simp only [Zj] at this;omega
  .simp only [beq_iff_eq] at this;omega
 .have:=Z3 h8 c (hm c hc)
  unfold mL at this
  simp only [Zj] at this
  omega
def uK (fs:List dU) (p:Pk):Int:=fe (fun f=>LB f p) fs 0
theorem Qf7 {d:Nat} {fs:List dU} {p:Pk} (hl:fs.length<=1000) (h:∀ f∈fs,0<=f.2.1/\f.2.1<=3):Gn (d+3) fs p=some (uK fs p):=by
 rw [TZ]
 refine (Qc (fun (t:Int) (i:Int)=>(t,i)) fs (fun f i t k=>aa (LB f p) (some ((i:Nat):Int)) (k t)) (fun _=>some (-1)) ?_ ?_ (by rw [Q6];omega) 0).trans (DT fs 0 _)
 .intro ag t i f hx
  have hi:=(Z0 hx).1
  simp only [qk,bW hx,nn,Q3,hx,Q9,Q4]
  rw [Qwe (h f (Zc hx)),Q9,aN (by omega)]
 .intro ag t;simp only [qk,bB,Q5];rfl
theorem Qpi {d:Nat} {fs:List dU} {p:Pk} (hl:fs.length<=1000) (h:∀ f∈fs,0<=f.2.1/\f.2.1<=3):FF (d+3) fs p=some (uK fs p):=by
 rw [SH]
 refine (Qc (fun (t:Int) (i:Int)=>(t,i)) fs (fun f i t k=>aa (LB f p) (some ((i:Nat):Int)) (k t)) (fun _=>some (-1)) ?_ ?_ (by rw [Q6];omega) 0).trans (DT fs 0 _)
 .intro ag t i f hx
  have hi:=(Z0 hx).1
  simp only [pG,bW hx,nn,Q3,hx,Q9,Q4]
  rw [Qph (h f (Zc hx)),Q9,aN (by omega)]
 .intro ag t;simp only [pG,bB,Q5];rfl
def cC (x:Ld) (p:Pk):Int:=if uK x.2.2.2.2.2.2.1 p>=0 then x.2.2.2.2.2.2.2.1.getD (uK x.2.2.2.2.2.2.1 p).toNat 0 else x.2.2.2.2.2.2.2.2
theorem Vf {fs:List dU} {p:Pk} (h:0<=uK fs p):uK fs p < ((fs.length:Nat):Int):=by
 obtain ⟨j,y,h1,h2,h3,_⟩:=IF h
 have:=(Z0 h2).1
 unfold uK at *
 omega
theorem YL {d:Nat} {x:Ld} {p:Pk} (R:Lr x):Oo (d+4) x p=some (cC x p):=by
 have Iy:=R.f16
 rw [e91,Qf7 (by omega) R.fo,Q9]
 unfold cC
 by_cases h:uK x.2.2.2.2.2.2.1 p>=0
 .have:=Vf h
  have:=R.tl
  rw [Z5 h,Q4,Q4,nh (l:=x.2.2.2.2.2.2.2.1) (z:=0) (by omega),Q9,if_pos h]
 .rw [Z4 h,Q5,if_neg h]
theorem YP {d:Nat} {x:Ld} {p:Pk} (R:Lr x):Od (d+4) x p=some (cC x p):=by
 have Iy:=R.f16
 rw [e74,Qpi (by omega) R.fo,Q9]
 unfold cC
 by_cases h:uK x.2.2.2.2.2.2.1 p>=0
 .have:=Vf h
  have:=R.tl
  rw [Z5 h,Q4,Q4,nh (l:=x.2.2.2.2.2.2.2.1) (z:=0) (by omega),Q9,if_pos h]
 .rw [Z4 h,Q5,if_neg h]
def mD (x:Ld) (w:Int):Int:=(aX x.2.1 w).2.2.2.2.2.2.2
def zI (x:Ld) (w:Int) (row:List Pk):Bool := !decide (((row.length:Nat):Int) > mD x w)&&row.all (fun p=>jR p&&(cC x p==w))
def OR (r:Rg):Bool:=decide (r.2.2.1.length=(bS r.1.2.2.2.1).length)&&(decide (-1<=r.2.2.2.1/\r.2.2.2.1 < (((bS r.1.2.2.2.1).length:Nat):Int))&&decide (0<=r.2.2.2.2/\r.2.2.2.2<=1000000))
def sU (r:Rg):Bool:=fD r.1&&(AW r.1 r.2.1&&(OR r&&(eI (fun w i=>zI r.1 w (r.2.2.1.getD i [])) (bS r.1.2.2.2.1) 0&&LA r.2.2.1.flatten)))
theorem Fc {F:List Int} {w:Int} (h:w∈bS F):0<=w/\w < ((F.length:Nat):Int):=by
 obtain ⟨j,x,h1,h2,h3⟩:=Un _ _ h
 have:=(Z0 h1).1
 omega
theorem Rs {l:List (List Pk)} {i:Nat} (h:i < l.length):l[i]? = some (l.getD i []):=by
 rw [Zr,Z6 h];rfl
theorem Qpl {x:Ld} {rows:List (List Pk)} {W:List Int} (R:Lr x) (hW:∀ w∈W,vI x.2.1 w) (hl:rows.length=W.length) (h:eI (fun w i=>zI x w (rows.getD i [])) W 0=true):(∀ row∈rows,row.length<=60)/\∀ row∈rows,∀ p∈row,jR p=true:=by
 rw [rT] at h
 have key:∀ row∈rows,row.length<=60/\∀ p∈row,jR p=true:=by
  intro row hr
  obtain ⟨i,hi⟩:=List.getElem?_of_mem hr
  have au:=(Z0 hi).1
  have hw:=Z6 (l:=W) (i:=i) (by omega)
  have:=h i _ hw
  rw [Zo,Zr,hi] at this
  unfold zI mD at this
  simp only [Option.getD_some,Z8,Bool.not_eq_true',decide_eq_false_iff_not,List.all_eq_true] at this
  have hv:=hW _ (Zc hw)
  have Ir:=R.ai _ (Zc (fq hv))
  exact ⟨by omega,fun p hp=>(this.2 p hp).1⟩
 exact ⟨fun row hr=>(key row hr).1,fun row hr=>(key row hr).2⟩
theorem N3 {B:Nat}:∀ {rows:List (List Pk)},(∀ row∈rows,row.length<=B)->rows.flatten.length<=rows.length*B
 | [],_=>by simp
 | r::rows,h=>by
  have:=N3 (B:=B) (rows:=rows) fun row hr=>h row (by simp [hr])
  have:=h r (by simp)
  rw [Ze,Zf,Z9,Nat.add_mul,Nat.one_mul]
  omega
theorem Qwf {d:Nat} {r:Rg} (h:BE r.1):T3 (d+28) r=some (sU r):=by
 rw [e42,Qms h,Q9]
 unfold sU OR yV
 cases hg:fD r.1 with
 | false=>rfl
 | true =>
  have L:=vu hg
  have R:=Iv hg
  have iI:=L.fJ
  have hf:=L.fl
  have hv:=AH (F:=r.1.2.2.2.1)
  rw [Zl,Q5,show d+27=d+26+1 by omega,Qf6 (by omega),Q9,Zg]
  cases hb:AW r.1 r.2.1 with
  | false=>rfl
  | true =>
   rw [Zl,Q5,J_ (by omega) hf,Q9,Zg]
   unfold ki
   by_cases a:r.2.2.1.length=(bS r.1.2.2.2.1).length
   case neg=>rw [show ((((r.2.2.1.length:Nat):Int)) != (((bS r.1.2.2.2.1).length:Nat):Int))=true by simp;omega,Q4,Q4,Z4 a];rfl
   rw [show ((((r.2.2.1.length:Nat):Int)) != (((bS r.1.2.2.2.1).length:Nat):Int))=false by simp;omega,Q5,Z5 a,Zg]
   by_cases a1:r.2.2.2.1 < -1
   .rw [Z5 a1,Q4,Q4,Z4 (show ¬ (-1<=r.2.2.2.1/\r.2.2.2.1 < (((bS r.1.2.2.2.1).length:Nat):Int)) by omega)];rfl
   rw [Z4 a1,Q5]
   by_cases a2:r.2.2.2.1>=(((bS r.1.2.2.2.1).length:Nat):Int)
   .rw [Z5 a2,Q4,Q4,Z4 (show ¬ (-1<=r.2.2.2.1/\r.2.2.2.1 < (((bS r.1.2.2.2.1).length:Nat):Int)) by omega)];rfl
   rw [Z4 a2,Q5,Z5 (show -1<=r.2.2.2.1/\r.2.2.2.1 < (((bS r.1.2.2.2.1).length:Nat):Int) by omega),Zg]
   by_cases a3:r.2.2.2.2 < 0
   .rw [Z5 a3,Q4,Q4,Z4 (show ¬ (0<=r.2.2.2.2/\r.2.2.2.2<=1000000) by omega)];rfl
   rw [Z4 a3,Q5]
   by_cases a4:r.2.2.2.2 > 1000000
   .rw [Z5 a4,Q4,Z4 (show ¬ (0<=r.2.2.2.2/\r.2.2.2.2<=1000000) by omega)];rfl
   rw [Z4 a4,Q5,Z5 (show 0<=r.2.2.2.2/\r.2.2.2.2<=1000000 by omega),Zg]
   have hW:∀ w∈bS r.1.2.2.2.1,vI r.1.2.1 w:=fun w hw=>by obtain ⟨q1,q2⟩:=Fc hw;exact ⟨q1,by omega⟩
   refine (Qc (fun (b:Bool) (i:Int)=>(b,i)) (bS r.1.2.2.2.1) (fun w i b k=>aa (zI r.1 w (r.2.2.1.getD i [])) (k b) (some false)) (fun b=>yP (d+26+1) r b) ?_ ?_ (by rw [Q6];omega) false).trans ?_
   .intro ag b i w hx
    have hi:=(Z0 hx).1
    have gM:=hW w (Zc hx)
    have Ir:=R.ai _ (Zc (fq gM))
    simp only [yT,bW hx,nn,Q3,hx,Q9,Q4,sS hx]
    rw [Rs (l:=r.2.2.1) (by omega)]
    simp only [Q9]
    rw [Z5 gM.1,Q4,fq gM,Q9]
    unfold zI mD
    by_cases b1:((((r.2.2.1.getD i []).length:Nat):Int)) > (aX r.1.2.1 w).2.2.2.2.2.2.2
    .rw [Z5 b1,Q4,Zl,Bool.false_and,Q5]
    .rw [Z4 b1,Q5,Bool.not_false,Zg]
     refine (Qc (fun (b:Bool) (j:Int)=>(b,j)) (r.2.2.1.getD i []) (fun p _ b k=>aa (jR p&&(cC r.1 p==w)) (k b) (some false)) (fun b=>ag (b,((i+1:Nat):Int))) ?_ ?_ (by rw [Q6];omega) b).trans ?_
     .intro Vg b' j p hp
      have hj:=(Z0 hp).1
      simp only [yR,bW hp,nn,Q3,hp,Q9,Q4]
      rw [show d+26+1=d+25+2 by omega,Qdi,Q9,show d+25+2=d+23+4 by omega,YL R,Q9,aN (by omega)]
      cases jR p with
      | false=>rfl
      | true =>
       rw [Zl,Q5,Zg]
       by_cases e:cC r.1 p=w
       .rw [show (cC r.1 p != w)=false by rw [e];exact bne_self_eq_false _,Q5,show (cC r.1 p==w)=true from beq_iff_eq.2 e,Q4]
       .rw [show (cC r.1 p != w)=true from bne_iff_ne.2 e,Q4,show (cC r.1 p==w)=false from beq_eq_false_iff_ne.2 e,Q5]
     .intro Vg b'
      simp only [yR,bB,Q5]
      unfold DN
      rw [aN (by omega)]
     .rw [B7 (p:=fun p=>jR p&&(cC r.1 p==w))]
   .intro ag t;simp only [yT,bB,Q5]
   .rw [qp]
    cases hk:eI (fun w i=>zI r.1 w (r.2.2.1.getD i [])) (bS r.1.2.2.2.1) 0 with
    | false=>rfl
    | true =>
     obtain ⟨r1,r2⟩:=Qpl R hW a hk
     have:=N3 r1
     rw [Q4,Zg]
     unfold yP
     rw [show d+26+1=d+25+2 by omega,Qss (by omega) (by omega),Q9,show d+25+2=d+22+5 by omega,Qn4 (by omega),Q9]
def uL {α τ:Type} (p:α->Nat->τ->Bool) (f:α->Nat->τ->τ):List α->Nat->τ->Bool
 | [],_,_=>true
 | x::r,i,t=>p x i t&&uL p f r (i+1) (f x i t)
theorem Vh {α τ β:Type} {p:α->Nat->τ->Bool} {f:α->Nat->τ->τ} {step:α->Nat->τ->(τ->Option β)->Option β} {no:Option β} {fin:τ->Option β} (I:Nat->τ->Prop):∀ (l:List α) (i:Nat) (t:τ),I i t->(∀ j x t k,l[j]? = some x->I (i+j) t->step x (i+j) t k=aa (p x (i+j) t) (k (f x (i+j) t)) no/\(p x (i+j) t=true->I (i+j+1) (f x (i+j) t)))->d_ step fin l i t=aa (uL p f l i t) (fin (cD f l i t)) no
 | [],i,t,_,_=>rfl
 | x::r,i,t,hI,h=>by
  simp only [d_,cD,uL]
  obtain ⟨h1,h2⟩:=h 0 x t (fun t'=>d_ step fin r (i+1) t') rfl hI
  rw [Nat.add_zero] at h1 h2
  rw [h1]
  cases hp:p x i t with
  | false=>rfl
  | true =>
   rw [Q4,Zg]
   exact Vh I r (i+1) _ (h2 hp) (fun j y t k hy ht=>by
    have:=h (j+1) y t k (by simpa using hy)
    rw [show i+(j+1)=i+1+j by omega] at this
    exact this ht)
abbrev Bs:=Bool×List Int
def IX (x:Ld) (w:Int) (p:Pk) (_:Nat) (t:Bs):Bool:=jR p&&((cC x p==w) && !(t.2.any fun z=>z==p.1))
def D9 (p:Pk) (_:Nat) (t:Bs):Bs:=(t.1,t.2++[p.1])
def IY (x:Ld) (W:List Int) (row:List Pk) (i:Nat) (t:Bs):Bool := !decide (((row.length:Nat):Int) > mD x (W.getD i 0))&&uL (IX x (W.getD i 0)) D9 row 0 t
def AY (row:List Pk) (_:Nat) (t:Bs):Bs:=(t.1,t.2++row.map fun p=>p.1)
theorem Qlt:∀ (row:List Pk) (i:Nat) (t:Bs),cD D9 row i t=AY row 0 t
 | [],i,t=>by simp [cD,AY]
 | p::r,i,t=>by
  simp only [cD]
  rw [Qlt r (i+1)]
  simp [AY,D9]
theorem Quy {x:Ld} {w:Int}:∀ (row:List Pk) (i:Nat) (t:Bs),uL (IX x w) D9 row i t=true↔(∀ p∈row,jR p=true/\cC x p=w)/\(∀ p∈row,p.1∉t.2)/\(row.map fun p=>p.1).Nodup
 | [],i,t=>by simp [uL]
 | p::r,i,t=>by
  simp only [uL,Z8,Quy r (i+1),IX,D9,beq_iff_eq,Bool.not_eq_true',List.any_eq_false,List.mem_cons,forall_eq_or_imp,List.map_cons,List.nodup_cons,Zh,List.mem_singleton]
  constructor
  .rintro ⟨⟨a1,a2,a3⟩,b1,b2,b3⟩
   refine ⟨⟨⟨a1,a2⟩,b1⟩,⟨fun hm=>a3 _ hm rfl,fun q hq hm=>b2 q hq (Or.inl hm)⟩,fun hm=>?_,b3⟩
   obtain ⟨q,hq,e⟩:=List.mem_map.1 hm
   exact b2 q hq (Or.inr (Or.inl e))
  .rintro ⟨⟨⟨a1,a2⟩,b1⟩,⟨c1,c2⟩,n1,n2⟩
   refine ⟨⟨a1,a2,fun z hz e=>c1 (e▸hz)⟩,b1,fun q hq hm=>?_,n2⟩
   rcases hm with hm | hm | hm
   .exact c2 q hq hm
   .exact n1 (List.mem_map.2 ⟨q,hq,hm⟩)
   .simp at hm
theorem Quz {x:Ld} {W:List Int}:∀ (rows:List (List Pk)) (i:Nat) (t:Bs),uL (IY x W) AY rows i t=true↔(∀ j row,rows[j]? = some row->zI x (W.getD (i+j) 0) row=true)/\(∀ p∈rows.flatten,p.1∉t.2)/\(rows.flatten.map fun p=>p.1).Nodup
 | [],i,t=>by simp [uL]
 | row::rows,i,t=>by
  simp only [uL,Z8,Quz rows (i+1),IY,Quy,AY,Ze,Zh,List.map_append,Zn]
  have cx:zI x (W.getD i 0) row=true↔(!decide (((row.length:Nat):Int) > mD x (W.getD i 0)))=true/\∀ p∈row,jR p=true/\cC x p=W.getD i 0:=by
   unfold zI
   simp only [Z8,List.all_eq_true,beq_iff_eq]
  constructor
  .rintro ⟨⟨a1,a2,a3,a4⟩,b1,b2,b3⟩
   refine ⟨fun j r hj=>?_,fun p hp hm=>?_,a4,b3,fun y hy z hz e=>?_⟩
   .cases j with
    | zero=>simp only [List.getElem?_cons_zero,Option.some.injEq] at hj;subst hj;exact cx.2 ⟨a1,a2⟩
    | succ j=>have:=b1 j r (by simpa using hj);rw [show i+(j+1)=i+1+j by omega];exact this
   .rcases hp with hp | hp
    .exact a3 p hp hm
    .exact b2 p hp (Or.inl hm)
   .obtain ⟨q,hq,rfl⟩:=List.mem_map.1 hz
    exact b2 q hq (Or.inr (e▸hy))
  .rintro ⟨h1,h2,n1,n2,n3⟩
   obtain ⟨a1,a2⟩:=cx.1 (h1 0 row rfl)
   refine ⟨⟨a1,a2,fun p hp=>h2 p (Or.inl hp),n1⟩,fun j r hj=>?_,fun p hp hm=>?_,n2⟩
   .have:=h1 (j+1) r (by simpa using hj);rw [show i+(j+1)=i+1+j by omega] at this;exact this
   .rcases hm with hm | hm
    .exact h2 p (Or.inr hp) hm
    .exact n3 _ hm _ (List.mem_map.2 ⟨p,hp,rfl⟩) rfl
theorem Qwg {x:Ld} {rows:List (List Pk)} {W:List Int} (hl:rows.length=W.length):uL (IY x W) AY rows 0 (false,[])=(eI (fun w i=>zI x w (rows.getD i [])) W 0&&LA rows.flatten):=by
 rw [Bool.eq_iff_iff,Quz,Z8,rT,Qz5]
 constructor
 .rintro ⟨h1,_,h3⟩
  refine ⟨fun j w hw=>?_,fun p hp=>?_,h3⟩
  .have hj:=(Z0 hw).1
   have:=h1 j _ (Rs (l:=rows) (i:=j) (by omega))
   rw [Zo] at this ⊢
   rw [Zr (l:=W),hw] at this
   exact this
  .obtain ⟨row,hr,hp⟩:=List.mem_flatten.1 hp
   obtain ⟨j,hj⟩:=List.getElem?_of_mem hr
   have:=h1 j _ hj
   unfold zI at this
   simp only [Z8,List.all_eq_true] at this
   exact (this.2 p hp).1
 .rintro ⟨h1,h2,h3⟩
  refine ⟨fun j row hj=>?_,fun p _ hm=>by simp at hm,h3⟩
  have au:=(Z0 hj).1
  have:=h1 j _ (nh (l:=W) (i:=j) (z:=0) (by omega))
  rw [Zo] at this ⊢
  rw [Zr (l:=rows),hj] at this
  exact this
theorem Qst {d:Nat} {l:List Int} {n:Int} (hl:l.length < 4194304):Oe (d+1) l n=some (l.any fun x=>x==n):=by
 rw [e75]
 refine (Qc (fun (t:Bool) (i:Int)=>(t,i)) l (fun x _ t k=>aa (x==n) (some true) (k t)) (fun _=>some false) ?_ ?_ (by rw [Q6];exact hl) false).trans ?_
 .intro ag t i x hx;have hi:=(Z0 hx).1;simp only [xh,bW hx,nn,Q3,hx,Q9,Q4];rw [aN (by omega)]
 .intro ag t;simp only [xh,bB,Q5];rfl
 .exact OA l 0 false
theorem Vi {d:Nat} {r:Rg} (R:Lr r.1) {W:List Int} {w:Int} {i:Nat} (hw:W[i]? = some w) (hW:W.length<=1000) {row:List Pk} {k:Bs->Option Bool} (t:Bs) (ht:t.2.length<=10000) (hr:row.length<=60) :
  Q8 (nu (d+4) r W (i:Int) row (fun b _ l=>k (b,l))) Qd (t.1,t.2,0)=aa (uL (IX r.1 w) D9 row 0 t) (k (AY row 0 t)) (some false):=by
 refine (Qc (fun (t:Bs) (i:Int)=>(t.1,t.2,i)) row (fun p _ t k=>aa (jR p) (aa (cC r.1 p==w) (Q1 (Oe (d+4) t.2 p.1) fun h=>aa h (some false) (aa (Nat.ble ((t.2.length+[p.1].length)*8) Q7) (k (t.1,t.2++[p.1])) none)) (some false)) (some false)) (fun t=>k t) ?_ ?_ (by rw [Q6];omega) t).trans ?_
 .intro Vg b' j p hp
  have hj:=(Z0 hp).1
  simp only [nu,bW hp,nn,Q3,hp,Q9,Q4,sS hw,hw]
  rw [show d+4=d+1+3 by omega,Qsq,Q9,show d+1+3=d+4 by omega,YP R,Q9,aN (by omega)]
  cases jR p with
  | false=>rfl
  | true =>
   rw [Zl,Q5,Q4]
   by_cases e:cC r.1 p=w
   .rw [show (cC r.1 p != w)=false by rw [e];exact bne_self_eq_false _,Q5,show (cC r.1 p==w)=true from beq_iff_eq.2 e,Q4]
   .rw [show (cC r.1 p != w)=true from bne_iff_ne.2 e,Q4,show (cC r.1 p==w)=false from beq_eq_false_iff_ne.2 e,Q5]
 .intro Vg b'
  simp only [nu,bB,Q5]
 .rw [Vh (p:=IX r.1 w) (f:=D9) (fun j t=>t.2.length<=10000+j) row 0 t (by omega) ?_,Qlt]
  intro j p t k hp hI
  have hj:=(Z0 hp).1
  rw [show d+4=d+3+1 by omega,Qst (by omega),Q9,room (by simp;omega),Q4]
  refine ⟨?_,fun _=>by unfold D9;simp;omega⟩
  unfold IX
  cases jR p with
  | false=>rfl
  | true =>
   rw [Q4,Zg]
   cases (cC r.1 p==w) with
   | false=>rfl
   | true=>rw [Q4,Zg];cases (t.2.any fun z=>z==p.1)<;>rfl
theorem Qsu {d:Nat} {r:Rg} (h:BE r.1):SI (d+13) r=some (sU r):=by
 rw [e35,Qsn h,Q9]
 unfold sU OR
 cases hg:fD r.1 with
 | false=>rfl
 | true =>
  have L:=vu hg
  have R:=Iv hg
  have iI:=L.fJ
  have hf:=L.fl
  have hv:=AH (F:=r.1.2.2.2.1)
  cases hb:AW r.1 r.2.1 with
  | false=>rfl
  | true =>
   rw [Zg,Zg,Zg,Zl,Q5,show d+12=d+10+2 by omega,Is (by omega) hf,Q9]
   unfold rF
   by_cases a:r.2.2.1.length=(bS r.1.2.2.2.1).length
   case neg=>rw [show ((((r.2.2.1.length:Nat):Int)) != (((bS r.1.2.2.2.1).length:Nat):Int))=true by simp;omega,Q4,Q4,Z4 a];rfl
   rw [show ((((r.2.2.1.length:Nat):Int)) != (((bS r.1.2.2.2.1).length:Nat):Int))=false by simp;omega,Q5,Z5 a,Zg,show d+10+2=d+11+1 by omega,vG,Q9,wr (by omega) (by omega)]
   by_cases a1:-1<=r.2.2.2.1/\r.2.2.2.1 < (((bS r.1.2.2.2.1).length:Nat):Int)
   case neg=>rw [Z4 (show ¬ (-1<=r.2.2.2.1/\r.2.2.2.1<=(((bS r.1.2.2.2.1).length:Nat):Int) - 1) by omega),Bool.not_false,Q4,Q4,Z4 a1];rfl
   rw [Z5 (show -1<=r.2.2.2.1/\r.2.2.2.1<=(((bS r.1.2.2.2.1).length:Nat):Int) - 1 by omega),Zl,Q5,Z5 a1,Zg,vG,Q9]
   cases decide (0<=r.2.2.2.2/\r.2.2.2.2<=1000000) with
   | false=>rfl
   | true =>
    rw [Zl,Q5,Zg,<- Qwg a]
    have hW:∀ w∈bS r.1.2.2.2.1,vI r.1.2.1 w:=fun w hw=>by obtain ⟨q1,q2⟩:=Fc hw;exact ⟨q1,by omega⟩
    refine (Qc (fun (t:Bs) (i:Int)=>(t.1,t.2,i)) r.2.2.1 (fun row i t k=>aa (decide (((row.length:Nat):Int) > mD r.1 ((bS r.1.2.2.2.1).getD i 0))) (some false) (Q8 (nu (d+11+1) r (bS r.1.2.2.2.1) (i:Int) row (fun b _ l=>k (b,l))) Qd (t.1,t.2,0))) (fun _=>some true) ?_ ?_ (by rw [Q6];omega) (false,[])).trans ?_
    .intro ag t i row hx
     have hi:=(Z0 hx).1
     have au:i < (bS r.1.2.2.2.1).length:=by omega
     have hw:=nh (l:=bS r.1.2.2.2.1) (i:=i) (z:=0) au
     have gM:=hW _ (Zc hw)
     simp only [xm,bW hx,nn,Q3,hx,Q9,Q4]
     rw [Qp au,Q4,hw,Q9,Z5 gM.1,Q4,fq gM,Q9]
     rw [show xk (d+11+1) ag (i:Int)=fun b _ l=>ag (b,l,((i+1:Nat):Int)) from by
      funext b n l
      unfold xk
      rw [aN (by omega)]]
     rfl
    .intro ag t;simp only [xm,bB,Q5];rfl
    .rw [Vh (p:=IY r.1 (bS r.1.2.2.2.1)) (f:=AY) (fun i t=>t.2.length<=60*i) r.2.2.1 0 (false,[]) (by simp) ?_]
     .cases uL (IY r.1 (bS r.1.2.2.2.1)) AY r.2.2.1 0 (false,[])<;>rfl
     .intro j row t k hj hI
      rw [Zo] at hI ⊢
      have hi:=(Z0 hj).1
      have hw:=nh (l:=bS r.1.2.2.2.1) (i:=j) (z:=0) (by omega)
      have gM:=hW _ (Zc hw)
      have Ir:=R.ai _ (Zc (fq gM))
      unfold IY
      by_cases b1:((row.length:Nat):Int) > mD r.1 ((bS r.1.2.2.2.1).getD j 0)
      .rw [Z5 b1,Q4,Zl,Bool.false_and,Q5]
       exact ⟨rfl,fun h=>absurd h (by simp)⟩
      .rw [Z4 b1,Q5,Bool.not_false,Zg]
       unfold mD at b1
       rw [show d+11+1=d+8+4 by omega,Vi R hw (by omega) t (by omega) (by omega)]
       refine ⟨rfl,fun _=>?_⟩
       unfold AY
       simp only [Zf,List.length_map]
       omega
structure Ro (r:Rg):Prop where
 lk:Lk r.1
 lr:Lr r.1
 t1:r.2.1.1.length=r.1.2.1.length
 t2:r.2.1.2.length=r.1.2.1.length
 rl:r.2.2.1.length=(bS r.1.2.2.2.1).length
 rb:∀ row∈r.2.2.1,row.length<=60
 rp:∀ row∈r.2.2.1,∀ p∈row,jR p=true
 la:-1<=r.2.2.2.1/\r.2.2.2.1 < (((bS r.1.2.2.2.1).length:Nat):Int)
 nw:0<=r.2.2.2.2/\r.2.2.2.2<=1000000
theorem RV {r:Rg} (h:sU r=true):Ro r:=by
 unfold sU OR at h
 simp only [Z8,Zj] at h
 obtain ⟨h1,h2,⟨h3,h4,h5⟩,h6,h7⟩:=h
 have L:=vu h1
 have R:=Iv h1
 obtain ⟨t1,t2⟩:=Qwa h2
 have hf:=L.fl
 obtain ⟨r1,r2⟩:=Qpl R (fun w hw=>by obtain ⟨q1,q2⟩:=Fc hw;exact ⟨q1,by omega⟩) h3 h6
 exact ⟨L,R,t1,t2,h3,r1,r2,h4,h5⟩
theorem Qz6 {d:Nat} {x:Ld} {id:Int} (hl:x.2.1.length<=1000):SJ (d+1) x id=some (bU x.2.1 id):=by
 rw [e56]
 refine (Qc (fun (t:Int) (i:Int)=>(t,i)) x.2.1 (fun y i t k=>aa (y.1==id) (some ((i:Nat):Int)) (k t)) (fun _=>some (-1)) ?_ ?_ (by rw [Q6];omega) 0).trans (DT x.2.1 0 _)
 .intro ag t i x hx;have hi:=(Z0 hx).1;simp only [xu,bW hx,nn,Q3,hx,Q9,Q4];rw [aN (by omega)]
 .intro ag t;simp only [xu,bB,Q5];rfl
theorem RS {r:Rg} (O:Ro r):r.2.2.1.length<=24:=by
 have iI:=O.lk.fJ
 have hf:=O.lk.fl
 have hv:=AH (F:=r.1.2.2.2.1)
 have jZ:=O.rl
 omega
theorem Vj {α γ δ β:Type} {e:α->γ} {f:α->δ} {fin:List γ×List δ->Option β} {w v:Nat}:∀ (l:List α) (i:Nat) (t:List γ×List δ),(t.1.length+l.length)*w<=100000000->(t.2.length+l.length)*v<=100000000 ->
  d_ (fun x _ t k=>aa (Nat.ble ((t.1.length+[e x].length)*w) Q7) (aa (Nat.ble ((t.2.length+[f x].length)*v) Q7) (k (t.1++[e x],t.2++[f x])) none) none) fin l i t=fin (t.1++l.map e,t.2++l.map f)
 | [],i,t,_,_=>by simp [d_]
 | x::r,i,t,h,h'=>by
  simp only [d_]
  rw [room (by
   have:(t.1.length+[e x].length)*w<=(t.1.length+(x::r).length)*w:=Zk w (by simp)
   omega),Q4,room (by
   have:(t.2.length+[f x].length)*v<=(t.2.length+(x::r).length)*v:=Zk v (by simp)
   omega),Q4]
  rw [Vj r (i+1) (t.1++[e x],t.2++[f x]) (by
   refine Nat.le_trans (Zk w ?_) h
   simp;omega) (by
   refine Nat.le_trans (Zk v ?_) h'
   simp;omega)]
  simp
def BC (x:Ld):Tk:=(x.2.1.map fun c=>c.2.2.2.2.1,x.2.1.map fun c=>c.2.2.2.2.2.1)
theorem Qhq {d:Nat} {x:Ld} (hl:x.2.1.length<=1000):T4 (d+1) x=some (BC x):=by
 rw [e96]
 refine (Qc (fun (t:Tk) (i:Int)=>(i,t)) x.2.1 (fun c _ t k=>aa (Nat.ble ((t.1.length+[c.2.2.2.2.1].length)*8) Q7) (aa (Nat.ble ((t.2.length+[c.2.2.2.2.2.1].length)*8) Q7) (k (t.1++[c.2.2.2.2.1],t.2++[c.2.2.2.2.2.1])) none) none) (fun t=>some t) ?_ ?_ (by rw [Q6];omega) ([],[])).trans ?_
 .intro ag t i x hx;have hi:=(Z0 hx).1;simp only [yW,bW hx,nn,Q3,hx,Q9,Q4];rw [aN (by omega)]
 .intro ag t;simp only [yW,bB,Q5];rfl
 .rw [Vj (e:=fun c:aC=>c.2.2.2.2.1) (f:=fun c:aC=>c.2.2.2.2.2.1) x.2.1 0 ([],[]) (by simp;omega) (by simp;omega)]
  rfl
theorem Qsv {d:Nat} {x:Ld} (hl:x.2.1.length<=1000):FI (d+1) x=some (BC x):=by
 rw [SK]
 refine (Qc (fun (t:Tk) (i:Int)=>(i,t)) x.2.1 (fun c _ t k=>aa (Nat.ble ((t.1.length+[c.2.2.2.2.1].length)*8) Q7) (aa (Nat.ble ((t.2.length+[c.2.2.2.2.2.1].length)*8) Q7) (k (t.1++[c.2.2.2.2.1],t.2++[c.2.2.2.2.2.1])) none) none) (fun t=>some t) ?_ ?_ (by rw [Q6];omega) ([],[])).trans ?_
 .intro ag t i x hx;have hi:=(Z0 hx).1;simp only [pH,bW hx,nn,Q3,hx,Q9,Q4];rw [aN (by omega)]
 .intro ag t;simp only [pH,bB,Q5];rfl
 .rw [Vj (e:=fun c:aC=>c.2.2.2.2.1) (f:=fun c:aC=>c.2.2.2.2.2.1) x.2.1 0 ([],[]) (by simp;omega) (by simp;omega)]
  rfl
theorem Yz {x:Ld} (h:fD x=true):bT (fK x)=x:=by
 unfold fD Dl at h
 simp only [Z8,Zj,beq_iff_eq] at h
 obtain ⟨_,_,s1,s2,s3,s4,s5,s6,s7⟩:=h
 exact Prod.ext rfl (Prod.ext s1.symm (Prod.ext s2.symm (Prod.ext s3.symm (Prod.ext s4.symm (Prod.ext s5.symm (Prod.ext rfl (Prod.ext s6.symm s7.symm)))))))
theorem N1 {x:Ld} (h:fD x=true):gb (fK x)=true:=by
 unfold fD at h
 simp only [Z8] at h
 exact h.2.1
theorem Qsx {c:Cf} (G:Gd c):(bT c).2.2.2.2.1.length<=24/\(bT c).2.2.2.2.2.1.length<=24/\(bT c).2.2.2.2.2.2.2.1.length<=16:=by
 have h1:=GD G.tr
 have h2:=G.tr.fJ
 have h3:=G.f16
 refine ⟨?_,?_,?_⟩
 .show ((aG c.2.1).map (fun i=>pW c.2.1 (uH c.2.1 i))).length<=24
  rw [List.length_map];omega
 .show ((aG c.2.1).mapIdx (nL c.2.1)).length<=24
  rw [List.length_mapIdx];omega
 .show (c.2.2.1.map (fun f=>pW c.2.1 (bU c.2.1 f.2.2.2.2))).length<=16
  rw [List.length_map];omega
theorem Qwi {x:Ld} (h:fD x=true):x.2.2.2.2.1.length<=24/\x.2.2.2.2.2.1.length<=24/\x.2.2.2.2.2.2.2.1.length<=16:=by
 have:=Qsx (q_ (N1 h))
 rw [Yz h] at this;exact this
theorem Qpn {α γ:Type} {c:α->Nat->Bool} {e:α->Nat->γ}:∀ (l:List α) (i j:Nat) (x:α),l[j]? = some x->c x (i+j)=true->e x (i+j)∈fI c e l i
 | [],i,j,x,h,_=>by simp at h
 | y::r,i,0,x,h,hc=>by
  simp only [List.getElem?_cons_zero,Option.some.injEq] at h
  subst h
  rw [Nat.add_zero] at hc ⊢
  unfold fI;rw [if_pos hc];simp
 | y::r,i,j+1,x,h,hc=>by
  have:=Qpn (c:=c) (e:=e) r (i+1) j x (by simpa using h) (by rw [show i+1+j=i+(j+1) by omega];exact hc)
  rw [show i+1+j=i+(j+1) by omega] at this
  unfold fI
  split
  .exact List.mem_cons_of_mem _ this
  .exact this
theorem Qpo {c:Cf} (G:Gd c) {id:Int} (hv:vI c.2.1 (bU c.2.1 id)) (hl:ij c.2.1 id=true):pW c.2.1 (bU c.2.1 id)∈bS (bT c).2.2.2.1:=by
 have T:=G.tr
 obtain ⟨k,h1,h2⟩:=Bz T hv
 obtain ⟨_,x,e1,e2,e3⟩:=BA hv.1
 have hid:(aX c.2.1 (bU c.2.1 id)).1=id:=by rw [e1,kO e2,e3]
 have hk:cg c.2.1 (bU c.2.1 id)=[]:=by
  unfold cg nG
  rw [hid]
  have:=La (c:=fun x:aC=>x.2.1==id) (e:=fun _ k=>((k:Nat):Int)) c.2.1 0
  unfold ij at hl
  rw [hl] at this
  exact Z1 (by simpa using this)
 have hF:(bT c).2.2.2.1[k]? = some (-1):=by
  show ((aG c.2.1).map (fun i=>pW c.2.1 (vL c.2.1 i)))[k]? = some (-1)
  rw [List.getElem?_map,h1]
  show some (pW c.2.1 ((cg c.2.1 (bU c.2.1 id)).headD (-1)))=some (-1)
  rw [hk]
  exact congrArg some (uG T (by simp))
 rw [h2]
 have:=Qpn (c:=fun (f:Int) _=>decide (f < 0)) (e:=fun _ k=>((k:Nat):Int)) (bT c).2.2.2.1 0 k (-1) hF (by simp)
 rw [Zo] at this
 exact this
theorem Rx {c:Cf} (G:Gd c) (p:Pk):cC (bT c) p < 0\/cC (bT c) p∈bS (bT c).2.2.2.1:=by
 unfold cC
 split
 .rename_i h
  have au:=Vf h
  right
  have hm:(bT c).2.2.2.2.2.2.2.1.getD (uK (bT c).2.2.2.2.2.2.1 p).toNat 0∈(bT c).2.2.2.2.2.2.2.1:=by
   refine Zc (i:=(uK (bT c).2.2.2.2.2.2.1 p).toNat) (nh ?_)
   show _ < (c.2.2.1.map _).length
   rw [List.length_map]
   have:uK (bT c).2.2.2.2.2.2.1 p < ((c.2.2.1.length:Nat):Int):=au
   omega
  generalize (bT c).2.2.2.2.2.2.2.1.getD (uK (bT c).2.2.2.2.2.2.1 p).toNat 0=w at hm
  obtain ⟨f,hf,rfl⟩:=List.mem_map.1 (show w∈c.2.2.1.map (fun f=>pW c.2.1 (bU c.2.1 f.2.2.2.2)) from hm)
  obtain ⟨t1,t2,_⟩:=G.Li f hf
  exact Qpo G t1 t2
 .show vr c < 0\/vr c∈_
  unfold vr
  split
  .left;omega
  .rename_i h
   obtain ⟨t1,t2⟩:=G.Ke h
   exact Or.inr (Qpo G t1 t2)
end Go.Proofs.YtcoimfbmgjhcjaaGreatDoor
